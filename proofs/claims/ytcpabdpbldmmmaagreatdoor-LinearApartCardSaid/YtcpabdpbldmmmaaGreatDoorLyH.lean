/-
  What is in what: contracts.
-/
import Derived.Test.YtcpabdpbldmmmaaGreatDoorLyHf
set_option linter.unusedVariables false
set_option linter.unusedSimpArgs false
namespace Go.Sx
open Go Go.Proofs
open Go.RowKit (Below)
def pathF : Nat → List Place → Int → Option (List Place)
 | 0, _, _ => none
 | n + 1, ws, i => (lget ws i).bind fun p => if p.kind = 2 then (pathF n ws p.id).map (p :: ·) else some [p]
theorem QV {ws : List Place} : ∀ {n : Nat} {i : Int} {l : List Place}, pathF n ws i = some l → (∃ p0, lget ws i = some p0 ∧ zf ws l p0) ∧ l.length ≤ n
 | 0, _, _, h => by cases h
 | n + 1, i, l, h => by
   unfold pathF at h
   obtain ⟨p, hp, h⟩ := Option.bind_eq_some_iff.1 h
   split at h
   ·rename_i hk
    obtain ⟨r, hr, rfl⟩ := Option.map_eq_some_iff.1 h
    obtain ⟨⟨p', hp', hi⟩, hl⟩ := QV hr
    exact ⟨⟨p, hp, rfl, .inr ⟨hk, p', hp', hi⟩⟩, by simpa using hl⟩
   ·rename_i hk
    cases h
    exact ⟨⟨p, hp, rfl, .inl ⟨hk, rfl⟩⟩, by simp⟩
noncomputable def vQ (w : World) (i : Int) : Option Place := (pathF 100 w.where_ i).bind fun l => l.getLast?
noncomputable def kM (w : World) (i : Int) : Option Int := (pathF 100 w.where_ i).map fun l => (l.length : Int) - 1
noncomputable def zx (w : World) (i b : Int) : Option Bool := if i = b then some true else (pathF 100 w.where_ i).map fun l => l.any fun p => decide (p = ⟨2, b⟩)
theorem Vc {D : Nat → Prop} {w : GW} {e : Kd} {l : List e.T} {v : Value} (h : DR D w (.sl e l) v) : ∃ A cap, v = .slice A l.length cap ∧ ∃ cv : Nat → Nat → Value,
  (∀ i, i < l.length → ∃ a, A = some a ∧ D a.block ∧ ∀ j, j < e.size → w.cell? (a.add (i * e.size + j)) = some (cv i j)) ∧ ∀ i (h : i < l.length) j (hj : j < (e.cells l[i]).length), DR D w ((e.cells l[i])[j]) (cv i j) := by
 cases h with
 | sl _ _ A cap cv h1 h2 h3 h4 => exact ⟨A, cap, rfl, cv, h2, h4⟩
theorem Qd {D : Nat → Prop} {w : GW} {k : IntKind} {n : Int} {v : Value} (h : DR D w (.int k n) v) : v = .int k n := by cases h; rfl
theorem ZK {ok : Nat → Prop} {w : GW} {wld : World} {v : Value} (hlt : ∀ c, ok c → c < w.heap.size) (h : DR ok w (.agg (SN.cells .world wld)) v) : ∃ x : WV, v = .agg x.cs ∧ Things w x wld.where_ := by
 cases h with
 | agg _ vs hl hone hh =>
   have hlen : vs.length = 11 := hl.symm
   match vs, hlen, hh with
   | [v0, v1, v2, v3, v4, v5, v6, v7, v8, v9, v10], _, hh =>
     obtain ⟨a0, c0, rfl, _⟩ := Vc (show DR ok w (.sl (.st .exits) wld.desc.exits) v0 from hh 0 (Nat.lt_of_lt_of_eq (by decide : 0 < 11) (SN.cells_length .world wld).symm) (by simp))
     obtain ⟨a1, c1, rfl, _⟩ := Vc (show DR ok w (.sl (.int .i64) wld.desc.players) v1 from hh 1 (Nat.lt_of_lt_of_eq (by decide : 1 < 11) (SN.cells_length .world wld).symm) (by simp))
     obtain ⟨a2, c2, rfl, _⟩ := Vc (show DR ok w (.sl (.int .i64) wld.desc.coins) v2 from hh 2 (Nat.lt_of_lt_of_eq (by decide : 2 < 11) (SN.cells_length .world wld).symm) (by simp))
     obtain ⟨a3, c3, rfl, _⟩ := Vc (show DR ok w (.sl (.int .i64) wld.desc.items) v3 from hh 3 (Nat.lt_of_lt_of_eq (by decide : 3 < 11) (SN.cells_length .world wld).symm) (by simp))
     obtain ⟨a4, c4, rfl, _⟩ := Vc (show DR ok w (.sl .bool wld.desc.boxes) v4 from hh 4 (Nat.lt_of_lt_of_eq (by decide : 4 < 11) (SN.cells_length .world wld).symm) (by simp))
     obtain rfl := Qd (show DR ok w (.int .i64 wld.desc.room) v5 from hh 5 (Nat.lt_of_lt_of_eq (by decide : 5 < 11) (SN.cells_length .world wld).symm) (by simp))
     obtain rfl := Qd (show DR ok w (.int .i64 wld.desc.player) v6 from hh 6 (Nat.lt_of_lt_of_eq (by decide : 6 < 11) (SN.cells_length .world wld).symm) (by simp))
     obtain rfl := Qd (show DR ok w (.int .i64 wld.desc.box) v7 from hh 7 (Nat.lt_of_lt_of_eq (by decide : 7 < 11) (SN.cells_length .world wld).symm) (by simp))
     obtain ⟨a8, c8, rfl, _⟩ := Vc (show DR ok w (.sl (.int .i64) wld.at_) v8 from hh 8 (Nat.lt_of_lt_of_eq (by decide : 8 < 11) (SN.cells_length .world wld).symm) (by simp))
     obtain ⟨a9, c9, rfl, _⟩ := Vc (show DR ok w (.sl (.int .i64) wld.coins) v9 from hh 9 (Nat.lt_of_lt_of_eq (by decide : 9 < 11) (SN.cells_length .world wld).symm) (by simp))
     obtain ⟨a10, c10, rfl, cv, h1, h2⟩ := Vc (show DR ok w (.sl (.st .place) wld.where_) v10 from hh 10 (Nat.lt_of_lt_of_eq (by decide : 10 < 11) (SN.cells_length .world wld).symm) (by simp))
     refine ⟨⟨a0, _, c0, a1, _, c1, a2, _, c2, a3, _, c3, a4, _, c4, _, _, _, a8, _, c8, a9, _, c9, a10, _, c10⟩, rfl, rfl, fun i hi => ?_⟩
     obtain ⟨a, e, hD, hc⟩ := h1 i hi
     refine ⟨a, e, hlt _ hD, ?_, ?_⟩
     ·have := hc 0 (by decide)
      rw [Qd (show DR ok w (.int .i64 (wld.where_[i]).kind) (cv i 0) from h2 i hi 0 (Nat.lt_of_lt_of_eq (by decide : 0 < 2) (SN.cells_length .place _).symm))] at this
      exact this
     ·have := hc 1 (by decide)
      rw [Qd (show DR ok w (.int .i64 (wld.where_[i]).id) (cv i 1) from h2 i hi 1 (Nat.lt_of_lt_of_eq (by decide : 1 < 2) (SN.cells_length .place _).symm))] at this
      rw [jh]
      exact this
theorem RV {D : Nat → Prop} {w : GW} {a b : AV} {vs : List Value} (h : DRs D w [a, b] vs) : ∃ x y, vs = [x, y] ∧ DR D w a x ∧ DR D w b y := by
 obtain ⟨h1, h2⟩ := h
 match vs, h1, h2 with
 | [x, y], _, h2 => exact ⟨x, y, rfl, h2 0 (by simp) (by simp), h2 1 (by simp) (by simp)⟩
theorem qd3 {D : Nat → Prop} {w : GW} {a b c : AV} {vs : List Value} (h : DRs D w [a, b, c] vs) : ∃ x y z, vs = [x, y, z] ∧ DR D w a x ∧ DR D w b y ∧ DR D w c z := by
 obtain ⟨h1, h2⟩ := h
 match vs, h1, h2 with
 | [x, y, z], _, h2 => exact ⟨x, y, z, rfl, h2 0 (by simp) (by simp), h2 1 (by simp) (by simp), h2 2 (by simp) (by simp)⟩
theorem in140h : FnIn Tryz.prog 140 Tryz.f140 := .mk Tryz.func140 (by kernel_rfl) (by kernel_rfl)
theorem in114h : FnIn Tryz.prog 114 Tryz.f114 := .mk Tryz.func114 (by kernel_rfl) (by kernel_rfl)
theorem in112h : FnIn Tryz.prog 112 Tryz.f112 := .mk Tryz.func112 (by kernel_rfl) (by kernel_rfl)
theorem UW : FnOK Tryz.prog 140 ∧ CtrOK Tryz.prog GL 140 (ql [.st .world, .int .i64] [.st .place] vQ) := by
 refine ⟨⟨_, in140h⟩, Da fun xs z hz ok w vs hlt hg hd => ?_⟩
 obtain ⟨wld, i, _⟩ := xs
 obtain ⟨l, hl, hz⟩ := Option.bind_eq_some_iff.1 (show vQ wld i = some z from hz)
 obtain ⟨⟨p0, h0, hp⟩, hlen⟩ := QV hl
 obtain ⟨pre, rfl⟩ := List.getLast?_eq_some_iff.1 hz
 obtain ⟨v1, v2, rfl, d1, d2⟩ := RV (show DRs ok w [.agg (SN.cells .world wld), .int .i64 i] vs from hd)
 obtain ⟨x, rfl, ht⟩ := ZK hlt d1
 obtain rfl := Qd d2
 refine (callsIn_wide.1 (Tryz.root_in 9 (Nat.le_refl _) x ht h0 hp (by simp at hlen; omega))).mono ?_
 rintro e w' ⟨rfl, hb⟩
 refine ⟨_, rfl, hb, .agg [.int .i64 z.kind, .int .i64 z.id] [.int .i64 z.kind, .int .i64 z.id] rfl (by simp [Value.oneCell']) fun j h1 h2 => ?_⟩
 match j, h1 with
 | 0, _ => exact .int _ _
 | 1, _ => exact .int _ _
theorem VZ : FnOK Tryz.prog 114 ∧ CtrOK Tryz.prog GL 114 (ql [.st .world, .int .i64] [.int .i64] kM) := by
 refine ⟨⟨_, in114h⟩, Da fun xs z hz ok w vs hlt hg hd => ?_⟩
 obtain ⟨wld, i, _⟩ := xs
 obtain ⟨l, hl, rfl⟩ := Option.map_eq_some_iff.1 (show kM wld i = some z from hz)
 obtain ⟨⟨p0, h0, hp⟩, hlen⟩ := QV hl
 obtain ⟨v1, v2, rfl, d1, d2⟩ := RV (show DRs ok w [.agg (SN.cells .world wld), .int .i64 i] vs from hd)
 obtain ⟨x, rfl, ht⟩ := ZK hlt d1
 obtain rfl := Qd d2
 refine (callsIn_wide.1 (Tryz.depth_in 9 (Nat.le_refl _) x ht h0 hp (by omega))).mono ?_
 rintro e w' ⟨rfl, hb⟩
 exact ⟨_, rfl, hb, .int _ _⟩
theorem KB : FnOK Tryz.prog 112 ∧ CtrOK Tryz.prog GL 112 (ql [.st .world, .int .i64, .int .i64] [.bool] zx) := by
 refine ⟨⟨_, in112h⟩, Da fun xs z hz ok w vs hlt hg hd => ?_⟩
 obtain ⟨wld, i, b, _⟩ := xs
 have hz' : zx wld i b = some z := hz
 obtain ⟨v1, v2, v3, rfl, d1, d2, d3⟩ := qd3 (show DRs ok w [.agg (SN.cells .world wld), .int .i64 i, .int .i64 b] vs from hd)
 obtain ⟨x, rfl, ht⟩ := ZK hlt d1
 obtain rfl := Qd d2
 obtain rfl := Qd d3
 unfold zx at hz'
 split at hz'
 ·rename_i e
  subst e
  cases hz'
  refine (callsIn_wide.1 (Tryz.within_eq 9 (Nat.le_refl _) x)).mono ?_
  rintro e w' ⟨rfl, hb⟩
  exact ⟨_, rfl, hb, .bool _⟩
 ·rename_i hne
  obtain ⟨l, hl, rfl⟩ := Option.map_eq_some_iff.1 hz'
  obtain ⟨⟨p0, h0, hp⟩, hlen⟩ := QV hl
  refine (callsIn_wide.1 (Tryz.within_in 9 (Nat.le_refl _) x ht hne h0 hp)).mono ?_
  rintro e w' ⟨⟨t, rfl, hiff⟩, hb⟩
  refine ⟨_, rfl, hb, ?_⟩
  have : t = l.any fun p => decide (p = (⟨2, b⟩ : Place)) := by
   rw [Bool.eq_iff_iff, hiff, List.any_eq_true]
   simp
  rw [this]
  exact .bool _
end Go.Sx
