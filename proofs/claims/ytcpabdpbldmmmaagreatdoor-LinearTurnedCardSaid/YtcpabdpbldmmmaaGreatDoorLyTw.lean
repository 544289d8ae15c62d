/-
  Layer 24: the laws LinearGood and LinearTurned (plain).
-/
import Derived.Test.YtcpabdpbldmmmaaGreatDoorLyTv
set_option linter.unusedVariables false
set_option linter.unusedSimpArgs false
namespace Go.Sx
open Go Go.Proofs
theorem DX {o : List Int} {i : Nat} {a : Int} {j : Nat} (hi : i < o.length) : gi (lset o (i : Int) a) (j : Int) = if j = i then a else gi o (j : Int) := by
 rw [show lset o (i : Int) a = o.set (i : Int).toNat a from rfl, gi_set (by omega) (by omega) (by omega)]
 by_cases e : j = i
 ·rw [if_pos (by omega), if_pos e]
 ·rw [if_neg (by omega), if_neg e]
theorem gi_take {o : List Int} {n k : Nat} (hn : n ≤ o.length) (hk : k < n) : gi (ltake o (n : Int)) (k : Int) = gi o (k : Int) := by
 have h1 := KM hn hk
 rw [qm (by omega) (by rw [show ltake o (n : Int) = o.take (n : Int).toNat from rfl, Int.toNat_natCast, List.length_take]; omega)] at h1
 exact Option.some.inj h1
theorem R4 {o : List Int} {n : Nat} (hn : n ≤ o.length) : (ltake o (n : Int)).length = n := by
 rw [show ltake o (n : Int) = o.take (n : Int).toNat from rfl, Int.toNat_natCast, List.length_take]
 omega
theorem qdl {w : World} {l : List Call} {o o' : List Int} {n : Nat} (h : ∀ k, k < n → gi o' (k : Int) = gi o (k : Int)) : ∀ k, k ≤ n → wK w l o' k = wK w l o k
 | 0, _ => rfl
 | k + 1, hk => by
   show (DoP (wK w l o' k) (cK l o' k).player (cK l o' k).cmd).1 = (DoP (wK w l o k) (cK l o k).player (cK l o k).cmd).1
   have e : cK l o' k = cK l o k := by
    unfold cK
    rw [h k (by omega)]
   rw [qdl h k (by omega), e]
theorem qco {w : World} {l : List Call} {o : List Int} {n : Nat} (hn : o.length = n + 1) (h : zn w l o) : zn w l (ltake o (n : Int)) ↔ ¬ 0 ≤ (cK l o n).to := by
 have hgi : ∀ k, k < n → gi (ltake o (n : Int)) (k : Int) = gi o (k : Int) := fun k hk => gi_take (by omega) hk
 obtain ⟨⟨h1, h2⟩, h3⟩ := h
 unfold zn jf
 rw [R4 (by omega)]
 constructor
 ·rintro ⟨⟨_, g2⟩, _⟩ ha
  have hr := (h1 n (by omega)).1
  obtain ⟨j, hj, e⟩ := g2 (gi o (n : Int)).toNat (by omega) ha
  rw [hgi j hj, Int.toNat_of_nonneg hr.1] at e
  exact ((h1 n (by omega)).2 j hj).1 e.symm
 ·intro ha
  refine ⟨⟨fun k hk => ?_, fun c hc hans => ?_⟩, fun k hk => ?_⟩
  ·have := h1 k (by omega)
   unfold vQ at this ⊢
   rw [hgi k hk]
   refine ⟨this.1, fun j hj => ?_⟩
   rw [hgi j (by omega)]
   exact this.2 j hj
  ·obtain ⟨j, hj, e⟩ := h2 c hc hans
   have hne : j ≠ n := by
    rintro rfl
    refine ha ?_
    unfold cK
    rw [e, Int.toNat_natCast]
    exact hans
   exact ⟨j, by omega, by rw [hgi j (by omega), e]⟩
  ·have e : cK l (ltake o (n : Int)) k = cK l o k := by
    unfold cK
    rw [hgi k hk]
   unfold rK
   rw [e, qdl hgi k (by omega)]
   exact h3 k (by omega)
theorem MI {w : World} {l : List Call} {o : List Int} {i : Nat} (hi : i + 1 < o.length) (ha : qF l (gi o (i : Int)).toNat (gi o ((i + 1 : Nat) : Int)).toNat) :
  ¬ zn w l (lset (lset o (i : Int) (gi o ((i + 1 : Nat) : Int))) ((i + 1 : Nat) : Int) (gi o (i : Int))) := by
 rintro ⟨⟨h1, _⟩, _⟩
 have hl : (lset o (i : Int) (gi o ((i + 1 : Nat) : Int))).length = o.length := List.length_set
 have hl2 : (lset (lset o (i : Int) (gi o ((i + 1 : Nat) : Int))) ((i + 1 : Nat) : Int) (gi o (i : Int))).length = o.length := by
  rw [show (lset (lset o (i : Int) (gi o ((i + 1 : Nat) : Int))) ((i + 1 : Nat) : Int) (gi o (i : Int))).length = (lset o (i : Int) (gi o ((i + 1 : Nat) : Int))).length from List.length_set, hl]
 have := ((h1 (i + 1) (by rw [hl2]; exact hi)).2 i (by omega)).2
 have e1 : gi (lset (lset o (i : Int) (gi o ((i + 1 : Nat) : Int))) ((i + 1 : Nat) : Int) (gi o (i : Int))) ((i + 1 : Nat) : Int) = gi o (i : Int) := by
  rw [DX (by rw [hl]; exact hi), if_pos rfl]
 have e2 : gi (lset (lset o (i : Int) (gi o ((i + 1 : Nat) : Int))) ((i + 1 : Nat) : Int) (gi o (i : Int))) (i : Int) = gi o ((i + 1 : Nat) : Int) := by
  rw [DX (o := lset o (i : Int) (gi o ((i + 1 : Nat) : Int))) (i := i + 1) (by rw [hl]; exact hi), if_neg (by omega), DX (by omega), if_pos rfl]
 rw [e1, e2] at this
 exact this ha
theorem qik {w : World} {l : List Call} {o : List Int} (h0 : 0 < o.length) : ¬ zn w l (o ++ [gi o ((0 : Nat) : Int)]) := by
 rintro ⟨⟨h1, _⟩, _⟩
 have := ((h1 o.length (by rw [List.length_append, List.length_singleton]; omega)).2 0 h0).1
 rw [qee, kW h0] at this
 exact this rfl
open Classical in
theorem lt7 {w : World} (h : RightP w) {l : List Call} (hf : jY w.at_.length l) (hl : l.length ≤ 1000) {o : List Int} (ho : o.length ≤ 900) {n : Nat} (hn : o.length = n + 1) (hr : inR l o o.length) :
  qt linearTurned.lr7.T ql (((l, (o, ((n : Int), ((0 : Int), ())))), (wTo w, ()))) = some (.inr ((l, (o, ())), (wTo w, ()))) := by
 refine qJ (T := linearTurned.lr7.T) (fun i => ((l, (o, ((n : Int), ((i : Int), ())))), (wTo w, ()))) (.inr ((l, (o, ())), (wTo w, ()))) n (by omega) ?_ ?_
 ·intro i hi rec
  have a := hr i (by omega)
  have b := hr (i + 1) (by omega)
  have hll : (lset o (i : Int) (gi o ((i + 1 : Nat) : Int))).length = o.length := List.length_set
  have hl2 : (lset (lset o (i : Int) (gi o ((i + 1 : Nat) : Int))) ((i + 1 : Nat) : Int) (gi o (i : Int))).length = o.length := by
   rw [show (lset (lset o (i : Int) (gi o ((i + 1 : Nat) : Int))) ((i + 1 : Nat) : Int) (gi o (i : Int))).length = (lset o (i : Int) (gi o ((i + 1 : Nat) : Int))).length from List.length_set, hll]
  unfold linearTurned.lr7.T
  dsimp only
  rw [qK (i := i) (by omega), qn (by omega), UK (by omega), qm (j := ((i + 1 : Nat) : Int)) (by omega) (by omega), qg, qC (by omega), qn (by rw [ilen_eq]; omega), qm (j := (i : Int)) (by omega) (by omega), qg, qg, qC (by omega), qn (by rw [ilen_eq, hll]; omega),
   qm (l := lset o (i : Int) (gi o ((i + 1 : Nat) : Int))) (by omega) (by rw [hll]; omega), qg, qg, q9 a.1 a.2, qg, qg, q9 b.1 b.2, qg]
  by_cases h0 : 0 ≤ (qk l (gi o (i : Int)).toNat).to
  ·rw [qC h0]
   by_cases h1 : (qk l (gi o (i : Int)).toNat).to < (qk l (gi o ((i + 1 : Nat) : Int)).toNat).frm
   ·rw [qn h1, show wOf (wTo w) = w from rfl, ZE h hf hl _ (by rw [hl2]; omega), qg, decide_eq_false (MI (by omega) ⟨h0, h1⟩), q8 rfl]
   ·rw [qw h1]
  ·rw [jE h0]
 ·intro rec
  unfold linearTurned.lr7.T
  dsimp only
  rw [qw (by omega)]
open Classical in
theorem MH (w : World) (l : List Call) (o : List Int) : jN w l o = some true := by
 unfold jN
 rw [qg1, qg, q8 (b := bnot true) rfl]
 obtain ⟨b, e, hb⟩ := qj9 w l 20 (by omega)
 rw [e, qg]
 cases b with
 | false => exact ct rfl rfl
 | true =>
   obtain ⟨h, hf, hl⟩ := hb rfl
   rw [q8 (b := bnot true) rfl]
   by_cases ho : (30 : Int) < (o.length : Int)
   ·rw [qn (by rw [ilen_eq]; exact ho)]
    rfl
   rw [qw (by rw [ilen_eq]; exact ho), QB h hf (by omega) o (by omega), qg]
   by_cases hg : zn w l o
   ·rw [decide_eq_true hg, q8 (b := bnot true) rfl]
    by_cases h0 : o.length = 0
    ·rw [qQ (by rw [ilen_eq]; omega)]
     rfl
    obtain ⟨n, hn⟩ : ∃ n, o.length = n + 1 := ⟨o.length - 1, by omega⟩
    have hk : wrap .i64 (isub (qh o) 1) = (n : Int) := by
     show wrap .i64 (qh o - 1) = _
     rw [ilen_eq, qV (by omega) (by omega)]
     omega
    have hr : inR l o o.length := GC hg.1.1
    have hx := hr n (by omega)
    have hne : ∀ {α : Type} (x y : α), cnd (ilt (imul (iadd 0 (qh o)) 8) 140737488355329) x y = x := fun x y => UK (by omega)
    have hne' : ∀ {α : Type} (x y : α), cnd (ilt (imul (iadd (qh o) 1) 8) 140737488355329) x y = x := fun x y => qn (by rw [ilen_eq]; show ((o.length : Int) + 1) * 8 < _; omega)
    have hg0 : lget o 0 = some (gi o ((0 : Nat) : Int)) := qm (by omega) (by omega)
    have hag : qA w l (lapp o [gi o ((0 : Nat) : Int)]) = some false := by
     rw [ZE h hf (by omega) _ (by rw [show lapp o [gi o ((0 : Nat) : Int)] = o ++ [gi o ((0 : Nat) : Int)] from rfl, List.length_append, List.length_singleton]; omega), decide_eq_false (qik (by omega))]
    rw [qL (by rw [ilen_eq]; omega), hk, qC (by omega), qC (by rw [ilen_eq]; omega), ZE h hf (by omega) _ (by rw [R4 (by omega)]; omega), qg, qm (by omega) (by omega), qg, q9 hx.1 hx.2, qg]
    have hsh : decide (zn w l (ltake o (n : Int))) = ilt (qk l (gi o (n : Int)).toNat).to 0 := by
     refine decide_eq_decide.2 ?_
     rw [qco hn hg]
     exact ⟨fun h => by unfold cK at h; omega, fun h => by unfold cK; omega⟩
    rw [hsh, q8 (b := bnot (beq' _ _)) (by simp), lt7 h hf (by omega) (by omega) hn hr, qg, jl]
    dsimp only
    simp only [hne, hne', hg0, qg, show wOf (wTo w) = w from rfl, hag, jQ]
    rfl
   ·rw [decide_eq_false hg]
    exact ct rfl rfl
theorem linearTurned_ok : ∀ xs : Lf [.st .world, .sl (.st .call), .sl (.int .i64)], (∀ m, wfA m _ xs) → jN xs.1 xs.2.1 xs.2.2.1 = some true := fun xs _ => MH xs.1 xs.2.1 xs.2.2.1
end Go.Sx
