/-
  Worlds: what is in what (plain).
-/
import Derived.Test.YtcpabdpbldmmmaaGreatDoorLyTg
import Derived.Test.YtcpabdpbldmmmaaGreatDoorLyD
set_option linter.unusedVariables false
set_option linter.unusedSimpArgs false
namespace Go.Sx
open Go Go.Proofs
theorem Yg (w : World) : ∀ (n : Nat) (i : Int), Bj n w i = (pathF n w.where_ i).bind fun l => l.getLast?
 | 0, _ => rfl
 | n + 1, i => by
   show NI (Bj n) w i = _
   unfold NI pathF
   cases hl : lget w.where_ i with
   | none => rfl
   | some p =>
     rw [qg]
     simp only [Option.bind_some]
     by_cases hk : p.kind = 2
     ·rw [qv, if_pos hk, if_pos hk, Yg w n p.id]
      cases hp : pathF n w.where_ p.id with
      | none => rfl
      | some l =>
        cases l with
        | nil =>
          obtain ⟨⟨_, _, h⟩, _⟩ := QV hp
          exact h.elim
        | cons a r =>
          simp [List.getLast?_cons_cons]
     ·rw [qv, if_neg hk, if_neg hk]
      rfl
theorem KG (w : World) (i : Int) : NJ w i = vQ w i := Yg w 100 i
theorem Rc {ws : List Place} (h : ∀ q ∈ ws, WFp ws q) : ∀ (d : Nat) (i : Int) (n : Nat), 0 ≤ i → i < (ws.length : Int) → Dep ws (upW ws i.toNat) d → d < n → ∃ l, pathF n ws i = some l ∧ l.length = d + 1
 | d, i, 0, _, _, _, hn => by omega
 | 0, i, n + 1, h0, h1, hd, _ => by
   have hl : lget ws i = some (upW ws i.toNat) := by rw [jd h0 h1, zI (show i.toNat < ws.length by omega)]
   unfold pathF
   rw [hl]
   simp only [Option.bind_some]
   cases hd with
   | base _ hk => rw [if_neg hk]; exact ⟨_, rfl, rfl⟩
 | d + 1, i, n + 1, h0, h1, hd, hn => by
   have hl : lget ws i = some (upW ws i.toNat) := by rw [jd h0 h1, zI (show i.toNat < ws.length by omega)]
   unfold pathF
   rw [hl]
   simp only [Option.bind_some]
   cases hd with
   | step _ hk _ t =>
     rw [if_pos hk]
     obtain ⟨g0, g1⟩ := wf_up h i.toNat hk
     obtain ⟨l, e1, e2⟩ := Rc h d _ n g0 g1 t (by omega)
     exact ⟨_, by rw [e1]; rfl, by simp [e2]⟩
theorem KA (w : World) (b : Int) : ∀ (n : Nat) (i : Int) (l : List Place), pathF n w.where_ i = some l → Q0 n w i b = some (decide (i = b) || l.any fun p => decide (p = ⟨2, b⟩))
 | 0, _, _, h => by cases h
 | n + 1, i, l, h => by
   show Gh (Q0 n) w i b = _
   unfold Gh
   unfold pathF at h
   by_cases e : i = b
   ·rw [qM e, decide_eq_true e]
    rfl
   ·rw [qI e, decide_eq_false e]
    obtain ⟨p, hp, h⟩ := Option.bind_eq_some_iff.1 h
    rw [hp, qg]
    split at h
    ·rename_i hk
     obtain ⟨r, hr, rfl⟩ := Option.map_eq_some_iff.1 h
     rw [qM hk, KA w b n p.id r hr, qg]
     have : decide (p = (⟨2, b⟩ : Place)) = decide (p.id = b) := by
      apply decide_eq_decide.2
      obtain ⟨k, d⟩ := p
      simp only at hk
      subst hk
      simp
     simp [this]
    ·rename_i hk
     cases h
     rw [qI hk]
     have : decide (p = (⟨2, b⟩ : Place)) = false := decide_eq_false (by rintro rfl; exact hk rfl)
     simp [this]
structure PathP (w : World) (i : Int) (l : List Place) (d : Nat) : Prop where
 path : pathF 100 w.where_ i = some l
 len : l.length = d + 1
 d4 : d ≤ 4
 dep : Dep w.where_ (upW w.where_ i.toNat) d
theorem RightP.wf {w : World} (h : RightP w) : ∀ q ∈ w.where_, WFp w.where_ q := at_wf h.where_ok h.where_len
theorem gS {w : World} (h : RightP w) {i : Int} (h0 : 0 ≤ i) (h1 : i < (w.where_.length : Int)) : ∃ l d, PathP w i l d := by
 have hm : upW w.where_ i.toNat ∈ w.where_ := by rw [zI (show i.toNat < w.where_.length by omega)]; exact List.getElem_mem _
 obtain ⟨d, h4, hd⟩ := h.deep _ hm
 obtain ⟨l, e1, e2⟩ := Rc h.wf d i 100 h0 h1 hd (by omega)
 exact ⟨l, d, e1, e2, h4, hd⟩
noncomputable def kl (w : World) (i : Int) : Place := (vQ w i).getD ⟨0, 0⟩
theorem vA {w : World} (h : RightP w) {i : Int} (h0 : 0 ≤ i) (h1 : i < (w.where_.length : Int)) : vQ w i = some (kl w i) := by
 obtain ⟨l, d, hp⟩ := gS h h0 h1
 unfold kl
 unfold vQ
 rw [hp.path]
 simp only [Option.bind_some]
 cases hl : l.getLast? with
 | none =>
   rw [List.getLast?_eq_none_iff] at hl
   subst hl
   have := hp.len
   simp at this
 | some p => rfl
def vG (w : World) (p i : Int) : Prop := ((kl w i).kind = 0 ∧ (kl w i).id = gi w.at_ p) ∨ ((kl w i).kind = 1 ∧ (kl w i).id = p)
open Classical in
theorem DE {w : World} (h : RightP w) {p i : Int} (p0 : 0 ≤ p) (p1 : p < (w.at_.length : Int)) (h0 : 0 ≤ i) (h1 : i < (w.where_.length : Int)) : Bp w p i = some (decide (vG w p i)) := by
 unfold Bp
 rw [KG, vA h h0 h1, qg, qm p0 p1, qg]
 by_cases k0 : (kl w i).kind = 0
 ·rw [qM k0]
  by_cases e : (kl w i).id = gi w.at_ p
  ·rw [qM e, decide_eq_true (show vG w p i from .inl ⟨k0, e⟩)]
  ·rw [qI e, qI (by omega), decide_eq_false (fun hn : vG w p i => hn.elim (fun h => e h.2) (fun h => by have := h.1; omega))]
 ·rw [qI k0]
  by_cases k1 : (kl w i).kind = 1
  ·rw [qM k1]
   congr 1
   exact decide_eq_decide.2 ⟨fun h => .inr ⟨k1, h⟩, fun h : vG w p i => h.elim (fun h => absurd h.1 k0) (·.2)⟩
  ·rw [qI k1, decide_eq_false (fun hn : vG w p i => hn.elim (fun h => k0 h.1) (fun h => k1 h.1))]
open Classical in
theorem Nl {w : World} (h : RightP w) {p i : Int} (p0 : 0 ≤ p) (p1 : p < (w.at_.length : Int)) (h0 : 0 ≤ i) (h1 : i < (w.where_.length : Int)) : QN w p i = some (decide (vG w p i)) := by
 unfold QN
 rw [vA h h0 h1, qg, qm p0 p1, qg]
 by_cases a : (kl w i).kind = 0 ∧ (kl w i).id = gi w.at_ p
 ·rw [qy (by simp [a.1, a.2]), decide_eq_true (show vG w p i from .inl a)]
 ·rw [qz (by simp; intro h1; exact fun h2 => a ⟨h1, h2⟩)]
  congr 1
  rw [Bool.eq_iff_iff]
  simp only [Bool.and_eq_true, decide_eq_true_eq]
  exact ⟨fun h => .inr h, fun h : vG w p i => h.resolve_left a⟩
noncomputable def Jr (w : World) (p : Place) (i : Nat) : List Seen := ((List.range i).filter fun (k : Nat) => decide (kl w (k : Int) = p)).map fun (k : Nat) => ⟨(k : Int), upW w.where_ k⟩
theorem UU (w : World) (p : Place) (i : Nat) : Jr w p (i + 1) = if kl w (i : Int) = p then Jr w p i ++ [⟨(i : Int), upW w.where_ i⟩] else Jr w p i := by
 unfold Jr
 rw [List.range_succ, List.filter_append, List.map_append]
 by_cases h : kl w (i : Int) = p <;> simp [h]
theorem JT (w : World) (p : Place) (i : Nat) : (Jr w p i).length ≤ i := by
 have := List.length_filter_le (fun (k : Nat) => decide (kl w (k : Int) = p)) (List.range i)
 rw [List.length_range] at this
 unfold Jr
 rw [List.length_map]
 exact this
theorem Ye {w : World} (h : RightP w) (p : Place) : Vp w p = some (Jr w p w.where_.length) := by
 have hs := h.small.where_
 unfold Vp
 have e := qG (T := runder.lr3.T) (fun i => (((i : Int), ()), (wTo w, ((p.kind, (p.id, ())), (Jr w p i, ()))))) ((), (Jr w p w.where_.length, ())) w.where_.length (by omega) ?_ ?_
 ·rw [show qr runder.lr3.T qn (((0 : Int), ()), (wTo w, ((p.kind, (p.id, ())), (([] : List Seen), ())))) = _ from e]
  rfl
 ·intro i hi rec
  have hl : lget w.where_ (i : Int) = some (upW w.where_ i) := by rw [zI hi]; exact qP hi
  have hn := JT w p i
  unfold runder.lr3.T
  simp only [wTo]
  rw [qk (by rw [ilen_eq]; omega), JQ, KG, vA h (i := (i : Int)) (by omega) (by omega), qg, qH (by omega), UU, qU]
  by_cases hr : kl w (i : Int) = p
  ·rw [qy (decide_eq_true hr), hl, qg, qk (by rw [ilen_eq]; show (((Jr w p i).length : Int) + 1) * 24 < _; omega), if_pos hr]
  ·rw [qz (decide_eq_false hr), if_neg hr]
 ·intro rec
  unfold runder.lr3.T
  simp only [wTo]
  rw [qu (by rw [ilen_eq]; omega)]
theorem UV {w : World} (h : RightP w) (p : Place) : vz w p = some (Jr w p w.where_.length) := by
 have hs := h.small.where_
 unfold vz
 have e := qG (T := tunder.lr3.T) (fun i => ((w.where_, (qh w.where_, ((i : Int), ()))), (wTo w, ((p.kind, (p.id, ())), (Jr w p i, ()))))) ((), (Jr w p w.where_.length, ())) w.where_.length (by omega) ?_ ?_
 ·rw [show qr tunder.lr3.T qn ((w.where_, (qh w.where_, ((0 : Int), ()))), (wTo w, ((p.kind, (p.id, ())), (([] : List Seen), ())))) = _ from e]
  rfl
 ·intro i hi rec
  have hl : lget w.where_ (i : Int) = some (upW w.where_ i) := by rw [zI hi]; exact qP hi
  have hn := JT w p i
  unfold tunder.lr3.T
  simp only [wTo]
  rw [qk (by rw [ilen_eq]; omega), hl, qg, JQ, vA h (i := (i : Int)) (by omega) (by omega), qg, qH (by omega), UU, qU]
  by_cases hr : kl w (i : Int) = p
  ·rw [qy (decide_eq_true hr), qk (by rw [ilen_eq]; show (((Jr w p i).length : Int) + 1) * 24 < _; omega), if_pos hr]
  ·rw [qz (decide_eq_false hr), if_neg hr]
 ·intro rec
  unfold tunder.lr3.T
  simp only [wTo]
  rw [qu (by rw [ilen_eq]; omega)]
end Go.Sx
