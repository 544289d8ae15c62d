/-
  Worlds: trades, the loops (plain).
-/
import Derived.Test.YtcpabdpbldmmmaaGreatDoorLyTk
set_option linter.unusedVariables false
set_option linter.unusedSimpArgs false
namespace Go.Sx
open Go Go.Proofs
theorem ve {α β γ : Type} (x : α) (f : α → γ) (g : β → γ) : scase (.inl x) f g = f x := rfl
theorem ji {α β γ : Type} (x : β) (f : α → γ) (g : β → γ) : scase (.inr x) f g = g x := rfl
theorem Vs {X O : Type} {T : (X → Option O) → X → Option O} (st : Nat → X) (good : Nat → Prop) (bad : Nat → O) (fin : O) (n : Nat) (hn : n < 18446744073709551616)
  (hG : ∀ i, i < n → good i → ∀ rec, T rec (st i) = rec (st (i + 1))) (hB : ∀ i, i < n → ¬ good i → ∀ rec, T rec (st i) = some (bad i)) (hF : ∀ rec, T rec (st n) = some fin) :
  ((∀ i, i < n → good i) → qr T qn (st 0) = some fin) ∧ ((¬ ∀ i, i < n → good i) → ∃ i, i < n ∧ qr T qn (st 0) = some (bad i)) := by
 classical
 have hr := kp st (fun i => if good i then none else some (bad i)) fin n hn (fun i hi rec => by
  by_cases h : good i
  ·rw [if_pos h]; exact hG i hi h rec
  ·rw [if_neg h]; exact hB i hi h rec) hF
 rw [hr]
 constructor
 ·intro h
  rw [(List.findSome?_eq_none_iff).2 (fun i hi => if_pos (h i (List.mem_range.1 hi)))]
  rfl
 ·intro h
  obtain ⟨i, hi⟩ := Classical.not_forall.1 h
  obtain ⟨hi, hg⟩ := Classical.not_imp.1 hi
  have : ((List.range n).findSome? fun i => if good i then none else some (bad i)).isSome = true := by
   rw [List.findSome?_isSome_iff]
   exact ⟨i, List.mem_range.2 hi, by rw [if_neg hg]; rfl⟩
  obtain ⟨o, ho⟩ := Option.isSome_iff_exists.1 this
  rw [ho]
  obtain ⟨j, hj, hjo⟩ := List.exists_of_findSome?_eq_some ho
  split at hjo
  ·cases hjo
  ·cases hjo
   exact ⟨j, List.mem_range.1 hj, rfl⟩
abbrev KTy : Type := (Int × (Int × (Int × (Int × (Int × ((List Int) × (Int × ((List Int) × (Int × Unit)))))))))
def kTo (c : Cmd) : KTy := (c.kind, (c.dir, (c.item, (c.box, (c.who, (c.gives, (c.pay, (c.wants, (c.fee, ())))))))))
def z3 : Int × (Int × (Int × Unit)) := (0, (0, (0, ())))
theorem vu {l : List Int} {P : Int → Prop} : (∀ i : Nat, i < l.length → P (gi l (i : Int))) ↔ ∀ x ∈ l, P x := by
 constructor
 ·intro h x hx
  obtain ⟨j, hj, e⟩ := List.mem_iff_getElem.1 hx
  have := h j hj
  have e' : gi l (j : Int) = l[j] := by simp [gi, List.getD, List.getElem?_eq_getElem hj]
  rw [e', e] at this
  exact this
 ·intro h i hi
  exact h _ (vp (by omega) (by omega))
theorem zN {l : List Int} {j : Nat} (hj : j < l.length) : gi l (j : Int) = l[j] := by simp [gi, List.getD, List.getElem?_eq_getElem hj]
theorem Zk {l : List Int} : (∀ i : Nat, i < l.length → ∀ j : Nat, j < i → gi l (i : Int) ≠ gi l (j : Int)) ↔ l.Nodup := by
 unfold List.Nodup
 rw [List.pairwise_iff_getElem]
 constructor
 ·intro h i j hi hj hij e
  refine h j hj i hij ?_
  rw [zN hi, zN hj, e]
 ·intro h i hi j hj e
  refine h j i (by omega) hi hj ?_
  rw [zN hi, zN (l := l) (j := j) (by omega)] at e
  exact e.symm
def vx (w : World) (x : Int) : Prop := 0 ≤ x ∧ x < (w.where_.length : Int)
theorem rtr6 (w : World) (p q : Int) (c : Cmd) (l : List Int) (hl : l.length ≤ 1000) :
  ((∀ x ∈ l, vx w x) → qr rtrade.lr6.T qn (((p, (q, (0 : Int), ())), (wTo w, (kTo c, (z3, (l, ())))))) = some (.inr ((p, (q, ())), (wTo w, (kTo c, (z3, (l, ()))))))) ∧
  ((¬ ∀ x ∈ l, vx w x) → qr rtrade.lr6.T qn (((p, (q, (0 : Int), ())), (wTo w, (kTo c, (z3, (l, ())))))) = some (.inl ((3, ()), (wTo w, ())))) := by
 rw [← vu]
 refine qK (T := rtrade.lr6.T) (fun i => (((p, (q, ((i : Int), ()))), (wTo w, (kTo c, (z3, (l, ()))))) : rtrade.lr6.X)) (fun i => vx w (gi l (i : Int))) (.inl ((3, ()), (wTo w, ()))) (.inr ((p, (q, ())), (wTo w, (kTo c, (z3, (l, ())))))) l.length (by omega) ?_ ?_ ?_
 ·intro i hi hg rec
  unfold rtrade.lr6.T
  simp only [wTo, kTo, z3]
  rw [qk (qp.2 hi), qB (by omega : (0 : Int) ≤ i), qk (qp.2 hi), qm (by omega) (by omega), qg, qu (by have := hg.1; omega), qB (by omega : (0 : Int) ≤ i), qk (qp.2 hi)]
  simp only [qg]
  rw [jG (by rw [ilen_eq]; have := hg.2; omega), qH (by omega)]
 ·intro i hi hg rec
  unfold rtrade.lr6.T
  simp only [wTo, kTo, z3]
  rw [qk (qp.2 hi), qB (by omega : (0 : Int) ≤ i), qk (qp.2 hi), qm (by omega) (by omega), qg]
  by_cases h0 : gi l (i : Int) < 0
  ·rw [qk h0, qg]
   rfl
  ·rw [qu h0, qB (by omega : (0 : Int) ≤ i), qk (qp.2 hi)]
   simp only [qg]
   rw [qB (by rw [ilen_eq]; unfold vx at hg; omega)]
 ·intro rec
  unfold rtrade.lr6.T
  simp only [wTo, kTo, z3]
  rw [qu (by rw [qp]; omega)]
theorem rtr18 (w : World) (p q : Int) (c : Cmd) (l : List Int) (hl : l.length ≤ 1000) (i : Nat) (hi : i < l.length) :
  ((∀ j : Nat, j < i → gi l (i : Int) ≠ gi l (j : Int)) → qr rtrade.lr18.T qn (((p, (q, ((i : Int), ((0 : Int), ())))), (wTo w, (kTo c, (z3, (l, ())))))) = some (.inr ((p, (q, ((i : Int), ()))), (wTo w, (kTo c, (z3, (l, ()))))))) ∧
  ((¬ ∀ j : Nat, j < i → gi l (i : Int) ≠ gi l (j : Int)) → qr rtrade.lr18.T qn (((p, (q, ((i : Int), ((0 : Int), ())))), (wTo w, (kTo c, (z3, (l, ())))))) = some (.inl ((13, ()), (wTo w, ())))) := by
 refine qK (T := rtrade.lr18.T) (fun j => (((p, (q, ((i : Int), ((j : Int), ())))), (wTo w, (kTo c, (z3, (l, ()))))) : rtrade.lr18.X)) (fun j => gi l (i : Int) ≠ gi l (j : Int)) (.inl ((13, ()), (wTo w, ()))) (.inr ((p, (q, ((i : Int), ()))), (wTo w, (kTo c, (z3, (l, ())))))) i (by omega) ?_ ?_ ?_
 ·intro j hj hg rec
  unfold rtrade.lr18.T
  simp only [wTo, kTo, z3]
  rw [qk (by omega), qB (by omega : (0 : Int) ≤ i), qk (qp.2 hi), qm (by omega) (by omega), qg, qB (by omega : (0 : Int) ≤ j), qk (qp.2 (by omega)), qm (by omega) (by omega), qg, qI hg, qH (by omega)]
 ·intro j hj hg rec
  unfold rtrade.lr18.T
  simp only [wTo, kTo, z3]
  rw [qk (by omega), qB (by omega : (0 : Int) ≤ i), qk (qp.2 hi), qm (by omega) (by omega), qg, qB (by omega : (0 : Int) ≤ j), qk (qp.2 (by omega)), qm (by omega) (by omega), qg, qM (Classical.not_not.1 hg)]
 ·intro rec
  unfold rtrade.lr18.T
  simp only [wTo, kTo, z3]
  rw [qu (by omega)]
theorem rtr15 (w : World) (p q : Int) (c : Cmd) (l : List Int) (hl : l.length ≤ 1000) :
  (l.Nodup → qr rtrade.lr15.T qn (((p, (q, ((0 : Int), ()))), (wTo w, (kTo c, (z3, (l, ())))))) = some (.inr ((p, (q, ())), (wTo w, (kTo c, (z3, (l, ()))))))) ∧
  (¬ l.Nodup → qr rtrade.lr15.T qn (((p, (q, ((0 : Int), ()))), (wTo w, (kTo c, (z3, (l, ())))))) = some (.inl ((13, ()), (wTo w, ())))) := by
 rw [← Zk]
 refine qK (T := rtrade.lr15.T) (fun i => (((p, (q, ((i : Int), ()))), (wTo w, (kTo c, (z3, (l, ()))))) : rtrade.lr15.X)) (fun i => ∀ j : Nat, j < i → gi l (i : Int) ≠ gi l (j : Int)) (.inl ((13, ()), (wTo w, ()))) (.inr ((p, (q, ())), (wTo w, (kTo c, (z3, (l, ())))))) l.length (by omega) ?_ ?_ ?_
 ·intro i hi hg rec
  unfold rtrade.lr15.T
  rw [qk (qp.2 hi)]
  have := (rtr18 w p q c l hl i hi).1 hg
  simp only [wTo, kTo, z3] at this ⊢
  rw [this, qg, ji, qH (by omega)]
 ·intro i hi hg rec
  unfold rtrade.lr15.T
  rw [qk (qp.2 hi)]
  have := (rtr18 w p q c l hl i hi).2 hg
  simp only [wTo, kTo, z3] at this ⊢
  rw [this, qg, ve]
 ·intro rec
  unfold rtrade.lr15.T
  dsimp only
  rw [qu (by rw [qp]; omega)]
def pkW (ws : List Place) (l : List Int) (t : Place) : Nat → List Place
 | 0 => ws
 | k + 1 => (pkW ws l t k).set (gi l (k : Int)).toNat t
theorem Q6 (ws : List Place) (l : List Int) (t : Place) : ∀ k, (pkW ws l t k).length = ws.length
 | 0 => rfl
 | k + 1 => by
   show ((pkW ws l t k).set _ t).length = _
   rw [List.length_set, Q6 ws l t k]
def nkW (ws : List Place) (l : List Int) (g : Nat) (p q : Int) : Nat → List Place
 | 0 => ws
 | k + 1 => (nkW ws l g p q k).set (gi l (k : Int)).toNat ⟨1, if g ≤ k then p else q⟩
theorem G5 (ws : List Place) (l : List Int) (g : Nat) (p q : Int) : ∀ k, (nkW ws l g p q k).length = ws.length
 | 0 => rfl
 | k + 1 => by
   show ((nkW ws l g p q k).set _ _).length = _
   rw [List.length_set, G5 ws l g p q k]
theorem vN {a b : List Int} {k : Nat} (h : k < a.length) : gi (a ++ b) (k : Int) = gi a (k : Int) := by
 rw [zN h, zN (by rw [List.length_append]; omega), List.getElem_append_left h]
theorem BT {a b : List Int} {k : Nat} (h : k < b.length) : gi (a ++ b) ((a.length + k : Nat) : Int) = gi b (k : Int) := by
 rw [zN h, zN (by rw [List.length_append]; omega), List.getElem_append_right (by omega)]
 congr 1
 omega
theorem qgl (ws : List Place) (a b : List Int) (p q : Int) : ∀ k, k ≤ a.length → nkW ws (a ++ b) a.length p q k = pkW ws a ⟨1, q⟩ k
 | 0, _ => rfl
 | k + 1, h => by
   show (nkW ws (a ++ b) a.length p q k).set _ _ = (pkW ws a ⟨1, q⟩ k).set _ _
   rw [qgl ws a b p q k (by omega), vN (by omega), if_neg (by omega)]
theorem qgk (ws : List Place) (a b : List Int) (p q : Int) : ∀ k, k ≤ b.length → nkW ws (a ++ b) a.length p q (a.length + k) = pkW (pkW ws a ⟨1, q⟩ a.length) b ⟨1, p⟩ k
 | 0, _ => qgl ws a b p q a.length (Nat.le_refl _)
 | k + 1, h => by
   show (nkW ws (a ++ b) a.length p q (a.length + k)).set (gi (a ++ b) ((a.length + k : Nat) : Int)).toNat ⟨1, if a.length ≤ a.length + k then p else q⟩ = (pkW (pkW ws a ⟨1, q⟩ a.length) b ⟨1, p⟩ k).set _ _
   rw [qgk ws a b p q k (by omega), BT (by omega), if_pos (by omega)]
def Mk (w : World) (l : List Int) (g : Nat) (p q : Int) (i : Nat) : Prop := upW w.where_ (gi l (i : Int)).toNat = ⟨1, if g ≤ i then q else p⟩
theorem rtr24 (w : World) (p q : Int) (c : Cmd) (l : List Int) (hl : l.length ≤ 1000) (hin : ∀ x ∈ l, vx w x) (A B : List Int) :
  ((∀ i : Nat, i < l.length → Mk w l c.gives.length p q i) → qr rtrade.lr24.T qn (((p, (q, ((0 : Int), ()))), (wTo w, (kTo c, (z3, (l, (A, (B, (w.where_, (dTo w.desc, ()))))))))))
    = some (.inr ((p, (q, ())), (wTo w, (kTo c, (z3, (A, (B, (nkW w.where_ l c.gives.length p q l.length, (dTo w.desc, ())))))))))) ∧
  ((¬ ∀ i : Nat, i < l.length → Mk w l c.gives.length p q i) → qr rtrade.lr24.T qn (((p, (q, ((0 : Int), ()))), (wTo w, (kTo c, (z3, (l, (A, (B, (w.where_, (dTo w.desc, ())))))))))) = some (.inl ((5, ()), (wTo w, ())))) := by
 rw [← vu] at hin
 refine qK (T := rtrade.lr24.T) (fun i => (((p, (q, ((i : Int), ()))), (wTo w, (kTo c, (z3, (l, (A, (B, (nkW w.where_ l c.gives.length p q i, (dTo w.desc, ()))))))))) : rtrade.lr24.X)) (fun i => Mk w l c.gives.length p q i) (.inl ((5, ()), (wTo w, ()))) (.inr ((p, (q, ())), (wTo w, (kTo c, (z3, (A, (B, (nkW w.where_ l c.gives.length p q l.length, (dTo w.desc, ()))))))))) l.length (by omega) ?_ ?_ ?_
 ·intro i hi hg rec
  have hx := hin i hi
  unfold Mk at hg
  unfold rtrade.lr24.T
  simp only [wTo, kTo, z3, dTo]
  rw [qk (qp.2 hi)]
  by_cases hk : c.gives.length ≤ i
  ·rw [if_pos hk] at hg
   rw [qB (by rw [ilen_eq]; omega), qg]
   dsimp only
   rw [qB (by omega : (0 : Int) ≤ i), qk (qp.2 hi), qm (by omega) (by omega), qg, jv hx.1 hx.2, qg, qU _ ⟨1, q⟩, qv, if_pos hg, qB (by omega : (0 : Int) ≤ i), qk (qp.2 hi), qg, qB hx.1, qk (by rw [ilen_eq, G5]; exact hx.2), jv hx.1 (by rw [G5]; exact hx.2), qg, qH (by omega)]
   rw [show nkW w.where_ l c.gives.length p q (i + 1) = (nkW w.where_ l c.gives.length p q i).set (gi l (i : Int)).toNat ⟨1, if c.gives.length ≤ i then p else q⟩ from rfl, if_pos hk]
  ·rw [if_neg hk] at hg
   rw [jG (by rw [ilen_eq]; omega), qg]
   dsimp only
   rw [qB (by omega : (0 : Int) ≤ i), qk (qp.2 hi), qm (by omega) (by omega), qg, jv hx.1 hx.2, qg, qU _ ⟨1, p⟩, qv, if_pos hg, qB (by omega : (0 : Int) ≤ i), qk (qp.2 hi), qg, qB hx.1, qk (by rw [ilen_eq, G5]; exact hx.2), jv hx.1 (by rw [G5]; exact hx.2), qg, qH (by omega)]
   rw [show nkW w.where_ l c.gives.length p q (i + 1) = (nkW w.where_ l c.gives.length p q i).set (gi l (i : Int)).toNat ⟨1, if c.gives.length ≤ i then p else q⟩ from rfl, if_neg hk]
 ·intro i hi hg rec
  have hx := hin i hi
  unfold Mk at hg
  unfold rtrade.lr24.T
  simp only [wTo, kTo, z3, dTo]
  rw [qk (qp.2 hi)]
  by_cases hk : c.gives.length ≤ i
  ·rw [if_pos hk] at hg
   rw [qB (by rw [ilen_eq]; omega), qg]
   dsimp only
   rw [qB (by omega : (0 : Int) ≤ i), qk (qp.2 hi), qm (by omega) (by omega), qg, jv hx.1 hx.2, qg, qU _ ⟨1, q⟩, qv, if_neg hg]
  ·rw [if_neg hk] at hg
   rw [jG (by rw [ilen_eq]; omega), qg]
   dsimp only
   rw [qB (by omega : (0 : Int) ≤ i), qk (qp.2 hi), qm (by omega) (by omega), qg, jv hx.1 hx.2, qg, qU _ ⟨1, p⟩, qv, if_neg hg]
 ·intro rec
  unfold rtrade.lr24.T
  simp only [wTo, kTo, z3, dTo]
  rw [qu (by rw [qp]; omega)]
end Go.Sx
