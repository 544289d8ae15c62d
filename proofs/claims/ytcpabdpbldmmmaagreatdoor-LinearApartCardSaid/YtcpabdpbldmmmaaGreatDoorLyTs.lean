/-
  linear.Find: what it looks for (plain).
-/
import Derived.Test.YtcpabdpbldmmmaaGreatDoorLyTr
import Derived.Test.YtcpabdpbldmmmaaGreatDoorLyF
set_option linter.unusedVariables false
set_option linter.unusedSimpArgs false
namespace Go.Sx
open Go Go.Proofs
open Classical in
theorem jf (l : List Int) (n : Int) (hl : l.length ≤ 1000) : qX l n = some (decide (n ∈ l)) := by
 unfold qX
 obtain ⟨h1, h2⟩ := Vs (T := icontains.l12.T) (fun i => ((l, (n, (qh l, ((i : Int), ())))), ())) (fun i => ¬ n = gi l (i : Int)) (fun i => .inl (((i : Int), ()), ())) (.inr ((), ())) l.length (by omega)
  (fun i hi hg rec => by
   unfold icontains.l12.T
   dsimp only
   rw [qk (qp.2 hi), qm (by omega) (by omega), qg, qI hg, qH (by omega)])
  (fun i hi hg rec => by
   unfold icontains.l12.T
   dsimp only
   rw [qk (qp.2 hi), qm (by omega) (by omega), qg, qM (Classical.not_not.1 hg)])
  (fun rec => by
   unfold icontains.l12.T
   dsimp only
   rw [qu (by rw [qp]; omega)])
 by_cases hm : n ∈ l
 ·obtain ⟨i, hi, e⟩ := h2 (fun hall => (vu.1 hall : ∀ x ∈ l, ¬ n = x) n hm rfl)
  rw [show qr icontains.l12.T qn ((l, (n, (qh l, ((0 : Int), ())))), ()) = _ from e, qg, ve, decide_eq_true hm]
  dsimp only
  rw [show ile 0 (i : Int) = true from decide_eq_true (by omega)]
 ·have := h1 ((vu (P := fun x => ¬ n = x)).2 fun x hx e => hm (e ▸ hx))
  rw [show qr icontains.l12.T qn ((l, (n, (qh l, ((0 : Int), ())))), ()) = _ from this, qg, ji, decide_eq_false hm]
def gy (l : List Call) (o : List Int) (x m : Nat) : Prop := (x : Int) ∈ o ∨ ∃ k : Nat, k < m ∧ k ≠ x ∧ qD l k x ∧ (k : Int) ∉ o
open Classical in
noncomputable def jb (l : List Call) (o : List Int) (x m : Nat) : Bool := decide (gy l o x m)
open Classical in
theorem GG (l : List Call) (o : List Int) (x : Nat) : jb l o x 0 = decide ((x : Int) ∈ o) := by
 unfold jb gy
 exact decide_eq_decide.2 ⟨fun h => h.elim id fun ⟨k, h, _⟩ => absurd h (by omega), .inl⟩
open Classical in
theorem GE {l : List Call} {o : List Int} {x m : Nat} (h : jb l o x m = true) : jb l o x (m + 1) = true := by
 unfold jb at h ⊢
 refine decide_eq_true ?_
 rcases of_decide_eq_true h with h | ⟨k, h1, h2⟩
 ·exact .inl h
 ·exact .inr ⟨k, by omega, h2⟩
open Classical in
theorem GF {l : List Call} {o : List Int} {x m : Nat} (h : jb l o x m = false) : jb l o x (m + 1) = decide (m ≠ x ∧ qD l m x ∧ (m : Int) ∉ o) := by
 unfold jb at h ⊢
 have h := of_decide_eq_false h
 refine decide_eq_decide.2 ⟨fun h' => ?_, fun h' => .inr ⟨m, by omega, h'⟩⟩
 rcases h' with h' | ⟨k, h1, h2⟩
 ·exact absurd (.inl h') h
 ·by_cases e : k = m
  ·rw [← e]; exact h2
  ·exact absurd (.inr ⟨k, by omega, h2⟩) h
def okI (l : List Call) (v : World) (x : Nat) : Prop := 0 ≤ (qj l x).to → (DoP v (qj l x).player (qj l x).cmd).2 = (qj l x).reply
noncomputable def jm (l : List Call) (v : World) (x : Nat) : World := (DoP v (qj l x).player (qj l x).cmd).1
open Classical in
noncomputable def J2 (l : List Call) : Nat → World → List Int → Option (List Int)
 | 0, v, o => if je l o then some o else none
 | f + 1, v, o => if je l o then some o else (List.range l.length).findSome? fun x => if gy l o x l.length then none else if okI l v x then J2 l f (jm l v x) (o ++ [(x : Int)]) else none
open Classical in
noncomputable def kJ (l : List Call) (f : Nat) (v : World) (o : List Int) (x : Nat) : Option (List Int) := if gy l o x l.length then none else if okI l v x then J2 l f (jm l v x) (o ++ [(x : Int)]) else none
noncomputable def zr (l : List Call) (f : Nat) (v : World) (o : List Int) : Option (List Int) := (List.range l.length).findSome? (kJ l f v o)
open Classical in
theorem jx {l : List Call} {f : Nat} {v : World} {o : List Int} (h : je l o) : J2 l f v o = some o := by
 cases f <;> unfold J2 <;> rw [if_pos h]
open Classical in
theorem jZ {l : List Call} {f : Nat} {v : World} {o : List Int} (h : ¬ je l o) : J2 l (f + 1) v o = zr l f v o := by
 show (if _ then _ else _) = _
 rw [if_neg h]
 rfl
def Ux (l : List Call) (o : List Int) : Prop := ∀ j : Nat, j < o.length → (0 ≤ gi o (j : Int) ∧ gi o (j : Int) < (l.length : Int)) ∧ (∀ i : Nat, i < j → gi o (j : Int) ≠ gi o (i : Int)) ∧
 ∀ m : Nat, m < l.length → (m : Int) ≠ gi o (j : Int) → qD l m (gi o (j : Int)).toNat → ∃ i : Nat, i < j ∧ gi o (i : Int) = (m : Int)
theorem pre_nil (l : List Call) : Ux l [] := fun j h => absurd h (by simp)
theorem Kl {o : List Int} {x : Int} : x ∈ o ↔ ∃ i : Nat, i < o.length ∧ gi o (i : Int) = x := by
 constructor
 ·intro h
  obtain ⟨j, hj, e⟩ := List.mem_iff_getElem.1 h
  exact ⟨j, hj, by rw [zN hj, e]⟩
 ·rintro ⟨i, hi, rfl⟩
  exact vp (by omega) (by omega)
theorem gi_last {o : List Int} {x : Int} : gi (o ++ [x]) (o.length : Int) = x := by
 rw [zN (by simp)]
 simp
theorem Zg {l : List Call} {o : List Int} (h : Ux l o) {x : Nat} (hx : x < l.length) (hl : ¬ gy l o x l.length) : Ux l (o ++ [(x : Int)]) := by
 intro j hj
 rw [List.length_append, List.length_singleton] at hj
 have hlx := not_or.1 hl
 by_cases e : j = o.length
 ·subst e
  rw [gi_last]
  refine ⟨⟨by omega, by omega⟩, fun i hi he => ?_, fun m hm hne ha => ?_⟩
  ·rw [vN hi] at he
   exact hlx.1 (Kl.2 ⟨i, hi, he.symm⟩)
  ·rw [Int.toNat_natCast] at ha
   have hmem : (m : Int) ∈ o := Classical.byContradiction fun hno => hlx.2 ⟨m, hm, fun e => hne (by rw [e]), ha, hno⟩
   obtain ⟨i, hi, e⟩ := Kl.1 hmem
   exact ⟨i, hi, by rw [vN hi, e]⟩
 ·have hj' : j < o.length := by omega
  obtain ⟨h1, h2, h3⟩ := h j hj'
  rw [vN hj']
  refine ⟨h1, fun i hi => ?_, fun m hm hne ha => ?_⟩
  ·rw [vN (by omega)]
   exact h2 i hi
  ·obtain ⟨i, hi, e⟩ := h3 m hm hne ha
   exact ⟨i, hi, by rw [vN (by omega), e]⟩
theorem qgg {l : List Call} {o : List Int} (h : Ux l o) : ∀ k : Nat, k < o.length → gA l o k := fun k hk => by
 obtain ⟨h1, h2, h3⟩ := h k hk
 refine ⟨h1, fun j hj => ⟨h2 j hj, fun ha => ?_⟩⟩
 have hjr := (h j (by omega)).1
 obtain ⟨i, hi, e⟩ := (h j (by omega)).2.2 (gi o (k : Int)).toNat (by omega) (by rw [Int.toNat_of_nonneg h1.1]; exact h2 j hj) ha
 rw [Int.toNat_of_nonneg h1.1] at e
 exact h2 i (by omega) e.symm
theorem qc4 {l : List Call} {o : List Int} (h : Ux l o) : o.Nodup := Zk.1 fun i hi j hj => (h i hi).2.1 j hj
theorem DZ {l : List Call} {o : List Int} (h : Ux l o) (hn : l.length ≤ o.length) : je l o := by
 refine ⟨qgg h, fun c hc _ => ?_⟩
 have hsub : ∀ x ∈ o.map Int.toNat, x ∈ List.range l.length := fun x hx => by
  obtain ⟨y, hy, rfl⟩ := List.mem_map.1 hx
  obtain ⟨i, hi, e⟩ := Kl.1 hy
  have := (h i hi).1
  rw [e] at this
  exact List.mem_range.2 (by omega)
 have hnn : ∀ x ∈ o, 0 ≤ x := fun x hx => by
  obtain ⟨i, hi, e⟩ := Kl.1 hx
  have := (h i hi).1
  omega
 have hnd : (o.map Int.toNat).Nodup := Ki (qc4 h) hnn
 have : c ∈ o.map Int.toNat := by
  refine Classical.byContradiction fun hno => ?_
  have h1 : (c :: o.map Int.toNat).Nodup := List.nodup_cons.2 ⟨hno, hnd⟩
  have := h1.length_le_of_subset (l₂ := List.range l.length) (fun x hx => by
   rcases List.mem_cons.1 hx with e | e
   ·rw [e]; exact List.mem_range.2 hc
   ·exact hsub x e)
  simp at this
  omega
 obtain ⟨y, hy, e⟩ := List.mem_map.1 this
 obtain ⟨i, hi, e'⟩ := Kl.1 hy
 have := hnn y hy
 exact ⟨i, hi, by omega⟩
theorem jA {α β γ : Type} (g : α → Option β) (F : β → γ) : ∀ l : List α, (l.findSome? fun x => (g x).map F) = (l.findSome? g).map F
 | [] => rfl
 | a :: r => by
   rw [List.findSome?_cons, List.findSome?_cons]
   cases g a with
   | none => exact jA g F r
   | some b => rfl
end Go.Sx
