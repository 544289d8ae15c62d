/-
  linear.Find: what it looks for (plain).
-/
import Derived.Test.YtcpabdpbldmmmaaGreatDoorLyTr
import Derived.Test.YtcpabdpbldmmmaaGreatDoorLyF
set_option linter.unusedVariables false
set_option linter.unusedSimpArgs false
namespace Go.Sx
open Go Go.Proofs
open Classical in
theorem ji (l : List Int) (n : Int) (hl : l.length ≤ 1000) : qZ l n = some (decide (n ∈ l)) := by
 unfold qZ
 obtain ⟨h1, h2⟩ := VW (T := icontains.l12.T) (fun i => ((l, (n, (qh l, ((i : Int), ())))), ())) (fun i => ¬ n = gi l (i : Int)) (fun i => .inl (((i : Int), ()), ())) (.inr ((), ())) l.length (by omega)
  (fun i hi hg rec => by
   unfold icontains.l12.T
   dsimp only
   rw [qn (qp.2 hi), qm (by omega) (by omega), qg, qL hg, qK (by omega)])
  (fun i hi hg rec => by
   unfold icontains.l12.T
   dsimp only
   rw [qn (qp.2 hi), qm (by omega) (by omega), qg, qQ (Classical.not_not.1 hg)])
  (fun rec => by
   unfold icontains.l12.T
   dsimp only
   rw [qw (by rw [qp]; omega)])
 by_cases hm : n ∈ l
 ·obtain ⟨i, hi, e⟩ := h2 (fun hall => (vA.1 hall : ∀ x ∈ l, ¬ n = x) n hm rfl)
  rw [show qt icontains.l12.T ql ((l, (n, (qh l, ((0 : Int), ())))), ()) = _ from e, qg, vm, decide_eq_true hm]
  dsimp only
  rw [show ile 0 (i : Int) = true from decide_eq_true (by omega)]
 ·have := h1 ((vA (P := fun x => ¬ n = x)).2 fun x hx e => hm (e ▸ hx))
  rw [show qt icontains.l12.T ql ((l, (n, (qh l, ((0 : Int), ())))), ()) = _ from this, qg, jl, decide_eq_false hm]
def gw (l : List Call) (o : List Int) (x m : Nat) : Prop := (x : Int) ∈ o ∨ ∃ k : Nat, k < m ∧ k ≠ x ∧ qF l k x ∧ (k : Int) ∉ o
open Classical in
noncomputable def je (l : List Call) (o : List Int) (x m : Nat) : Bool := decide (gw l o x m)
open Classical in
theorem U5 (l : List Call) (o : List Int) (x : Nat) : je l o x 0 = decide ((x : Int) ∈ o) := by
 unfold je gw
 exact decide_eq_decide.2 ⟨fun h => h.elim id fun ⟨k, h, _⟩ => absurd h (by omega), .inl⟩
open Classical in
theorem Uz {l : List Call} {o : List Int} {x m : Nat} (h : je l o x m = true) : je l o x (m + 1) = true := by
 unfold je at h ⊢
 refine decide_eq_true ?_
 rcases of_decide_eq_true h with h | ⟨k, h1, h2⟩
 ·exact .inl h
 ·exact .inr ⟨k, by omega, h2⟩
open Classical in
theorem U0 {l : List Call} {o : List Int} {x m : Nat} (h : je l o x m = false) : je l o x (m + 1) = decide (m ≠ x ∧ qF l m x ∧ (m : Int) ∉ o) := by
 unfold je at h ⊢
 have h := of_decide_eq_false h
 refine decide_eq_decide.2 ⟨fun h' => ?_, fun h' => .inr ⟨m, by omega, h'⟩⟩
 rcases h' with h' | ⟨k, h1, h2⟩
 ·exact absurd (.inl h') h
 ·by_cases e : k = m
  ·rw [← e]; exact h2
  ·exact absurd (.inr ⟨k, by omega, h2⟩) h
def okI (l : List Call) (v : World) (x : Nat) : Prop := 0 ≤ (qk l x).to → (DoP v (qk l x).player (qk l x).cmd).2 = (qk l x).reply
noncomputable def jz (l : List Call) (v : World) (x : Nat) : World := (DoP v (qk l x).player (qk l x).cmd).1
open Classical in
noncomputable def ZS (l : List Call) : Nat → World → List Int → Option (List Int)
 | 0, v, o => if jf l o then some o else none
 | f + 1, v, o => if jf l o then some o else (List.range l.length).findSome? fun x => if gw l o x l.length then none else if okI l v x then ZS l f (jz l v x) (o ++ [(x : Int)]) else none
open Classical in
noncomputable def kP (l : List Call) (f : Nat) (v : World) (o : List Int) (x : Nat) : Option (List Int) := if gw l o x l.length then none else if okI l v x then ZS l f (jz l v x) (o ++ [(x : Int)]) else none
noncomputable def z0 (l : List Call) (f : Nat) (v : World) (o : List Int) : Option (List Int) := (List.range l.length).findSome? (kP l f v o)
open Classical in
theorem jx {l : List Call} {f : Nat} {v : World} {o : List Int} (h : jf l o) : ZS l f v o = some o := by
 cases f <;> unfold ZS <;> rw [if_pos h]
open Classical in
theorem zf {l : List Call} {f : Nat} {v : World} {o : List Int} (h : ¬ jf l o) : ZS l (f + 1) v o = z0 l f v o := by
 show (if _ then _ else _) = _
 rw [if_neg h]
 rfl
def Yn (l : List Call) (o : List Int) : Prop := ∀ j : Nat, j < o.length → (0 ≤ gi o (j : Int) ∧ gi o (j : Int) < (l.length : Int)) ∧ (∀ i : Nat, i < j → gi o (j : Int) ≠ gi o (i : Int)) ∧
 ∀ m : Nat, m < l.length → (m : Int) ≠ gi o (j : Int) → qF l m (gi o (j : Int)).toNat → ∃ i : Nat, i < j ∧ gi o (i : Int) = (m : Int)
theorem pre_nil (l : List Call) : Yn l [] := fun j h => absurd h (by simp)
theorem KK {o : List Int} {x : Int} : x ∈ o ↔ ∃ i : Nat, i < o.length ∧ gi o (i : Int) = x := by
 constructor
 ·intro h
  obtain ⟨j, hj, e⟩ := List.mem_iff_getElem.1 h
  exact ⟨j, hj, by rw [zV hj, e]⟩
 ·rintro ⟨i, hi, rfl⟩
  exact vv (by omega) (by omega)
theorem qee {o : List Int} {x : Int} : gi (o ++ [x]) (o.length : Int) = x := by
 rw [zV (by simp)]
 simp
theorem Z3 {l : List Call} {o : List Int} (h : Yn l o) {x : Nat} (hx : x < l.length) (hl : ¬ gw l o x l.length) : Yn l (o ++ [(x : Int)]) := by
 intro j hj
 rw [List.length_append, List.length_singleton] at hj
 have hlx := not_or.1 hl
 by_cases e : j = o.length
 ·subst e
  rw [qee]
  refine ⟨⟨by omega, by omega⟩, fun i hi he => ?_, fun m hm hne ha => ?_⟩
  ·rw [kW hi] at he
   exact hlx.1 (KK.2 ⟨i, hi, he.symm⟩)
  ·rw [Int.toNat_natCast] at ha
   have hmem : (m : Int) ∈ o := Classical.byContradiction fun hno => hlx.2 ⟨m, hm, fun e => hne (by rw [e]), ha, hno⟩
   obtain ⟨i, hi, e⟩ := KK.1 hmem
   exact ⟨i, hi, by rw [kW hi, e]⟩
 ·have hj' : j < o.length := by omega
  obtain ⟨h1, h2, h3⟩ := h j hj'
  rw [kW hj']
  refine ⟨h1, fun i hi => ?_, fun m hm hne ha => ?_⟩
  ·rw [kW (by omega)]
   exact h2 i hi
  ·obtain ⟨i, hi, e⟩ := h3 m hm hne ha
   exact ⟨i, hi, by rw [kW (by omega), e]⟩
theorem qj3 {l : List Call} {o : List Int} (h : Yn l o) : ∀ k : Nat, k < o.length → vQ l o k := fun k hk => by
 obtain ⟨h1, h2, h3⟩ := h k hk
 refine ⟨h1, fun j hj => ⟨h2 j hj, fun ha => ?_⟩⟩
 have hjr := (h j (by omega)).1
 obtain ⟨i, hi, e⟩ := (h j (by omega)).2.2 (gi o (k : Int)).toNat (by omega) (by rw [Int.toNat_of_nonneg h1.1]; exact h2 j hj) ha
 rw [Int.toNat_of_nonneg h1.1] at e
 exact h2 i (by omega) e.symm
theorem qgu {l : List Call} {o : List Int} (h : Yn l o) : o.Nodup := Z6.1 fun i hi j hj => (h i hi).2.1 j hj
theorem Nq {l : List Call} {o : List Int} (h : Yn l o) (hn : l.length ≤ o.length) : jf l o := by
 refine ⟨qj3 h, fun c hc _ => ?_⟩
 have hsub : ∀ x ∈ o.map Int.toNat, x ∈ List.range l.length := fun x hx => by
  obtain ⟨y, hy, rfl⟩ := List.mem_map.1 hx
  obtain ⟨i, hi, e⟩ := KK.1 hy
  have := (h i hi).1
  rw [e] at this
  exact List.mem_range.2 (by omega)
 have hnn : ∀ x ∈ o, 0 ≤ x := fun x hx => by
  obtain ⟨i, hi, e⟩ := KK.1 hx
  have := (h i hi).1
  omega
 have hnd : (o.map Int.toNat).Nodup := KH (qgu h) hnn
 have : c ∈ o.map Int.toNat := by
  refine Classical.byContradiction fun hno => ?_
  have h1 : (c :: o.map Int.toNat).Nodup := List.nodup_cons.2 ⟨hno, hnd⟩
  have := h1.length_le_of_subset (l₂ := List.range l.length) (fun x hx => by
   rcases List.mem_cons.1 hx with e | e
   ·rw [e]; exact List.mem_range.2 hc
   ·exact hsub x e)
  simp at this
  omega
 obtain ⟨y, hy, e⟩ := List.mem_map.1 this
 obtain ⟨i, hi, e'⟩ := KK.1 hy
 have := hnn y hy
 exact ⟨i, hi, by omega⟩
theorem jF {α β γ : Type} (g : α → Option β) (F : β → γ) : ∀ l : List α, (l.findSome? fun x => (g x).map F) = (l.findSome? g).map F
 | [] => rfl
 | a :: r => by
   rw [List.findSome?_cons, List.findSome?_cons]
   cases g a with
   | none => exact jF g F r
   | some b => rfl
end Go.Sx
