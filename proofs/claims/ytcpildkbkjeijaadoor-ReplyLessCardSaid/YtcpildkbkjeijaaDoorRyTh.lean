/-
  Answers: the document's reading.
-/
import Derived.Test.YtcpildkbkjeijaaDoorRyTg
set_option linter.unusedVariables false
set_option linter.unusedSimpArgs false
namespace Go.Sx
open Go Go.Proofs
open Go.Lib (decDigits nDigits)
abbrev WITH : Str := [119, 105, 116, 104]
abbrev BOX : Str := [98, 111, 120]
noncomputable def nmW (w : Str) : Int := (numL w).1
noncomputable def hdN : List Str → Int
  | [] => 0
  | w :: _ => nmW w
def kdW (w : Str) : Int := if w = BOX then 2 else if w = WITH then 1 else 0
def kdH : List Str → Int
  | [] => 0
  | w :: _ => kdW w
noncomputable def it5 : List Str → List Seen
  | [] => []
  | a :: t => ⟨nmW a, ⟨kdH t, hdN (t.drop 1)⟩⟩ :: it5 (t.drop 2)
termination_by l => l.length
decreasing_by simp; omega
theorem it5_nil : it5 [] = [] := by rw [it5]
theorem it5_cons (a : Str) (t : List Str) : it5 (a :: t) = ⟨nmW a, ⟨kdH t, hdN (t.drop 1)⟩⟩ :: it5 (t.drop 2) := by rw [it5]
theorem it5_len : ∀ (n : Nat) (l : List Str), l.length ≤ n → (it5 l).length ≤ l.length
  | 0, [], _ => by rw [it5_nil]; simp
  | _, [], _ => by rw [it5_nil]; simp
  | n + 1, a :: t, h => by
    rw [it5_cons]
    have := it5_len n (t.drop 2) (by simp at h ⊢; omega)
    simp at this ⊢
    omega
def tkW (l : List Str) : List Str := l.takeWhile (fun w => !decide (w = ITEMS))
theorem tk_nil : tkW [] = [] := rfl
theorem tk_t (r : List Str) : tkW (ITEMS :: r) = [] := by simp [tkW, List.takeWhile]
theorem tk_f {w : Str} (h : w ≠ ITEMS) (r : List Str) : tkW (w :: r) = w :: tkW r := by simp [tkW, List.takeWhile, h]
theorem tk_len (l : List Str) : (tkW l).length ≤ l.length := List.Sublist.length_le (List.takeWhile_sublist _)
theorem r5num_eq (l : List Str) {i : Int} (h : 0 ≤ i) : r5numF l i = some (hdN (l.drop i.toNat)) := by
  unfold r5numF
  rw [cnd_f (b := ilt i 0) (decide_eq_false (by omega))]
  by_cases hi : i < l.length
  · have hb : i.toNat < l.length := by omega
    rw [cnd_f (b := ile (ilen l) i) (decide_eq_false (by rw [ilen_eq]; omega)), lget_in h hi, obind_some, rnumber_spec, obind_some, List.drop_eq_getElem_cons hb]
    rfl
  · rw [cnd_t (b := ile (ilen l) i) (decide_eq_true (by rw [ilen_eq]; omega)), drop_end hi]
    rfl
theorem lt24_len {α β : Type} {l : List β} {n : Int} {A B : α} (h : (l.length : Int) + n ≤ 1000000000) : cnd (ilt (imul (iadd (ilen l) n) 24) 140737488355329) A B = A := lt_ok16 (by
  rw [ilen_eq]
  show ((l.length : Int) + n) * 24 < 1000000000000
  omega)
theorem g5_loop1 (s : Str) (l : List Str) (i : Int) (A B : Int × (Int × (Int × (Int × Unit)))) (p : List Int) (h0 : 0 ≤ i) (hl : l.length ≤ 2000000) (hp : (p.length : Int) ≤ i) :
    iter r5get.lr14.T bigL ((s, (l, (i, ()))), (A, (B, (p, ())))) = some ((s, (l, (i + (tkW (l.drop i.toNat)).length, ()))), (A, (B, (p ++ (tkW (l.drop i.toNat)).map nmW, ())))) := by
  refine iter_big (T := r5get.lr14.T) (x := ((s, (l, (i, ()))), (A, (B, (p, ()))))) (fun x => (x.1.2.1.length - x.1.2.2.1).toNat) (fun x => (0 : Int) ≤ x.1.2.2.1 ∧ x.1.2.1.length ≤ 2000000 ∧ (x.2.2.2.1.length : Int) ≤ x.1.2.2.1)
    (fun x => some ((x.1.1, (x.1.2.1, (x.1.2.2.1 + (tkW (x.1.2.1.drop (x.1.2.2.1 : Int).toNat)).length, ()))), (x.2.1, (x.2.2.1, (x.2.2.2.1 ++ (tkW (x.1.2.1.drop (x.1.2.2.1 : Int).toNat)).map nmW, ()))))) ?_ ⟨h0, hl, hp⟩ (by simp; omega)
  · rintro ⟨⟨s, l, i, _⟩, ⟨a1, a2, a3, a4, _⟩, ⟨b1, b2, b3, b4, _⟩, p, _⟩ rec ⟨h0, h1, h2⟩ hr
    simp only at h0 h1 h2 ⊢
    unfold r5get.lr14.T
    by_cases hi : i < l.length
    · have hw : wrap .i64 (iadd i 1) = i + 1 := wrap_in (n := i + 1) (by omega) (by omega)
      have hb : i.toNat < l.length := by omega
      have hn := hr ((s, (l, (i + 1, ()))), ((a1, (a2, (a3, (a4, ())))), ((b1, (b2, (b3, (b4, ())))), (lapp p [nmW l[i.toNat]], ())))) ⟨by show (0 : Int) ≤ i + 1; omega, h1, by show ((p ++ [_]).length : Int) ≤ i + 1; simp; omega⟩ (by simp; omega)
      have e : hdN (l.drop i.toNat) = nmW l[i.toNat] := by rw [List.drop_eq_getElem_cons hb]; rfl
      simp only [lget_in h0 hi, obind_some, r5num_eq l h0, e]
      rw [cnd_t (b := ilt i (ilen l)) (decide_eq_true (by rw [ilen_eq]; exact hi)), lt8_len (by omega), hw, hn, List.drop_eq_getElem_cons hb, show i.toNat + 1 = (i + 1).toNat by omega]
      by_cases z : l[i.toNat] = ITEMS
      · rw [cnd_f (by simp [z]), z, tk_t]
        simp
      · rw [cnd_t (by simp [z]), tk_f z]
        simp
        omega
    · rw [cnd_f (b := ilt i (ilen l)) (decide_eq_false (by rw [ilen_eq]; exact hi)), drop_end hi, tk_nil]
      simp
theorem g5_loop2 (s : Str) (l : List Str) (i : Int) (A B : Int × (Int × (Int × (Int × Unit)))) (p : List Int) (o : List Seen) (h0 : 0 ≤ i) (hl : l.length ≤ 2000000) (ho : (o.length : Int) ≤ i) :
    iter r5get.lr19.T bigL ((s, (l, (i, ()))), (A, (B, (p, (o, ()))))) = some ((s, ()), (A, (B, (p, (o ++ it5 (l.drop i.toNat), ()))))) := by
  rw [iter_big (fun x => (x.1.2.1.length - x.1.2.2.1).toNat) (fun x => (0 : Int) ≤ x.1.2.2.1 ∧ x.1.2.1.length ≤ 2000000 ∧ (x.2.2.2.2.1.length : Int) ≤ x.1.2.2.1)
    (fun x => some ((x.1.1, ()), (x.2.1, (x.2.2.1, (x.2.2.2.1, (x.2.2.2.2.1 ++ it5 (x.1.2.1.drop (x.1.2.2.1 : Int).toNat), ())))))) ?_ ⟨h0, hl, ho⟩ (by simp; omega)]
  · rintro ⟨⟨s, l, i, _⟩, ⟨a1, a2, a3, a4, _⟩, ⟨b1, b2, b3, b4, _⟩, p, o, _⟩ rec ⟨h0, h1, h2⟩ hr
    simp only at h0 h1 h2 ⊢
    unfold r5get.lr19.T
    by_cases hi : i < l.length
    · have hw1 : wrap .i64 (iadd i 1) = i + 1 := wrap_in (n := i + 1) (by omega) (by omega)
      have hw2 : wrap .i64 (iadd i 2) = i + 2 := wrap_in (n := i + 2) (by omega) (by omega)
      have hw3 : wrap .i64 (iadd i 3) = i + 3 := wrap_in (n := i + 3) (by omega) (by omega)
      have hb : i.toNat < l.length := by omega
      have hn := fun v => hr ((s, (l, (i + 3, ()))), ((a1, (a2, (a3, (a4, ())))), ((b1, (b2, (b3, (b4, ())))), (p, (lapp o [v], ()))))) ⟨by show (0 : Int) ≤ i + 3; omega, h1, by show ((o ++ [_]).length : Int) ≤ i + 3; simp; omega⟩ (by simp; omega)
      have e : hdN (l.drop i.toNat) = nmW l[i.toNat] := by rw [List.drop_eq_getElem_cons hb]; rfl
      simp only [hw1, hw2, hw3, obind_some, r5num_eq l h0, r5num_eq l (show (0 : Int) ≤ i + 2 by omega), e, hn]
      simp only [lt24_len (l := o) (n := 1) (by omega)]
      rw [cnd_t (b := ilt i (ilen l)) (decide_eq_true (by rw [ilen_eq]; exact hi)), List.drop_eq_getElem_cons hb, it5_cons]
      have q1 : (l.drop (i.toNat + 1)).drop 1 = l.drop (i + 2).toNat := by rw [List.drop_drop]; congr 1; omega
      have q2 : (l.drop (i.toNat + 1)).drop 2 = l.drop (i + 3).toNat := by rw [List.drop_drop]; congr 1; omega
      rw [q1, q2]
      by_cases hi1 : i + 1 < l.length
      · have hb1 : i.toNat + 1 < l.length := by omega
        have e1 : lget l (i + 1) = some l[i.toNat + 1] := by
          rw [lget_in (by omega) hi1]
          congr 1
          simp only [show (i + 1).toNat = i.toNat + 1 by omega]
        rw [e1, List.drop_eq_getElem_cons hb1]
        simp only [obind_some, cnd_t (b := ilt (i + 1) (ilen l)) (decide_eq_true (by rw [ilen_eq]; exact hi1)), kdH, kdW]
        generalize l[i.toNat + 1] = b
        by_cases z1 : b = WITH
        · subst z1
          simp
        · by_cases z2 : b = BOX
          · subst z2
            simp
          · simp [z1, z2]
      · rw [show l.drop (i.toNat + 1) = [] from List.drop_eq_nil_of_le (by omega)]
        simp only [cnd_f (b := ilt (i + 1) (ilen l)) (decide_eq_false (by rw [ilen_eq]; exact hi1)), kdH]
        simp
    · rw [cnd_f (b := ilt i (ilen l)) (decide_eq_false (by rw [ilen_eq]; exact hi)), drop_end hi, it5_nil]
      simp
end Go.Sx
