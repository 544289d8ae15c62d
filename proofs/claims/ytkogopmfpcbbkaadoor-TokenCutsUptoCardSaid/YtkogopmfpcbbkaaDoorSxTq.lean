/-
  Words: the plain law of a line in two parts.
-/
import Derived.Test.YtkogopmfpcbbkaaDoorSxTp
set_option linter.unusedVariables false
set_option linter.unusedSimpArgs false
namespace Go.Sx
open Go Go.Proofs
/-- The piece that is still open, and those that are shut. -/
def openP : List UInt8 → Str → List Str × Str
  | acc, [] => ([], acc)
  | acc, c :: r => if c = 32 then (acc :: (openP [] r).1, (openP [] r).2) else openP (acc ++ [c]) r
theorem pieces_open (b : Str) : ∀ (a : Str) (acc : Str), piecesL acc (a ++ b) = (openP acc a).1 ++ piecesL (openP acc a).2 b := by
  intro a
  induction a with
  | nil => intro acc; simp [openP]
  | cons c r ih =>
    intro acc
    rw [List.cons_append, pieces_cons]
    unfold openP
    split
    · simp [ih]
    · rw [ih]
theorem pieces_end (a acc : Str) : piecesL acc a = (openP acc a).1 ++ [(openP acc a).2] := by
  have := pieces_open [] a acc
  simpa [piecesL] using this
theorem pieces_acc (b : Str) : ∀ acc : Str, ∃ h t, piecesL [] b = h :: t ∧ piecesL acc b = (acc ++ h) :: t := by
  suffices H : ∀ (b : Str) (acc acc' : Str), ∃ h t, piecesL acc' b = (acc' ++ h) :: t ∧ piecesL acc b = (acc ++ h) :: t by
    intro acc
    obtain ⟨h, t, h1, h2⟩ := H b acc []
    exact ⟨h, t, by simpa using h1, h2⟩
  intro b
  induction b with
  | nil => intro acc acc'; exact ⟨[], [], by simp [piecesL], by simp [piecesL]⟩
  | cons c r ih =>
    intro acc acc'
    rw [pieces_cons, pieces_cons]
    split
    · exact ⟨[], piecesL [] r, by simp, by simp⟩
    · obtain ⟨h, t, h1, h2⟩ := ih (acc ++ [c]) (acc' ++ [c])
      exact ⟨c :: h, t, by simpa using h1, by simpa using h2⟩
theorem words_blank (a b : Str) : wordsL ((a ++ [32]) ++ b) = wordsL a ++ wordsL b := by
  unfold wordsL
  rw [List.append_assoc, pieces_open, pieces_end a]
  have e : piecesL (openP [] a).2 ([32] ++ b) = (openP [] a).2 :: piecesL [] b := by
    show piecesL _ (32 :: b) = _
    rw [pieces_cons, if_pos rfl]
  rw [e]
  simp [List.filter_append, List.filter_cons]
  split <;> simp
theorem words_count (a b : Str) : (wordsL (a ++ b)).length = (wordsL a ++ wordsL b).length ∨ ((wordsL (a ++ b)).length + 1 = (wordsL a ++ wordsL b).length ∧ 0 < (wordsL a).length ∧ 0 < (wordsL b).length) := by
  obtain ⟨h, t, h1, h2⟩ := pieces_acc b (openP [] a).2
  unfold wordsL
  rw [pieces_open, pieces_end a, h1, h2]
  by_cases e1 : (openP [] a).2 = []
  · left
    simp [e1, List.filter_append, List.filter_cons]
  · by_cases e2 : h = []
    · left
      simp [e1, e2, List.filter_append, List.filter_cons]
    · right
      simp [e1, e2, List.filter_append, List.filter_cons]
      omega
theorem words_len (s : Str) : (wordsL s).length ≤ s.length + 1 := Nat.le_trans (List.length_filter_le _ _) (pieces_len s [])
theorem same_self (a : List Str) (ha : a.length ≤ 1000000000) : sameF a a = some true := by rw [same_eq a a ha, decide_eq_true rfl]
theorem lt_ok {α : Type} {n : Int} {A B : α} (h : n < 1000000000000) : cnd (ilt n 4611686018427387904) A B = A := cnd_t (decide_eq_true (by omega))
theorem lt_ok16 {α : Type} {n : Int} {A B : α} (h : n < 1000000000000) : cnd (ilt n 140737488355329) A B = A := cnd_t (decide_eq_true (by omega))
theorem parts_str (a b : Str) : tokenPartsF a b = some true := by
  unfold tokenPartsF
  rw [tawake_ok]
  simp only [obind, Option.bind_some, ilen_eq]
  by_cases h1 : a.length ≤ 1000
  · by_cases h2 : b.length ≤ 1000
    · have la := words_len a
      have lb := words_len b
      have hs := same_self (wordsL a ++ wordsL b) (by rw [List.length_append]; omega)
      have hc := words_count a b
      have hl := words_len (a ++ b)
      simp only [List.length_append] at hc hl
      rw [cut_eq a (by omega), cut_eq b (by omega), cut_eq (lapp a b) (by rw [show lapp a b = a ++ b from rfl, List.length_append]; omega), cut_eq (lapp (lapp a [32]) b) (by rw [show lapp (lapp a [32]) b = a ++ [32] ++ b from rfl, List.length_append, List.length_append]; simp only [List.length_cons, List.length_nil]; omega)]
      rw [show wordsL (lapp (lapp a [32]) b) = wordsL a ++ wordsL b from words_blank a b, bind_some', bind_some', bind_some', bind_some', show lapp (wordsL a) (wordsL b) = wordsL a ++ wordsL b from rfl, hs, bind_some']
      rw [cnd_f (b := bnot true) rfl, cnd_f (b := ilt 1000 (a.length : Int)) (decide_eq_false (by omega)), cnd_f (b := ilt 1000 (b.length : Int)) (decide_eq_false (by omega))]
      have p1 : imul (iadd 0 ((wordsL a).length : Int)) 16 < 1000000000000 := by show (0 + ((wordsL a).length : Int)) * 16 < 1000000000000; omega
      have p2 : imul (iadd ((wordsL a).length : Int) ((wordsL b).length : Int)) 16 < 1000000000000 := by show (((wordsL a).length : Int) + (wordsL b).length) * 16 < 1000000000000; omega
      rw [lt_ok16 p1, lt_ok16 p2]
      have q1 : iadd (a.length : Int) (b.length : Int) < 1000000000000 := by show (a.length : Int) + b.length < 1000000000000; omega
      have q2 : iadd (a.length : Int) 1 < 1000000000000 := by show (a.length : Int) + 1 < 1000000000000; omega
      have q3 : iadd ((lapp a [32]).length : Int) (b.length : Int) < 1000000000000 := by
        have e : (lapp a [32]).length = a.length + 1 := by simp
        rw [e]
        show ((a.length + 1 : Nat) : Int) + b.length < 1000000000000
        omega
      rw [lt_ok q1, lt_ok q2, lt_ok q3]
      rw [cnd_t (b := true) rfl]
      have hw : wrap .i64 (isub ((wordsL a ++ wordsL b).length : Int) 1) = ((wordsL a).length : Int) + (wordsL b).length - 1 := by
        rw [show isub ((wordsL a ++ wordsL b).length : Int) 1 = ((wordsL a).length : Int) + (wordsL b).length - 1 by simp]
        exact wrap_in (by omega) (by omega)
      rw [hw, show ((wordsL a ++ wordsL b).length : Int) = ((wordsL a).length : Int) + (wordsL b).length by simp, show lapp a b = a ++ b from rfl]
      rcases hc with hc | ⟨hc, p1, p2⟩
      · rw [cnd_t (decide_eq_true (by omega))]
      · rw [cnd_f (decide_eq_false (by omega)), cnd_t (decide_eq_true (by omega)), cnd_t (decide_eq_true (by omega))]
        simp
        omega
    · rw [cnd_f (b := bnot true) rfl, cnd_f (b := ilt 1000 (a.length : Int)) (decide_eq_false (by omega)), cnd_t (b := ilt 1000 (b.length : Int)) (decide_eq_true (by omega))]
  · rw [cnd_f (b := bnot true) rfl, cnd_t (b := ilt 1000 (a.length : Int)) (decide_eq_true (by omega))]
theorem tokenParts_ok : ∀ xs : Lf [.str, .str], (∀ m, wfA m _ xs) → tokenPartsF xs.1 xs.2.1 = some true := fun xs _ => parts_str xs.1 xs.2.1
end Go.Sx
