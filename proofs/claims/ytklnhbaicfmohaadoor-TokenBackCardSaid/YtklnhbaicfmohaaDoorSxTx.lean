/-
  Words: the plain law of there and back.
-/
import Derived.Test.YtklnhbaicfmohaaDoorSxTw
set_option linter.unusedVariables false
set_option linter.unusedSimpArgs false
namespace Go.Sx
open Go Go.Proofs
open Classical in
theorem back5 (l : List Str) (g : Int) (W : List Str) (hW : ∀ w ∈ W, Plain w ∧ w.length ≤ 1000000) (hl : W.length ≤ 1000000) :
    iter tokenBack.l5r5.T bigL (((l, (g, (W, (0, ())))), ())) = some (.inr ((l, (g, (W, ()))), ())) := by
  rw [iter_big (fun x => (x.1.2.2.1.length - x.1.2.2.2.1).toNat) (fun x => (0 : Int) ≤ x.1.2.2.2.1 ∧ x.1.2.2.1.length ≤ 1000000 ∧ ∀ w ∈ x.1.2.2.1, Plain w ∧ w.length ≤ 1000000)
    (fun x => some (.inr ((x.1.1, (x.1.2.1, (x.1.2.2.1, ()))), ()))) ?_ ⟨Int.le_refl _, hl, hW⟩ (by simp; omega)]
  rintro ⟨⟨l, g, m, i, _⟩, _⟩ rec ⟨h0, h1, h2⟩ hr
  simp only at h0 h1 h2 ⊢
  unfold tokenBack.l5r5.T
  obtain ⟨j, rfl⟩ := Int.eq_ofNat_of_zero_le h0
  by_cases hi : j < m.length
  · simp only [lget_in h0 (show (j : Int) < m.length by omega), Int.toNat_natCast]
    have hw : wrap .i64 (iadd (j : Int) 1) = ((j + 1 : Nat) : Int) := wrap_in (n := (j : Int) + 1) (by omega) (by omega)
    have hn := hr ((l, g, m, ((j + 1 : Nat) : Int), ()), ()) ⟨by show (0 : Int) ≤ ((j + 1 : Nat) : Int); omega, h1, h2⟩ (by simp; omega)
    obtain ⟨p1, p2⟩ := h2 m[j] (List.getElem_mem _)
    rw [obind_some, plain_eq m[j] (by omega), obind_some, hw, hn, cnd_t (b := ilt (j : Int) (ilen m)) (decide_eq_true (by rw [ilen_eq]; omega)), decide_eq_true p1]
    rfl
  · rw [cnd_f (b := ilt (j : Int) (ilen m)) (decide_eq_false (by rw [ilen_eq]; omega))]
theorem back18 (l : List Str) (g : Nat) (t : Str) (i : Int) (hg : g ≤ 255) (ht : t.length ≤ 1000000) :
    iter tokenBack.l5r18.T bigL (((l, ((g : Int), (t, (i, (0, ()))))), ())) = some ((l, ((g : Int), (t ++ List.replicate (g % 4 + 1) 32, (i, ())))), ()) := by
  rw [iter_big (fun x => (5 - x.1.2.2.2.2.1 : Int).toNat) (fun x => (0 : Int) ≤ x.1.2.2.2.2.1 ∧ (x.1.2.2.2.2.1 : Int) ≤ ((g % 4 + 1 : Nat) : Int) ∧ x.1.2.1 = (g : Int) ∧ (x.1.2.2.1.length : Int) ≤ 1000000 + x.1.2.2.2.2.1)
    (fun x => some ((x.1.1, (x.1.2.1, (x.1.2.2.1 ++ List.replicate (g % 4 + 1 - (x.1.2.2.2.2.1 : Int).toNat) 32, (x.1.2.2.2.1, ())))), ())) ?_ ⟨Int.le_refl _, by show (0 : Int) ≤ _; omega, rfl, by show (t.length : Int) ≤ 1000000 + 0; omega⟩ (by simp)]
  · simp
  rintro ⟨⟨l, g', m, i, k, _⟩, _⟩ rec ⟨h0, h1, h2, h3⟩ hr
  simp only at h0 h1 h2 h3 ⊢
  subst h2
  unfold tokenBack.l5r18.T
  obtain ⟨j, rfl⟩ := Int.eq_ofNat_of_zero_le h0
  have hq : wrap .i64 (irem (g : Int) 4) = ((g % 4 : Nat) : Int) := by
    rw [show irem (g : Int) 4 = ((g % 4 : Nat) : Int) from rfl]
    exact wrap_in (by omega) (by omega)
  simp only [Int.toNat_natCast]
  rw [hq]
  by_cases hj : j ≤ g % 4
  · have hw : wrap .i64 (iadd (j : Int) 1) = ((j + 1 : Nat) : Int) := wrap_in (n := (j : Int) + 1) (by omega) (by omega)
    have q1 : iadd (ilen m) 1 < 1000000000000 := by rw [ilen_eq]; show (m.length : Int) + 1 < 1000000000000; omega
    have hn := hr ((l, (g : Int), m ++ [32], i, ((j + 1 : Nat) : Int), ()), ()) ⟨by show (0 : Int) ≤ ((j + 1 : Nat) : Int); omega, by show ((j + 1 : Nat) : Int) ≤ _; omega, rfl, by show ((m ++ [32]).length : Int) ≤ 1000000 + ((j + 1 : Nat) : Int); rw [List.length_append]; simp; omega⟩ (by simp; omega)
    simp only [Int.toNat_natCast] at hn
    show cnd (ile (j : Int) ((g % 4 : Nat) : Int)) (cnd (ilt (iadd (ilen m) 1) 4611686018427387904) (rec ((l, ((g : Int), (m ++ [32], (i, (wrap .i64 (iadd (j : Int) 1), ()))))), ())) none) _ = _
    rw [cnd_t (b := ile (j : Int) ((g % 4 : Nat) : Int)) (decide_eq_true (by omega)), lt_ok q1, hw, hn, show g % 4 + 1 - j = (g % 4 + 1 - (j + 1)) + 1 by omega, List.replicate_succ]
    simp
  · rw [cnd_f (b := ile (j : Int) ((g % 4 : Nat) : Int)) (decide_eq_false (by omega)), show g % 4 + 1 - j = 0 by omega]
    simp
theorem words_pad (t : Str) : ∀ q, wordsL (t ++ List.replicate q 32) = wordsL t
  | 0 => by simp
  | q + 1 => by
    rw [List.replicate_succ', ← List.append_assoc]
    have := words_blank (t ++ List.replicate q 32) []
    simp only [List.append_nil, words_nil] at this
    rw [this, words_pad t q]
theorem words_add (t w : Str) (q : Nat) (h : Plain w) : wordsL (t ++ List.replicate (q + 1) 32 ++ w) = wordsL t ++ [w] := by
  rw [List.replicate_succ', ← List.append_assoc, words_blank, words_pad]
  congr 1
  have := words_word w [] h.1 h.2 (.inl rfl)
  simpa [words_nil] using this
end Go.Sx
