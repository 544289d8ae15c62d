/-
  Words: the document's own join.
-/
import Derived.Test.YtkogopmfpcbbkaaDoorSxTw
set_option linter.unusedVariables false
set_option linter.unusedSimpArgs false
namespace Go.Sx
open Go Go.Proofs
/-- All words' bytes, and one more for each. -/
def sumL : List Str → Nat
  | [] => 0
  | w :: r => w.length + 1 + sumL r
theorem join_sum : ∀ l : List Str, (Lib.join l [32]).length ≤ sumL l
  | [] => by simp [Lib.join_nil]
  | [w] => by rw [Lib.join_one]; simp [sumL]
  | w :: v :: r => by
    have e : Lib.join (w :: v :: r) [32] = w ++ (32 :: Lib.join (v :: r) [32]) := by simp [Lib.join, List.intercalate]
    have ih := join_sum (v :: r)
    rw [e]
    simp only [List.length_append, List.length_cons, sumL] at ih ⊢
    omega
/-- What is still to be written behind what is there. -/
def tailJ : List Str → Str
  | [] => []
  | w :: r => 32 :: w ++ tailJ r
theorem join_tail (w : Str) : ∀ r : List Str, Lib.join (w :: r) [32] = w ++ tailJ r := by
  intro r
  induction r generalizing w with
  | nil => rw [Lib.join_one]; simp [tailJ]
  | cons v r ih =>
    have e : Lib.join (w :: v :: r) [32] = w ++ (32 :: Lib.join (v :: r) [32]) := by simp [Lib.join, List.intercalate]
    rw [e, ih v]
    simp [tailJ]
theorem lt_okj {α : Type} {n : Int} {A B : α} (h : n < 1000000000000000) : cnd (ilt n 4611686018427387904) A B = A := cnd_t (decide_eq_true (by omega))
theorem rjoin_eq (l : List Str) (hl : l.length ≤ 1000000) (hs : sumL l ≤ 140737488355328) : rjoinF l = some (Lib.join l [32]) := by
  unfold rjoinF
  rw [iter_big (fun x => (x.1.1.length - x.1.2.2.1).toNat) (fun x => (0 : Int) ≤ x.1.2.2.1 ∧ x.1.1.length ≤ 1000000 ∧ x.1.2.1.length + sumL (x.1.1.drop (x.1.2.2.1 : Int).toNat) ≤ 140737488355328 ∧ ((x.1.2.2.1 : Int) = 0 → x.1.2.1 = []))
    (fun x => some (((if (x.1.2.2.1 : Int) = 0 then Lib.join x.1.1 [32] else x.1.2.1 ++ tailJ (x.1.1.drop (x.1.2.2.1 : Int).toNat)), ()), ())) ?_ ⟨Int.le_refl _, hl, by simpa using hs, fun _ => rfl⟩ (by simp; omega)]
  · rw [obind_some]
    simp
  · rintro ⟨⟨m, t, i, _⟩, _⟩ rec ⟨h0, h1, h2, h3⟩ hr
    simp only at h0 h1 h2 h3 ⊢
    unfold rjoin.l14r3.T
    obtain ⟨j, rfl⟩ := Int.eq_ofNat_of_zero_le h0
    simp only [Int.toNat_natCast] at h2 ⊢
    by_cases hi : j < m.length
    · have hg1 := lget_in (l := m) h0 (show (j : Int) < m.length by omega)
      simp only [Int.toNat_natCast] at hg1
      have hw1 : wrap .i64 (iadd (j : Int) 1) = ((j + 1 : Nat) : Int) := wrap_in (n := (j : Int) + 1) (by omega) (by omega)
      rw [List.drop_eq_getElem_cons hi] at h2
      simp only [sumL] at h2
      rw [cnd_t (b := ilt (j : Int) (ilen m)) (decide_eq_true (by rw [ilen_eq]; omega))]
      by_cases z : j = 0
      · subst z
        have ht := h3 rfl
        subst ht
        have hn := hr ((m, m[0], ((1 : Nat) : Int), ()), ()) ⟨by show (0 : Int) ≤ ((1 : Nat) : Int); omega, h1, by show m[0].length + sumL (m.drop 1) ≤ _; simp only [List.length_nil, Nat.zero_add] at h2; omega, fun h => by simp at h⟩ (by simp; omega)
        have q1 : iadd (ilen ([] : Str)) (ilen m[0]) < 1000000000000000 := by
          rw [ilen_eq, ilen_eq]
          show ((0 : Nat) : Int) + (m[0].length : Int) < _
          omega
        rw [cnd_f (b := ilt 0 ((0 : Nat) : Int)) (decide_eq_false (by omega)), hg1, obind_some, lt_okj q1, hw1, show lapp ([] : Str) m[0] = m[0] from rfl, hn]
        have hm : m = m[0] :: m.drop 1 := by
          have := List.drop_eq_getElem_cons hi
          simpa using this
        have hj := join_tail m[0] (m.drop 1)
        rw [← hm] at hj
        simp [hj]
      · have q0 : iadd (ilen t) 1 < 1000000000000000 := by
          rw [ilen_eq]
          show (t.length : Int) + 1 < _
          omega
        have q1 : iadd (ilen (lapp t [32])) (ilen m[j]) < 1000000000000000 := by
          have e : (lapp t [32]).length = t.length + 1 := by simp
          rw [ilen_eq, ilen_eq, e]
          show ((t.length + 1 : Nat) : Int) + (m[j].length : Int) < 1000000000000000
          omega
        have hn := hr ((m, t ++ [32] ++ m[j], ((j + 1 : Nat) : Int), ()), ()) ⟨by show (0 : Int) ≤ ((j + 1 : Nat) : Int); omega, h1, by show (t ++ [32] ++ m[j]).length + sumL (m.drop (((j + 1 : Nat) : Int)).toNat) ≤ _; rw [Int.toNat_natCast, List.length_append, List.length_append, show ([32] : Str).length = 1 from rfl]; omega, fun h => by have h' : ((j + 1 : Nat) : Int) = 0 := h; omega⟩ (by simp; omega)
        rw [cnd_t (b := ilt 0 (j : Int)) (decide_eq_true (by omega)), lt_okj q0, hg1, obind_some, lt_okj q1, hw1, show lapp (lapp t [32]) m[j] = t ++ [32] ++ m[j] from rfl, hn]
        rw [if_neg (show ¬ ((j + 1 : Nat) : Int) = 0 by omega), if_neg (show ¬ (j : Int) = 0 by omega), List.drop_eq_getElem_cons hi, Int.toNat_natCast]
        simp only [tailJ, List.append_assoc, List.cons_append, List.nil_append]
    · rw [cnd_f (b := ilt (j : Int) (ilen m)) (decide_eq_false (by rw [ilen_eq]; omega)), List.drop_eq_nil_of_le (by omega)]
      by_cases z : j = 0
      · subst z
        have hm : m = [] := List.eq_nil_of_length_eq_zero (by omega)
        subst hm
        simp [h3, Lib.join_nil]
      · rw [if_neg (by omega)]
        simp [tailJ]
end Go.Sx
