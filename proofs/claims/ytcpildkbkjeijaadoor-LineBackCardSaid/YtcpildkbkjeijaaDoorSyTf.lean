/-
  Lines: what the document's reading reads.
-/
import Derived.Test.YtcpildkbkjeijaaDoorSyTe
set_option linter.unusedVariables false
set_option linter.unusedSimpArgs false
namespace Go.Sx
open Go Go.Proofs
open Go.Lib (decDigits nDigits)
theorem words_count' {c : Cmd} (h : MayC c) : (wordsP c).length ≤ 1000000000 := by
  have := may_rows h
  unfold wordsP
  repeat' split
  all_goals simp [numsP]
  omega
theorem Res.kdir {L l : List Str} {i : Int} {G : Str → Option (Cmd × Int)} {B : Option (Cmd × Int)} (hi : 0 ≤ i) (h : ∀ a, Res L (G a)) (hB : Res L B) : Res L (cnd (ilt i (ilen l)) (obind (lget l i) G) B) := by
  by_cases c : i < l.length
  · rw [cnd_t (b := ilt i (ilen l)) (decide_eq_true (by rw [ilen_eq]; omega)), lget_in hi c]
    exact h _
  · rw [cnd_f (b := ilt i (ilen l)) (decide_eq_false (by rw [ilen_eq]; omega))]
    exact hB
theorem kind_rng {w : Str} : 0 ≤ (kindP w).1 ∧ (kindP w).1 ≤ 10 := by
  cases hk : kindP w with
  | mk k b =>
  cases b with
  | false => have := kind_no hk; simp only; omega
  | true => have := (kind_inv hk).1; simp only; omega
theorem toC_len (l : List Str) : (toC l).length ≤ l.length := (List.takeWhile_sublist _).length_le
theorem toC_nums (g : List Int) (hg : ∀ n ∈ g, FitC n) (r : List Str) : toC (numsP g ++ COINS :: r) = numsP g := by
  induction g with
  | nil => simp [numsP, toC]
  | cons n g ih =>
    have hn := numL_itoa (hg n (by simp))
    have hne : Lib.itoa n ≠ COINS := fun e => by
      have := coins_no
      rw [← e, hn] at this
      cases this
    have := ih (fun m h => hg m (List.mem_cons_of_mem _ h))
    show toC (Lib.itoa n :: (numsP g ++ COINS :: r)) = Lib.itoa n :: numsP g
    unfold toC at this ⊢
    rw [List.takeWhile_cons, if_pos (by simp [hne]), this]
theorem nums_val (g : List Int) (hg : ∀ n ∈ g, FitC n) : (numsP g).map (fun w => (numL w).1) = g := by
  induction g with
  | nil => rfl
  | cons n g ih =>
    have hn := numL_itoa (hg n (by simp))
    simp only [numsP, List.map_cons, hn] at ih ⊢
    rw [ih (fun m h => hg m (List.mem_cons_of_mem _ h))]
theorem nums_len (g : List Int) : (numsP g).length = g.length := by simp [numsP]
theorem kval {k : Int} (h : 1 ≤ k ∧ k ≤ 10) : r3kindF (nameP k) = some (k, true) := by rw [r3kind_eq, kind_name h]
theorem getL_of {c : Cmd} {s : Str} (hs : s.length ≤ 1000000) (h : MayC c) (e : wordsL s = wordsP c) : getL (wordsL s) = (c, 0) := Option.some.inj ((lget_eq s hs).symm.trans (lget_of s c hs h e))
theorem getL_or (l : List Str) : getL l = (zeroC, 2) ∨ ∃ c, MayC c ∧ wordsP c = l ∧ getL l = (c, 0) := by
  unfold getL
  by_cases h : ∃ c, MayC c ∧ wordsP c = l
  · rw [dif_pos h]
    exact .inr ⟨_, (Classical.choose_spec h).1, (Classical.choose_spec h).2, rfl⟩
  · rw [dif_neg h]
    exact .inl rfl
end Go.Sx
