/-
  Lines: the plain laws.
-/
import Derived.Test.YtcpildkbkjeijaaDoorSyTi
import Derived.Test.YtcpildkbkjeijaaDoorSyU
set_option linter.unusedVariables false
set_option linter.unusedSimpArgs false
namespace Go.Sx
open Go Go.Proofs
open Go.Lib (decDigits nDigits)
theorem sumL_short : ∀ (l : List Str) (B : Nat), (∀ w ∈ l, w.length ≤ B) → sumL l ≤ l.length * (B + 1)
  | [], _, _ => by simp [sumL]
  | w :: r, B, h => by
    have h1 := sumL_short r B (fun u hu => h u (List.mem_cons_of_mem _ hu))
    have h2 := h w (by simp)
    simp only [sumL, List.length_cons, Nat.add_mul]
    omega
theorem rjoinF_eq (l : List Str) (h1 : l.length ≤ 100) (h2 : ∀ w ∈ l, w.length ≤ 1000) : rjoinF l = some (Lib.join l [32]) := by
  have h3 := sumL_short l 1000 h2
  have h4 : l.length * (1000 + 1) ≤ 100 * 1001 := Nat.mul_le_mul_right _ h1
  exact rjoin_eq l (by omega) (by omega)
theorem few_cmd (c : Cmd) : ∃ b, r3fewF c = some b ∧ (b = true → c.gives.length ≤ 40 ∧ c.wants.length ≤ 40) := by
  unfold r3fewF
  by_cases h : c.gives.length ≤ 40
  · rw [cnd_t (b := ile (ilen c.gives) 40) (decide_eq_true (by rw [ilen_eq]; omega))]
    refine ⟨_, rfl, fun h' => ⟨h, ?_⟩⟩
    have := of_decide_eq_true h'
    rw [ilen_eq] at this
    omega
  · rw [cnd_f (b := ile (ilen c.gives) 40) (decide_eq_false (by rw [ilen_eq]; omega))]
    exact ⟨false, rfl, fun h' => by cases h'⟩
/-! Awake. -/
theorem itoa_d {n : Int} (h0 : 0 ≤ n) (h : n < 10) : Lib.itoa n = [UInt8.ofNat (48 + n).toNat] := itoa_small h0 h
abbrev qc : Cmd := ⟨8, 0, 0, 0, 2, [1, 2], 5, [], 0⟩
theorem qc_words : wordsP qc = [[116, 114, 97, 100, 101], [50], [103, 105, 118, 101], [49], [50], [99, 111, 105, 110, 115], [53], [102, 111, 114], [99, 111, 105, 110, 115], [48]] := by
  show nameP 8 :: Lib.itoa 2 :: GIVE :: ([Lib.itoa 1, Lib.itoa 2] ++ (COINS :: Lib.itoa 5 :: FOR :: ([] ++ [COINS, Lib.itoa 0]))) = _
  rw [itoa_d (n := 2) (by decide) (by decide), itoa_d (n := 1) (by decide) (by decide), itoa_d (n := 5) (by decide) (by decide), itoa_d (n := 0) (by decide) (by decide)]
  rfl
theorem qc_may : MayC qc := by
  simp [MayC, FitH, RowH, FitC, RowC]
theorem kind_of_words {c : Cmd} {k : Int} {r : List Str} (h : MayC c) (hk : 1 ≤ k ∧ k ≤ 10) (e : wordsP c = nameP k :: r) : c.kind = k := by
  have h1 : nameP c.kind = nameP k := by
    have := congrArg List.head? e
    exact Option.some.inj this
  have h2 := kind_name h.1
  rw [h1, kind_name hk] at h2
  cases h2
  rfl
theorem getL_none {l : List Str} (h : ∀ c, MayC c → wordsP c = l → False) : getL l = (zeroC, 2) := by
  rcases getL_or l with e | ⟨c, hc, hw, _⟩
  · exact e
  · exact (h c hc hw).elim
theorem getL_nil : getL [] = (zeroC, 2) := getL_none fun c hc hw => by
  unfold wordsP at hw
  cases hw
theorem qawake_ok : qawakeF = some true := by
  have a1 : lputF qc = some ([116, 114, 97, 100, 101, 32, 50, 32, 103, 105, 118, 101, 32, 49, 32, 50, 32, 99, 111, 105, 110, 115, 32, 53, 32, 102, 111, 114, 32, 99, 111, 105, 110, 115, 32, 48], 0) := by
    rw [lput_eq qc (by decide) (by decide), may_t qc_may, if_pos rfl, qc_words]
    rfl
  have a2 : lgetF [32, 116, 114, 97, 100, 101, 32, 50, 32, 32, 103, 105, 118, 101, 32, 49, 32, 50, 32, 99, 111, 105, 110, 115, 32, 53, 32, 102, 111, 114, 32, 99, 111, 105, 110, 115, 32, 48, 32] = some (qc, 0) :=
    lget_of _ qc (by decide) qc_may (by rw [qc_words]; rfl)
  have a3 : lgetF [116, 114, 97, 100, 101, 32, 50, 32, 103, 105, 118, 101, 32, 49, 32, 50, 32, 99, 111, 105, 110, 115, 32, 53, 32, 102, 111, 114, 32, 99, 111, 105, 110, 115] = some (zeroC, 2) := by
    rw [lget_eq _ (by decide)]
    refine congrArg some (getL_none fun c hc hw => ?_)
    have e : wordsL [116, 114, 97, 100, 101, 32, 50, 32, 103, 105, 118, 101, 32, 49, 32, 50, 32, 99, 111, 105, 110, 115, 32, 53, 32, 102, 111, 114, 32, 99, 111, 105, 110, 115] = nameP 8 :: [[50], [103, 105, 118, 101], [49], [50], [99, 111, 105, 110, 115], [53], [102, 111, 114], COINS] := rfl
    rw [e] at hw
    have hk := kind_of_words hc (by decide) hw
    have hf : FitC c.fee := hc.2.2.2.2.2.2.2.1.1 hk
    have hl := congrArg List.getLast? hw
    unfold wordsP at hl
    rw [hk] at hl
    simp only [Int.reduceEq, if_true, if_false, reduceIte] at hl
    have h1 : (nameP 8 :: Lib.itoa c.who :: GIVE :: (numsP c.gives ++ COINS :: Lib.itoa c.pay :: FOR :: (numsP c.wants ++ [COINS, Lib.itoa c.fee]))) = (nameP 8 :: Lib.itoa c.who :: GIVE :: (numsP c.gives ++ COINS :: Lib.itoa c.pay :: FOR :: (numsP c.wants ++ [COINS]))) ++ [Lib.itoa c.fee] := by simp
    rw [h1, List.getLast?_append] at hl
    have h2 : Lib.itoa c.fee = COINS := by simpa using hl
    have h3 := coins_no
    rw [← h2, numL_itoa hf] at h3
    cases h3
  have a4 : lputF zeroC = some ([], 2) := by
    rw [lput_eq zeroC (by decide) (by decide), may_f (fun h => by have := h.1; revert this; decide)]
    rfl
  have a5 : lgetF [109, 111, 118, 101, 32, 119, 101, 115, 116] = some (⟨1, 3, 0, 0, 0, [], 0, [], 0⟩, 0) :=
    lget_of _ ⟨1, 3, 0, 0, 0, [], 0, [], 0⟩ (by decide) (by simp [MayC, FitH, RowH]) rfl
  have a6 : lgetF [109, 111, 118, 101, 32, 119, 101, 115, 116, 32, 119, 101, 115, 116] = some (zeroC, 2) := by
    rw [lget_eq _ (by decide)]
    refine congrArg some (getL_none fun c hc hw => ?_)
    have e : wordsL [109, 111, 118, 101, 32, 119, 101, 115, 116, 32, 119, 101, 115, 116] = nameP 1 :: [[119, 101, 115, 116], [119, 101, 115, 116]] := rfl
    rw [e] at hw
    have hk := kind_of_words hc (by decide) hw
    have hl := congrArg List.length hw
    unfold wordsP at hl
    rw [hk] at hl
    simp at hl
  have a7 : r3sameF qc qc = some true := r3same_refl qc (by decide) (by decide)
  unfold qawakeF
  rw [show lputF _ = _ from a1, obind_some, a2, obind_some, a3, obind_some, show lputF _ = _ from a4, obind_some, a5, obind_some, a6, obind_some]
  simp only
  rw [show r3sameF _ _ = _ from a7]
  rfl
/-! The laws. -/
theorem getL_rows (l : List Str) : (getL l).1.gives.length ≤ 16 ∧ (getL l).1.wants.length ≤ 16 := by
  rcases getL_or l with e | ⟨c, hc, _, e⟩
  · rw [e]; exact ⟨by decide, by decide⟩
  · rw [e]; exact may_rows hc
theorem words_one {w : Str} (h : Plain w) : wordsL w = [w] := by
  have := words_join [w] (fun u hu => by simp at hu; subst hu; exact h)
  simpa [Lib.join] using this
end Go.Sx
