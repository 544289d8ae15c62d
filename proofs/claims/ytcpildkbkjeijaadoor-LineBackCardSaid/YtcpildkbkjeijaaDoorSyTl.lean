/-
  Lines: there and back, and numbers.
-/
import Derived.Test.YtcpildkbkjeijaaDoorSyTk
set_option linter.unusedVariables false
set_option linter.unusedSimpArgs false
namespace Go.Sx
open Go Go.Proofs
open Go.Lib (decDigits nDigits)
theorem back_tail (s : Str) (hs : s.length ≤ 1000) : (obind (lgetF s) (fun x_7 => obind (lputF (⟨x_7.1.kind, x_7.1.dir, x_7.1.item, x_7.1.box, x_7.1.who, x_7.1.gives, x_7.1.pay, x_7.1.wants, x_7.1.fee⟩)) (fun x_8 => cnd (bnot (ieq x_7.2 0)) (cnd (ieq x_7.2 2) (obind (r3sameF (⟨x_7.1.kind, x_7.1.dir, x_7.1.item, x_7.1.box, x_7.1.who, x_7.1.gives, x_7.1.pay, x_7.1.wants, x_7.1.fee⟩) (⟨0, 0, 0, 0, 0, ([] : List Int), 0, ([] : List Int), 0⟩)) (fun x_9 => some x_9)) (some false)) (cnd (ieq x_8.2 0) (obind (rcutF s) (fun x_9 => obind (rjoinF x_9) (fun x_10 => some (seq x_10 x_8.1)))) (some false))))) = some true := by
  rw [lget_eq s (by omega), obind_some]
  rcases getL_or (wordsL s) with e | ⟨c, hc, hw, e⟩
  · have hz : r3sameF zeroC zeroC = some true := r3same_refl zeroC (by decide) (by decide)
    rw [e]
    simp only
    rw [show lputF _ = _ from lput_eq zeroC (by decide) (by decide), obind_some, cnd_t (b := bnot (ieq 2 0)) rfl, cnd_t (b := ieq 2 2) rfl, hz]
    rfl
  · have hr := may_rows hc
    rw [e]
    simp only
    rw [show lputF _ = _ from lput_eq c (by omega) (by omega), obind_some, may_t hc, if_pos rfl, cnd_f (b := bnot (ieq 0 0)) rfl]
    simp only
    rw [cnd_t (b := ieq 0 0) rfl, rcut_eq s (by omega), obind_some, ← hw, rjoinF_eq _ (by have := words_cnt hc; omega) (fun w hw => by have := (words_ok hc w hw).2; omega), obind_some]
    congr 1
    exact decide_eq_true rfl
theorem words_end (X : Str) : wordsL (X ++ [32]) = wordsL X := by
  have := words_blank X []
  rw [List.append_nil, words_nil, List.append_nil] at this
  exact this
theorem back_law (c d : Cmd) (s : Str) : lineBackF c d s = some true := by
  unfold lineBackF
  rw [qawake_ok, obind_some, cnd_f (b := bnot true) rfl]
  obtain ⟨b, hb, hf⟩ := few_cmd c
  rw [show r3fewF ⟨c.kind, _, _, _, _, _, _, _, _⟩ = _ from hb, obind_some]
  cases b with
  | false => rfl
  | true =>
    obtain ⟨f1, f2⟩ := hf rfl
    obtain ⟨b2, hb2, hf2⟩ := few_cmd d
    rw [cnd_f (b := bnot true) rfl, show r3fewF _ = _ from hb2, obind_some]
    cases b2 with
    | false => rfl
    | true =>
      obtain ⟨f3, f4⟩ := hf2 rfl
      rw [cnd_f (b := bnot true) rfl]
      by_cases hs : s.length ≤ 1000
      · have htail := back_tail s hs
        rw [cnd_f (b := ilt 1000 (ilen s)) (decide_eq_false (by rw [ilen_eq]; omega)), show lputF ⟨c.kind, _, _, _, _, _, _, _, _⟩ = _ from lput_eq c (by omega) (by omega), obind_some, show lputF ⟨d.kind, _, _, _, _, _, _, _, _⟩ = _ from lput_eq d (by omega) (by omega), obind_some]
        by_cases hm : MayC c
        · have hj := join_short hm
          have hwj := words_of_join hm
          rw [may_t hm, if_pos rfl]
          simp only
          rw [cnd_t (b := ieq 0 0) rfl]
          rw [cnd_t (b := ilt (iadd 2 (ilen (Lib.join (wordsP c) [32]))) 4611686018427387904) (ilt_t (by simp only [iadd, ilen_eq]; omega))]
          rw [cnd_t (b := ilt (iadd (ilen (lapp [32, 32] (Lib.join (wordsP c) [32]))) 1) 4611686018427387904) (ilt_t (by simp only [iadd, ilen_app, ilen_cons, ilen_nil, ilen_eq (Lib.join (wordsP c) [32])]; omega))]
          have hg := lget_of (lapp (lapp [32, 32] (Lib.join (wordsP c) [32])) [32]) c (by simp [lapp]; omega) hm (by
            show wordsL ((32 :: 32 :: Lib.join (wordsP c) [32]) ++ [32]) = _
            rw [words_end, words_sp, words_sp, hwj])
          rw [hg, obind_some]
          simp only
          have hcc : r3sameF c c = some true := r3same_refl c (by omega) (by omega)
          have hcd : r3sameF c d = some (decide (c = d)) := r3same_eq c d (by omega) (by omega)
          rw [cnd_f (b := bnot (ieq 0 0)) rfl, show r3sameF ⟨c.kind, _, _, _, _, _, _, _, _⟩ ⟨c.kind, _, _, _, _, _, _, _, _⟩ = _ from hcc, obind_some, cnd_f (b := bnot true) rfl]
          by_cases hd : MayC d
          · rw [may_t hd, if_pos rfl]
            simp only
            rw [cnd_t (b := ieq 0 0) rfl, show r3sameF ⟨c.kind, _, _, _, _, _, _, _, _⟩ ⟨d.kind, _, _, _, _, _, _, _, _⟩ = _ from hcd, obind_some]
            have hbq : beq' (seq (Lib.join (wordsP c) [32]) (Lib.join (wordsP d) [32])) (decide (c = d)) = true := by
              by_cases e : c = d
              · subst e
                rw [show seq (Lib.join (wordsP c) [32]) (Lib.join (wordsP c) [32]) = true from decide_eq_true rfl, show decide (c = c) = true from decide_eq_true rfl]
                rfl
              · have hne : Lib.join (wordsP c) [32] ≠ Lib.join (wordsP d) [32] := fun h => e (words_inj hm hd (by rw [← hwj, h, words_of_join hd]))
                rw [show seq (Lib.join (wordsP c) [32]) (Lib.join (wordsP d) [32]) = false from decide_eq_false hne, show decide (c = d) = false from decide_eq_false e]
                rfl
            rw [hbq, cnd_f (b := bnot true) rfl]
            exact htail
          · rw [may_f hd, if_neg (by decide)]
            exact htail
        · rw [may_f hm, if_neg (by decide)]
          exact htail
      · rw [cnd_t (b := ilt 1000 (ilen s)) (decide_eq_true (by rw [ilen_eq]; omega))]
        rfl
theorem lineBack_ok : ∀ xs : Lf [.st .cmd, .st .cmd, .str], (∀ m, wfA m _ xs) → lineBackF xs.1 xs.2.1 xs.2.2.1 = some true := fun xs _ => back_law xs.1 xs.2.1 xs.2.2.1
/-! Numbers. -/
theorem getL_words {c : Cmd} (h : MayC c) : getL (wordsP c) = (c, 0) := by
  have := getL_of (s := Lib.join (wordsP c) [32]) (by have := join_short h; omega) h (words_of_join h)
  rw [words_of_join h] at this
  exact this
theorem reads (X : Str) (W : List Str) (hX : X = Lib.join W [32]) (hW : ∀ w ∈ W, Plain w ∧ w.length ≤ 19) (hl : W.length ≤ 20) : lgetF X = some (getL W) := by
  subst hX
  have h1 := join_len 19 W (fun w hw => (hW w hw).2)
  have h2 : W.length * (19 + 1) ≤ 20 * 20 := Nat.mul_le_mul_right _ hl
  rw [lget_eq _ (by omega), words_join W (fun w hw => (hW w hw).1)]
theorem itoa_no0 {k : Int} {A : Str} (h : FitC k) (hA : A ≠ []) : Lib.itoa k ≠ 48 :: A := by
  obtain ⟨h0, h1⟩ := h
  obtain ⟨u, rfl⟩ := Int.eq_ofNat_of_zero_le h0
  rw [itoa_nat]
  intro e
  exact hA (dig_zero u A e)
theorem zero_plain {A : Str} (h : Plain A ∧ A.length ≤ 18) : Plain (48 :: A) ∧ (48 :: A).length ≤ 19 := by
  refine ⟨⟨by simp, fun c hc e => ?_⟩, by simp; omega⟩
  rcases List.mem_cons.1 hc with rfl | hc
  · revert e; decide
  · exact h.1.2 c hc e
theorem numbers_law (n m : Int) (hn0 : 0 ≤ n) (hn1 : n ≤ 4294967295) (hm0 : 0 ≤ m) (hm1 : m ≤ 4294967295) : lineNumbersF n m = some true := by
  unfold lineNumbersF
  rw [qawake_ok, obind_some, cnd_f (b := bnot true) rfl]
  by_cases hn : n ≤ 1073741824
  · rw [cnd_f (b := ilt 1073741824 n) (decide_eq_false (by omega))]
    by_cases hm : m ≤ 1073741824
    · rw [cnd_f (b := ilt 1073741824 m) (decide_eq_false (by omega))]
      have fn : FitC n := ⟨hn0, hn⟩
      have fm : FitC m := ⟨hm0, hm⟩
      have m5 : MayC ⟨5, 0, n, m, 0, [], 0, [], 0⟩ := by simp [MayC, FitH, RowH, fn, fm]
      have m6 : MayC ⟨6, 0, n, m, 0, [], 0, [], 0⟩ := by simp [MayC, FitH, RowH, fn, fm]
      have m8 : MayC ⟨8, 0, 0, 0, m, [n, n], m, [m], n⟩ := by simp [MayC, FitH, RowH, RowC, fn, fm]
      rw [wrap_in (n := n) (by omega) (by omega), wrap_in (n := m) (by omega) (by omega), rword_fit fn, obind_some, rword_fit fm, obind_some]
      have pA := itoa_plain fn
      have pB := itoa_plain fm
      have w5 : wordsP ⟨5, 0, n, m, 0, [], 0, [], 0⟩ = [nameP 5, Lib.itoa n, IN, Lib.itoa m] := rfl
      have w6 : wordsP ⟨6, 0, n, m, 0, [], 0, [], 0⟩ = [nameP 6, Lib.itoa n, FROM, Lib.itoa m] := rfl
      have w8 : wordsP ⟨8, 0, 0, 0, m, [n, n], m, [m], n⟩ = [nameP 8, Lib.itoa m, GIVE, Lib.itoa n, Lib.itoa n, COINS, Lib.itoa m, FOR, Lib.itoa m, COINS, Lib.itoa n] := rfl
      have x5 : getL [nameP 5, 48 :: Lib.itoa n, IN, Lib.itoa m] = (zeroC, 2) := getL_none fun c hc hw => by
        have hk := kind_of_words hc (by decide) hw
        have hf : FitC c.item := hc.2.2.2.1.1 (by omega)
        unfold wordsP at hw
        rw [hk] at hw
        simp only [Int.reduceEq, if_true, if_false, reduceIte, List.cons.injEq] at hw
        exact itoa_no0 hf pA.1.1 hw.2.1
      have x7 : getL [nameP 7, Lib.itoa n, TO, 48 :: Lib.itoa m] = (zeroC, 2) := getL_none fun c hc hw => by
        have hk := kind_of_words hc (by decide) hw
        have hf : FitC c.who := hc.2.2.2.2.2.1.1 (by omega)
        unfold wordsP at hw
        rw [hk] at hw
        simp only [Int.reduceEq, if_true, if_false, reduceIte, List.cons.injEq] at hw
        exact itoa_no0 hf pB.1.1 hw.2.2.2.1
      have s5 := words_ok m5
      have s6 := words_ok m6
      have s8 := words_ok m8
      have g5 := getL_words m5
      have g6 := getL_words m6
      have g8 := getL_words m8
      rw [w5] at s5 g5
      rw [w6] at s6 g6
      rw [w8] at s8 g8
      have s50 : ∀ w ∈ [nameP 5, 48 :: Lib.itoa n, IN, Lib.itoa m], Plain w ∧ w.length ≤ 19 := by
        intro w hw
        simp only [List.mem_cons, List.not_mem_nil, or_false] at hw
        rcases hw with rfl | rfl | rfl | rfl
        · have := s5 (nameP 5) (by simp); exact ⟨this.1, by omega⟩
        · exact zero_plain pA
        · have := s5 IN (by simp); exact ⟨this.1, by omega⟩
        · exact ⟨pB.1, by omega⟩
      have s70 : ∀ w ∈ [nameP 7, Lib.itoa n, TO, 48 :: Lib.itoa m], Plain w ∧ w.length ≤ 19 := by
        intro w hw
        simp only [List.mem_cons, List.not_mem_nil, or_false] at hw
        rcases hw with rfl | rfl | rfl | rfl
        · have := name_plain (k := 7) (by decide); exact ⟨this.1, by omega⟩
        · exact ⟨pA.1, by omega⟩
        · have := lit_plain (w := TO) (by decide); exact ⟨this.1, by omega⟩
        · exact zero_plain pB
      clear w5 w6 w8
      generalize Lib.itoa n = A at *
      generalize Lib.itoa m = B at *
      have lA : ilen A = (A.length : Int) := ilen_eq _
      have lB : ilen B = (B.length : Int) := ilen_eq _
      have hA := pA.2
      have hB := pB.2
      simp (disch := omega) only [ilen_app, ilen_cons, ilen_nil, lA, lB, iadd, ilt_t, cnd_tt]
      rw [reads (lapp (lapp (lapp [112, 117, 116, 32] A) [32, 105, 110, 32]) B) [nameP 5, A, IN, B] (by simp [Lib.join, List.intercalate, lapp, nameP, kindsL]) (fun w hw => by have := s5 w hw; exact ⟨this.1, by omega⟩) (by simp), obind_some, g5]
      rw [reads (lapp (lapp (lapp [116, 97, 107, 101, 32] A) [32, 102, 114, 111, 109, 32]) B) [nameP 6, A, FROM, B] (by simp [Lib.join, List.intercalate, lapp, nameP, kindsL]) (fun w hw => by have := s6 w hw; exact ⟨this.1, by omega⟩) (by simp), obind_some, g6]
      rw [reads (lapp (lapp (lapp [112, 117, 116, 32, 48] A) [32, 105, 110, 32]) B) [nameP 5, 48 :: A, IN, B] (by simp [Lib.join, List.intercalate, lapp, nameP, kindsL]) s50 (by simp), obind_some, x5]
      rw [reads (lapp (lapp (lapp [103, 105, 118, 101, 32] A) [32, 116, 111, 32, 48]) B) [nameP 7, A, TO, 48 :: B] (by simp [Lib.join, List.intercalate, lapp, nameP, kindsL]) s70 (by simp), obind_some, x7]
      rw [reads (lapp (lapp (lapp (lapp (lapp (lapp (lapp (lapp (lapp (lapp (lapp [116, 114, 97, 100, 101, 32] B) [32, 103, 105, 118, 101, 32]) A) [32]) A) [32, 99, 111, 105, 110, 115, 32]) B) [32, 102, 111, 114, 32]) B) [32, 99, 111, 105, 110, 115, 32]) A) [nameP 8, B, GIVE, A, A, COINS, B, FOR, B, COINS, A] (by simp [Lib.join, List.intercalate, lapp, nameP, kindsL]) (fun w hw => by have := s8 w hw; exact ⟨this.1, by omega⟩) (by simp), obind_some, g8]
      simp only
      rw [r3same_refl _ (by simp) (by simp), obind_some, r3same_refl _ (by simp) (by simp), obind_some, r3same_refl _ (by simp) (by simp)]
      rfl
    · rw [cnd_t (b := ilt 1073741824 m) (decide_eq_true (by omega))]
      rfl
  · rw [cnd_t (b := ilt 1073741824 n) (decide_eq_true (by omega))]
    rfl
theorem lineNumbers_ok : ∀ xs : Lf [.int .u32, .int .u32], (∀ m, wfA m _ xs) → lineNumbersF xs.1 xs.2.1 = some true := by
  rintro ⟨a, b, _⟩ hw
  obtain ⟨ha, hw⟩ := wfA_cons hw
  obtain ⟨hb, _⟩ := wfA_cons hw
  obtain ⟨a0, a1⟩ : (0 : Int) ≤ a ∧ a ≤ (4294967295 : Int) := wf_u32 ha
  obtain ⟨b0, b1⟩ : (0 : Int) ≤ b ∧ b ≤ (4294967295 : Int) := wf_u32 hb
  exact numbers_law a b a0 a1 b0 b1
end Go.Sx
