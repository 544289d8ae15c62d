/-
  Lines: the plain laws.
-/
import Derived.Test.YtcpildkbkjeijaaGreatDoorSyTi
import Derived.Test.YtcpildkbkjeijaaGreatDoorSyU
set_option linter.unusedVariables false
set_option linter.unusedSimpArgs false
namespace Go.Sx
open Go Go.Proofs
open Go.Lib (decDigits nDigits)
theorem sumL_short : ∀ (l : List Str) (B : Nat), (∀ w ∈ l, w.length ≤ B) → sumL l ≤ l.length * (B + 1)
  | [], _, _ => by simp [sumL]
  | w :: r, B, h => by
    have h1 := sumL_short r B (fun u hu => h u (List.mem_cons_of_mem _ hu))
    have h2 := h w (by simp)
    simp only [sumL, List.length_cons, Nat.add_mul]
    omega
theorem rjoinF_eq (l : List Str) (h1 : l.length ≤ 100) (h2 : ∀ w ∈ l, w.length ≤ 1000) : rjoinF l = some (Lib.join l [32]) := by
  have h3 := sumL_short l 1000 h2
  have h4 : l.length * (1000 + 1) ≤ 100 * 1001 := Nat.mul_le_mul_right _ h1
  exact rjoin_eq l (by omega) (by omega)
theorem r4put_eq (c : Cmd) (hg0 : c.gives.length ≤ 1000000000) (hw0 : c.wants.length ≤ 1000000000) : r4putF c = some (if mayB c = true then (Lib.join (wordsP c) [32], 0) else ([], 2)) := by
  unfold r4putF
  rw [show r3mayF _ = _ from r3may_eq c hg0 hw0, obind_some]
  by_cases hm : MayC c
  · rw [may_t hm, if_pos rfl, cnd_f (b := bnot true) rfl, show r4wordsF _ = _ from r4words_eq c hm, obind_some, rjoinF_eq _ (by have := words_cnt hm; omega) (fun w hw => by have := (words_ok hm w hw).2; omega)]
    rfl
  · rw [may_f hm]
    rfl
theorem few_cmd (c : Cmd) : ∃ b, r3fewF c = some b ∧ (b = true → c.gives.length ≤ 40 ∧ c.wants.length ≤ 40) := by
  unfold r3fewF
  by_cases h : c.gives.length ≤ 40
  · rw [cnd_t (b := ile (ilen c.gives) 40) (decide_eq_true (by rw [ilen_eq]; omega))]
    refine ⟨_, rfl, fun h' => ⟨h, ?_⟩⟩
    have := of_decide_eq_true h'
    rw [ilen_eq] at this
    omega
  · rw [cnd_f (b := ile (ilen c.gives) 40) (decide_eq_false (by rw [ilen_eq]; omega))]
    exact ⟨false, rfl, fun h' => by cases h'⟩
/-! Awake. -/
theorem itoa_d {n : Int} (h0 : 0 ≤ n) (h : n < 10) : Lib.itoa n = [UInt8.ofNat (48 + n).toNat] := itoa_small h0 h
abbrev qc : Cmd := ⟨8, 0, 0, 0, 2, [1, 2], 5, [], 0⟩
theorem qc_words : wordsP qc = [[116, 114, 97, 100, 101], [50], [103, 105, 118, 101], [49], [50], [99, 111, 105, 110, 115], [53], [102, 111, 114], [99, 111, 105, 110, 115], [48]] := by
  show nameP 8 :: Lib.itoa 2 :: GIVE :: ([Lib.itoa 1, Lib.itoa 2] ++ (COINS :: Lib.itoa 5 :: FOR :: ([] ++ [COINS, Lib.itoa 0]))) = _
  rw [itoa_d (n := 2) (by decide) (by decide), itoa_d (n := 1) (by decide) (by decide), itoa_d (n := 5) (by decide) (by decide), itoa_d (n := 0) (by decide) (by decide)]
  rfl
theorem qc_may : MayC qc := by
  simp [MayC, FitH, RowH, FitC, RowC]
theorem kind_of_words {c : Cmd} {k : Int} {r : List Str} (h : MayC c) (hk : 1 ≤ k ∧ k ≤ 10) (e : wordsP c = nameP k :: r) : c.kind = k := by
  have h1 : nameP c.kind = nameP k := by
    have := congrArg List.head? e
    exact Option.some.inj this
  have h2 := kind_name h.1
  rw [h1, kind_name hk] at h2
  cases h2
  rfl
theorem getL_none {l : List Str} (h : ∀ c, MayC c → wordsP c = l → False) : getL l = (zeroC, 2) := by
  rcases getL_or l with e | ⟨c, hc, hw, _⟩
  · exact e
  · exact (h c hc hw).elim
theorem getL_nil : getL [] = (zeroC, 2) := getL_none fun c hc hw => by
  unfold wordsP at hw
  cases hw
theorem qawake_ok : qawakeF = some true := by
  have a1 : lputF qc = some ([116, 114, 97, 100, 101, 32, 50, 32, 103, 105, 118, 101, 32, 49, 32, 50, 32, 99, 111, 105, 110, 115, 32, 53, 32, 102, 111, 114, 32, 99, 111, 105, 110, 115, 32, 48], 0) := by
    rw [lput_eq qc (by decide) (by decide), may_t qc_may, if_pos rfl, qc_words]
    rfl
  have a2 : lgetF [32, 116, 114, 97, 100, 101, 32, 50, 32, 32, 103, 105, 118, 101, 32, 49, 32, 50, 32, 99, 111, 105, 110, 115, 32, 53, 32, 102, 111, 114, 32, 99, 111, 105, 110, 115, 32, 48, 32] = some (qc, 0) :=
    lget_of _ qc (by decide) qc_may (by rw [qc_words]; rfl)
  have a3 : lgetF [116, 114, 97, 100, 101, 32, 50, 32, 103, 105, 118, 101, 32, 49, 32, 50, 32, 99, 111, 105, 110, 115, 32, 53, 32, 102, 111, 114, 32, 99, 111, 105, 110, 115] = some (zeroC, 2) := by
    rw [lget_eq _ (by decide)]
    refine congrArg some (getL_none fun c hc hw => ?_)
    have e : wordsL [116, 114, 97, 100, 101, 32, 50, 32, 103, 105, 118, 101, 32, 49, 32, 50, 32, 99, 111, 105, 110, 115, 32, 53, 32, 102, 111, 114, 32, 99, 111, 105, 110, 115] = nameP 8 :: [[50], [103, 105, 118, 101], [49], [50], [99, 111, 105, 110, 115], [53], [102, 111, 114], COINS] := rfl
    rw [e] at hw
    have hk := kind_of_words hc (by decide) hw
    have hf : FitC c.fee := hc.2.2.2.2.2.2.2.1.1 hk
    have hl := congrArg List.getLast? hw
    unfold wordsP at hl
    rw [hk] at hl
    simp only [Int.reduceEq, if_true, if_false, reduceIte] at hl
    have h1 : (nameP 8 :: Lib.itoa c.who :: GIVE :: (numsP c.gives ++ COINS :: Lib.itoa c.pay :: FOR :: (numsP c.wants ++ [COINS, Lib.itoa c.fee]))) = (nameP 8 :: Lib.itoa c.who :: GIVE :: (numsP c.gives ++ COINS :: Lib.itoa c.pay :: FOR :: (numsP c.wants ++ [COINS]))) ++ [Lib.itoa c.fee] := by simp
    rw [h1, List.getLast?_append] at hl
    have h2 : Lib.itoa c.fee = COINS := by simpa using hl
    have h3 := coins_no
    rw [← h2, numL_itoa hf] at h3
    cases h3
  have a4 : lputF zeroC = some ([], 2) := by
    rw [lput_eq zeroC (by decide) (by decide), may_f (fun h => by have := h.1; revert this; decide)]
    rfl
  have a5 : lgetF [109, 111, 118, 101, 32, 119, 101, 115, 116] = some (⟨1, 3, 0, 0, 0, [], 0, [], 0⟩, 0) :=
    lget_of _ ⟨1, 3, 0, 0, 0, [], 0, [], 0⟩ (by decide) (by simp [MayC, FitH, RowH]) rfl
  have a6 : lgetF [109, 111, 118, 101, 32, 119, 101, 115, 116, 32, 119, 101, 115, 116] = some (zeroC, 2) := by
    rw [lget_eq _ (by decide)]
    refine congrArg some (getL_none fun c hc hw => ?_)
    have e : wordsL [109, 111, 118, 101, 32, 119, 101, 115, 116, 32, 119, 101, 115, 116] = nameP 1 :: [[119, 101, 115, 116], [119, 101, 115, 116]] := rfl
    rw [e] at hw
    have hk := kind_of_words hc (by decide) hw
    have hl := congrArg List.length hw
    unfold wordsP at hl
    rw [hk] at hl
    simp at hl
  have a7 : r3sameF qc qc = some true := r3same_refl qc (by decide) (by decide)
  unfold qawakeF
  rw [show lputF _ = _ from a1, obind_some, a2, obind_some, a3, obind_some, show lputF _ = _ from a4, obind_some, a5, obind_some, a6, obind_some]
  simp only
  rw [show r3sameF _ _ = _ from a7]
  rfl
/-! The laws. -/
theorem puts_law (c : Cmd) : linePutsF c = some true := by
  unfold linePutsF
  rw [qawake_ok, obind_some, cnd_f (b := bnot true) rfl]
  obtain ⟨b, hb, hf⟩ := few_cmd c
  rw [show r3fewF _ = _ from hb, obind_some]
  cases b with
  | false => rfl
  | true =>
    obtain ⟨f1, f2⟩ := hf rfl
    rw [cnd_f (b := bnot true) rfl, show lputF _ = _ from lput_eq c (by omega) (by omega), obind_some, show r4putF _ = _ from r4put_eq c (by omega) (by omega), obind_some, cnd_t (b := seq _ _) (decide_eq_true rfl), ieq_tt]
theorem linePuts_ok : ∀ xs : Lf [.st .cmd], (∀ m, wfA m _ xs) → linePutsF xs.1 = some true := fun xs _ => puts_law xs.1
theorem getL_rows (l : List Str) : (getL l).1.gives.length ≤ 16 ∧ (getL l).1.wants.length ≤ 16 := by
  rcases getL_or l with e | ⟨c, hc, _, e⟩
  · rw [e]; exact ⟨by decide, by decide⟩
  · rw [e]; exact may_rows hc
theorem gets_law (s : Str) : lineGetsF s = some true := by
  unfold lineGetsF
  rw [qawake_ok, obind_some, cnd_f (b := bnot true) rfl]
  by_cases hs : s.length ≤ 1000
  · rw [cnd_f (b := ilt 1000 (ilen s)) (decide_eq_false (by rw [ilen_eq]; omega)), lget_eq s (by omega), obind_some, r4get_eq s (by omega), obind_some]
    have hr := getL_rows (wordsL s)
    rw [show r3sameF _ _ = _ from r3same_refl (getL (wordsL s)).1 (by omega) (by omega), obind_some, cnd_t (b := true) rfl, ieq_tt]
  · rw [cnd_t (b := ilt 1000 (ilen s)) (decide_eq_true (by rw [ilen_eq]; omega))]
    rfl
theorem lineGets_ok : ∀ xs : Lf [.str], (∀ m, wfA m _ xs) → lineGetsF xs.1 = some true := fun xs _ => gets_law xs.1
theorem words_one {w : Str} (h : Plain w) : wordsL w = [w] := by
  have := words_join [w] (fun u hu => by simp at hu; subst hu; exact h)
  simpa [Lib.join] using this
open Classical in
theorem short_law (c : Cmd) (s : Str) (hs0 : s.length ≤ 140737488351232) : lineShortF c s = some true := by
  unfold lineShortF
  rw [qawake_ok, obind_some, cnd_f (b := bnot true) rfl]
  obtain ⟨b, hb, hf⟩ := few_cmd c
  rw [show r3fewF _ = _ from hb, obind_some]
  cases b with
  | false => rfl
  | true =>
    obtain ⟨f1, f2⟩ := hf rfl
    rw [cnd_f (b := bnot true) rfl, show r3mayF _ = _ from r3may_eq c (by omega) (by omega), obind_some]
    by_cases hm : MayC c
    · rw [may_t hm, cnd_f (b := bnot true) rfl]
      by_cases hs : s.length ≤ 100
      · rw [cnd_f (b := ilt 100 (ilen s)) (decide_eq_false (by rw [ilen_eq]; omega)), plain_eq s (by omega), obind_some]
        by_cases hp : Plain s
        · rw [decide_eq_true hp, cnd_f (b := bnot true) rfl, show lputF _ = _ from lput_eq c (by omega) (by omega), obind_some, may_t hm, if_pos rfl]
          simp only
          have hj := join_short hm
          have hwj := words_of_join hm
          obtain ⟨J, hJ⟩ : ∃ J, Lib.join (wordsP c) [32] = J := ⟨_, rfl⟩
          rw [hJ] at hj hwj ⊢
          rw [rcut_eq J (by omega), obind_some, hwj]
          obtain ⟨L, hL⟩ : ∃ L, wordsP c = L := ⟨_, rfl⟩
          have hcnt := words_cnt hm
          have hok := words_ok hm
          rw [hL] at hwj hcnt hok ⊢
          have hpos : 0 < L.length := by rw [← hL]; unfold wordsP; simp
          have hsub : wrap .i64 (isub (ilen L) 1) = ((L.length - 1 : Nat) : Int) := by
            rw [ilen_eq]
            show wrap .i64 ((L.length : Int) - 1) = _
            rw [wrap_in (by omega) (by omega)]
            omega
          rw [cnd_f (b := ieq (ilen L) 0) (decide_eq_false (by rw [ilen_eq]; omega)), hsub, cnd_t (b := ile 0 _) (decide_eq_true (by omega)), cnd_t (b := ile _ (ilen L)) (decide_eq_true (by rw [ilen_eq]; omega))]
          have htk : ltake L ((L.length - 1 : Nat) : Int) = L.take (L.length - 1) := rfl
          have htl : (L.take (L.length - 1)).length = L.length - 1 := by simp
          have htm : ∀ w ∈ L.take (L.length - 1), Plain w ∧ w.length ≤ 18 := fun w hw => hok w (List.mem_of_mem_take hw)
          have hjl := join_len 18 (L.take (L.length - 1)) (fun w hw => (htm w hw).2)
          have hjl2 : (L.take (L.length - 1)).length * (18 + 1) ≤ 40 * 19 := Nat.mul_le_mul_right _ (by omega)
          rw [htk, rjoinF_eq _ (by omega) (fun w hw => by have := (htm w hw).2; omega), obind_some, lget_eq _ (by omega), obind_some, words_join _ (fun w hw => (htm w hw).1)]
          rw [cnd_t (b := ilt (iadd (ilen J) 1) 4611686018427387904) (decide_eq_true (by rw [ilen_eq]; show (J.length : Int) + 1 < 4611686018427387904; omega)), cat_ok (x := lapp J [32]) (y := s) (by simp [lapp]; omega)]
          have hlen2 : (lapp (lapp J [32]) s).length ≤ 1000 := by simp [lapp]; omega
          rw [lget_eq _ (by omega), obind_some, show wordsL (lapp (lapp J [32]) s) = wordsL J ++ wordsL s from words_blank J s, hwj, words_one hp, lget_eq [32, 32, 32] (by decide), obind_some, show wordsL [32, 32, 32] = [] from rfl, getL_nil]
          have d1 : ∀ x, (getL (L.take (L.length - 1)) = (x, 0)) → x ≠ c := by
            intro x hx e
            rcases getL_or (L.take (L.length - 1)) with e1 | ⟨c1, h1, h2, e1⟩
            · rw [e1] at hx; cases hx
            · rw [e1] at hx
              cases hx
              subst e
              rw [hL] at h2
              have := congrArg List.length h2
              rw [htl] at this
              omega
          have d2 : ∀ x, (getL (L ++ [s]) = (x, 0)) → x ≠ c := by
            intro x hx e
            rcases getL_or (L ++ [s]) with e1 | ⟨c1, h1, h2, e1⟩
            · rw [e1] at hx; cases hx
            · rw [e1] at hx
              cases hx
              subst e
              rw [hL] at h2
              have := congrArg List.length h2
              simp at this
          have last : ∀ l : List Str, (∀ x, getL l = (x, 0) → x ≠ c) → (getL l = (zeroC, 2)) ∨ ∃ x, getL l = (x, 0) ∧ r3sameF x c = some false := by
            intro l hd
            rcases getL_or l with e1 | ⟨c1, h1, h2, e1⟩
            · exact .inl e1
            · have hr := may_rows h1
              refine .inr ⟨c1, e1, ?_⟩
              rw [r3same_eq c1 c (by omega) (by omega), decide_eq_false (hd c1 e1)]
          rcases last _ d1 with e1 | ⟨x1, e1, s1⟩ <;> rcases last _ d2 with e2 | ⟨x2, e2, s2⟩ <;> rw [e1, e2]
          · rfl
          · simp only
            rw [show r3sameF _ _ = _ from s2]
            rfl
          · simp only
            rw [show r3sameF _ _ = _ from s1]
            rfl
          · simp only
            rw [show r3sameF ⟨x1.kind, _, _, _, _, _, _, _, _⟩ _ = _ from s1, show r3sameF _ _ = _ from s2]
            rfl
        · rw [decide_eq_false hp]; rfl
      · rw [cnd_t (b := ilt 100 (ilen s)) (decide_eq_true (by rw [ilen_eq]; omega))]
        rfl
    · rw [may_f hm]; rfl
theorem lineShort_ok : ∀ xs : Lf [.st .cmd, .str], (∀ m, wfA m _ xs) → lineShortF xs.1 xs.2.1 = some true := by
  rintro ⟨c, s, _⟩ hw
  obtain ⟨_, hw⟩ := wfA_cons hw
  obtain ⟨hs, _⟩ := wfA_cons hw
  exact short_law c s (wf_str hs)
end Go.Sx
