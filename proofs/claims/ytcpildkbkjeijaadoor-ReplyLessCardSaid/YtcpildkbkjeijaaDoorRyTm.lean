/-
  Answers: the laws.
-/
import Derived.Test.YtcpildkbkjeijaaDoorRyTl
import Derived.Test.YtcpildkbkjeijaaDoorRyU
set_option linter.unusedVariables false
set_option linter.unusedSimpArgs false
namespace Go.Sx
open Go Go.Proofs
open Go.Lib (decDigits nDigits)
theorem may_lens {r : Reply} (h : MayR r) : r.players.length ≤ 16 ∧ r.items.length ≤ 16 := by
  by_cases he : r.err = 0
  · exact ⟨(h.2.2 he).2.2.2.1, (h.2.2 he).2.2.2.2.1⟩
  · rw [h.2.1 he]; exact ⟨by simp, by simp⟩
theorem rput_may {r : Reply} (h : MayR r) : rputF r = some (textR r, 0) := by
  have := may_lens h
  rw [rput_eq r (by omega) (by omega), if_pos (mayR_t h)]
theorem rput_no {r : Reply} (h : ¬ MayR r) (hp : r.players.length ≤ 1000000000) (hi : r.items.length ≤ 1000000000) : rputF r = some ([], 2) := by
  rw [rput_eq r hp hi, mayR_f h]
  rfl
theorem no_zero : ¬ MayR zeroR := fun h => by
  have := (h.2.2 rfl).1.1
  revert this
  decide
/-! Awake. -/
abbrev pr : Reply := ⟨0, 9, 1, [0, 2], [⟨5, ⟨0, 1⟩⟩, ⟨6, ⟨2, 5⟩⟩], 0⟩
abbrev prT : Str := [108, 111, 111, 107, 32, 49, 32, 112, 108, 97, 121, 101, 114, 115, 32, 48, 32, 50, 32, 105, 116, 101, 109, 115, 32, 53, 32, 105, 110, 32, 49, 32, 54, 32, 98, 111, 120, 32, 53]
theorem pr_may : MayR pr := by
  simp [MayR, FitC, SeenOK]
theorem itoa_d {n : Int} (h0 : 0 ≤ n) (h : n < 10) : Lib.itoa n = [UInt8.ofNat (48 + n).toNat] := itoa_small h0 h
theorem pr_text : textR pr = prT := by
  have e : wordsR pr = [[108, 111, 111, 107], Lib.itoa 1, PLAY, Lib.itoa 0, Lib.itoa 2, ITEMS, Lib.itoa 5, [105, 110], Lib.itoa 1, Lib.itoa 6, [98, 111, 120], Lib.itoa 5] := by
    have h1 : nameP 9 = [108, 111, 111, 107] := rfl
    have h2 : placeW 0 = [105, 110] := rfl
    have h3 : placeW 2 = [98, 111, 120] := rfl
    simp only [wordsR, numsP, itemsW, itemW, List.map_cons, List.map_nil, List.flatten_cons, List.flatten_nil, List.cons_append, List.nil_append, List.append_nil, h1, h2, h3, ne_eq, not_true_eq_false, if_false, Int.reduceEq, or_self, if_true, reduceIte]
  unfold textR
  rw [e, itoa_d (n := 1) (by decide) (by decide), itoa_d (n := 0) (by decide) (by decide), itoa_d (n := 2) (by decide) (by decide), itoa_d (n := 5) (by decide) (by decide), itoa_d (n := 6) (by decide) (by decide)]
  rfl
theorem err_may {e : Int} (h : 1 ≤ e ∧ e ≤ 13) : MayR (errR e) := ⟨⟨by show (0 : Int) ≤ e; omega, h.2⟩, fun _ => rfl, fun z => by
  have : e = 0 := z
  omega⟩
theorem pawake_ok : pawakeF = some true := by
  have a1 : rputF pr = some (prT, 0) := by rw [rput_may pr_may, pr_text]
  have a2 : rgetF prT = some (pr, 0) := by rw [← pr_text]; exact rget_text pr_may
  have a3 : rgetF (lapp prT [32]) = some (zeroR, 2) := by
    rcases rget_or (lapp prT [32]) (by decide) with h | ⟨r, h1, h2, h3⟩
    · exact h
    · exfalso
      have w1 := words_text h1
      have w2 := words_text pr_may
      rw [h2] at w1
      rw [pr_text] at w2
      have w3 : wordsL (lapp prT [32]) = wordsL prT := rfl
      rw [w3, w2] at w1
      have e : textR r = textR pr := by unfold textR; rw [w1]
      rw [h2, pr_text] at e
      exact absurd (congrArg List.length e) (by decide)
  have a4 : rputF ⟨0, 3, 1, [], [], 0⟩ = some ([], 2) := rput_no (fun h => by
    have := (h.2.2 rfl).2.2.2.2.2.2.2.1
    revert this
    decide) (by simp) (by simp)
  have a5 : rputF (errR 9) = some ([101, 114, 114, 111, 114, 32, 57], 0) := by
    rw [rput_may (err_may (by decide))]
    unfold textR
    rw [words_err (by decide)]
    show some (Lib.join [ERR, Lib.itoa 9] [32], (0 : Int)) = _
    rw [itoa_d (n := 9) (by decide) (by decide)]
    rfl
  have a6 : rmayF pr = some true := by rw [rmay_eq pr (by decide) (by decide), mayR_t pr_may]
  have a7 : rmayF zeroR = some false := by rw [rmay_eq zeroR (by decide) (by decide), mayR_f no_zero]
  have a8 : rsameF pr pr = some true := by rw [rsame_eq pr pr (by decide) (by decide), decide_eq_true rfl]
  have a9 : rsameF pr zeroR = some false := by
    rw [rsame_eq pr zeroR (by decide) (by decide), decide_eq_false]
    intro e
    exact absurd (congrArg Reply.kind e) (by decide)
  unfold pawakeF
  rw [show rputF ⟨0, 9, 1, [0, 2], [⟨5, ⟨0, 1⟩⟩, ⟨6, ⟨2, 5⟩⟩], 0⟩ = _ from a1, obind_some, a2, obind_some]
  simp only
  rw [cl1 ⟨by decide, by decide⟩, show rgetF (lapp prT [32]) = _ from a3, obind_some, a4, obind_some, show rputF ⟨9, 0, 0, [], [], 0⟩ = _ from a5, obind_some]
  simp only
  rw [cnd_t (decide_eq_true rfl), cnd_t (ieq_t rfl), cnd_t (ieq_t rfl), show rsameF _ _ = _ from a8, obind_some, cnd_t (b := true) rfl, cnd_t (ieq_t rfl), cnd_t (ieq_t rfl), cnd_t (decide_eq_true rfl), cnd_t (ieq_t rfl),
    show rmayF _ = _ from a6, obind_some, cnd_t (b := true) rfl, show rmayF _ = _ from a7, obind_some, cnd_t (b := bnot false) rfl, show rsameF _ _ = _ from a9, obind_some]
  rfl
/-! The laws. -/
theorem few_r (c : Reply) : ∃ b, r5fewF c = some b ∧ (b = true → c.players.length ≤ 40 ∧ c.items.length ≤ 40) := by
  unfold r5fewF
  by_cases h : c.players.length ≤ 40
  · rw [cnd_t (b := ile (ilen c.players) 40) (decide_eq_true (by rw [ilen_eq]; omega))]
    refine ⟨_, rfl, fun h' => ⟨h, ?_⟩⟩
    have := of_decide_eq_true h'
    rw [ilen_eq] at this
    omega
  · rw [cnd_f (b := ile (ilen c.players) 40) (decide_eq_false (by rw [ilen_eq]; omega))]
    exact ⟨false, rfl, fun h' => by cases h'⟩
theorem beq_self (b : Bool) : beq' b b = true := by cases b <;> rfl
theorem puts_law (a b : Reply) : replyPutsF a b = some true := by
  unfold replyPutsF
  rw [pawake_ok, obind_some, cnd_f (b := bnot true) rfl]
  obtain ⟨q, hq, hf⟩ := few_r a
  rw [show r5fewF _ = _ from hq, obind_some]
  cases q with
  | false => rfl
  | true =>
    obtain ⟨f1, f2⟩ := hf rfl
    rw [cnd_f (b := bnot true) rfl]
    obtain ⟨q, hq, hf⟩ := few_r b
    rw [show r5fewF _ = _ from hq, obind_some]
    cases q with
    | false => rfl
    | true =>
      rw [cnd_f (b := bnot true) rfl, show rputF _ = _ from rput_eq a (by omega) (by omega), obind_some, show r5putF _ = _ from r5put_eq a (by omega) (by omega), obind_some,
        show rmayF _ = _ from rmay_eq a (by omega) (by omega), obind_some, show r5mayF _ = _ from r5may_eq a (by omega) (by omega), obind_some, cnd_t (beq_self _),
        show rsameF _ _ = _ from rsame_eq a b (by omega) (by omega), obind_some, show r5sameF _ _ = _ from r5same_eq a b (by omega) (by omega), obind_some, cnd_t (beq_self _), cnd_t (decide_eq_true rfl), ieq_t rfl]
theorem replyPuts_ok : ∀ xs : Lf [.st .reply, .st .reply], (∀ m, wfA m _ xs) → replyPutsF xs.1 xs.2.1 = some true := fun xs _ => puts_law xs.1 xs.2.1
theorem gets_law (s : Str) : replyGetsF s = some true := by
  unfold replyGetsF
  rw [pawake_ok, obind_some, cnd_f (b := bnot true) rfl]
  by_cases hs : s.length ≤ 1000
  · rw [cnd_f (b := ilt 1000 (ilen s)) (decide_eq_false (by rw [ilen_eq]; omega)), gets_same s (by omega)]
    rcases rget_or s (by omega) with h | ⟨r, h1, h2, h3⟩
    · rw [h, obind_some, obind_some, show r5sameF _ _ = _ from r5same_eq zeroR zeroR (by decide) (by decide), obind_some, cnd_t (decide_eq_true rfl), ieq_t rfl]
    · have := may_lens h1
      rw [h3, obind_some, obind_some, show r5sameF _ _ = _ from r5same_eq r r (by omega) (by omega), obind_some, cnd_t (decide_eq_true rfl), ieq_t rfl]
  · rw [cnd_t (b := ilt 1000 (ilen s)) (decide_eq_true (by rw [ilen_eq]; omega))]
    rfl
theorem replyGets_ok : ∀ xs : Lf [.str], (∀ m, wfA m _ xs) → replyGetsF xs.1 = some true := fun xs _ => gets_law xs.1
theorem back_K (s : Str) (hs : s.length ≤ 1000) : (obind (rgetF s) (fun x_8 =>
    obind (rputF (⟨x_8.1.err, x_8.1.kind, x_8.1.room, x_8.1.players, x_8.1.items, x_8.1.coins⟩)) (fun x_9 =>
      cnd (bnot (ieq x_8.2 0)) (
        obind (r5sameF (⟨x_8.1.err, x_8.1.kind, x_8.1.room, x_8.1.players, x_8.1.items, x_8.1.coins⟩) (⟨0, 0, 0, ([] : List Int), [], 0⟩)) (fun x_10 =>
          cnd x_10 (some true) (cnd (ieq x_8.2 0) (cnd (ieq x_9.2 0) (some (seq x_9.1 s)) (some false)) (some false)))) (
        cnd (ieq x_8.2 0) (cnd (ieq x_9.2 0) (some (seq x_9.1 s)) (some false)) (some false))))) = some true := by
  rcases rget_or s (by omega) with h | ⟨r, h1, h2, h3⟩
  · rw [h, obind_some, show rputF _ = _ from rput_no no_zero (by decide) (by decide), obind_some, cnd_t (b := bnot (ieq 2 0)) rfl, show r5sameF _ _ = _ from r5same_eq zeroR zeroR (by decide) (by decide), obind_some, cnd_t (decide_eq_true rfl)]
  · rw [h3, obind_some, show rputF _ = _ from rput_may h1, obind_some, cnd_f (b := bnot (ieq 0 0)) rfl, cnd_t (ieq_t rfl), cnd_t (ieq_t rfl), h2, seq, decide_eq_true rfl]
theorem back_law (a b : Reply) (s : Str) : replyBackF a b s = some true := by
  unfold replyBackF
  rw [pawake_ok, obind_some, cnd_f (b := bnot true) rfl]
  obtain ⟨q, hq, hf⟩ := few_r a
  rw [show r5fewF _ = _ from hq, obind_some]
  cases q with
  | false => rfl
  | true =>
    obtain ⟨f1, f2⟩ := hf rfl
    rw [cnd_f (b := bnot true) rfl]
    obtain ⟨q, hq, hf⟩ := few_r b
    rw [show r5fewF _ = _ from hq, obind_some]
    cases q with
    | false => rfl
    | true =>
      obtain ⟨g1, g2⟩ := hf rfl
      rw [cnd_f (b := bnot true) rfl]
      by_cases hs : s.length ≤ 1000
      · rw [cnd_f (b := ilt 1000 (ilen s)) (decide_eq_false (by rw [ilen_eq]; omega))]
        by_cases ha : MayR a
        · rw [show rputF _ = _ from rput_may ha, obind_some]
          by_cases hb : MayR b
          · rw [show rputF _ = _ from rput_may hb, obind_some, cnd_t (ieq_t rfl), rget_text ha, obind_some, cnd_f (b := bnot (ieq 0 0)) rfl, show rsameF _ _ = _ from rsame_eq a a (by omega) (by omega), obind_some, cnd_f (by simp), cnd_t (ieq_t rfl),
              show r5sameF _ _ = _ from r5same_eq a b (by omega) (by omega), obind_some, cnd_f (by
                by_cases e : a = b
                · subst e; simp
                · have : textR a ≠ textR b := fun h => e (text_inj ha hb h)
                  simp [e, this])]
            exact back_K s hs
          · rw [show rputF _ = _ from rput_no hb (by omega) (by omega), obind_some, cnd_t (ieq_t rfl), rget_text ha, obind_some, cnd_f (b := bnot (ieq 0 0)) rfl, show rsameF _ _ = _ from rsame_eq a a (by omega) (by omega), obind_some, cnd_f (by simp), cnd_f (ieq_f (by decide))]
            exact back_K s hs
        · rw [show rputF _ = _ from rput_no ha (by omega) (by omega), obind_some]
          rw [show rputF _ = _ from rput_eq b (by omega) (by omega), obind_some, cnd_f (ieq_f (by decide))]
          exact back_K s hs
      · rw [cnd_t (b := ilt 1000 (ilen s)) (decide_eq_true (by rw [ilen_eq]; omega))]
        rfl
theorem replyBack_ok : ∀ xs : Lf [.st .reply, .st .reply, .str], (∀ m, wfA m _ xs) → replyBackF xs.1 xs.2.1 xs.2.2.1 = some true := fun xs _ => back_law xs.1 xs.2.1 xs.2.2.1
end Go.Sx
