/-
  Answers: the laws, the rest.
-/
import Derived.Test.YtcpildkbkjeijaaDoorRyTm
set_option linter.unusedVariables false
set_option linter.unusedSimpArgs false
namespace Go.Sx
open Go Go.Proofs
open Go.Lib (decDigits nDigits)
theorem u8_small {n : Int} (h : 0 ≤ n ∧ n ≤ 255) : wrap .u8 n = n := IntWalk.u8_in n h
theorem err_num {n : Int} (h : 0 ≤ n ∧ n ≤ 255) : ∃ e : Int, wrap .i64 (wrap .u8 (iadd 1 (irem n 13))) = e ∧ 1 ≤ e ∧ e ≤ 13 := by
  obtain ⟨u, rfl⟩ := Int.eq_ofNat_of_zero_le h.1
  have e1 : iadd 1 (irem ((u : Nat) : Int) 13) = ((1 + u % 13 : Nat) : Int) := rfl
  rw [e1]
  have hb : u % 13 < 13 := Nat.mod_lt _ (by decide)
  rw [u8_small ⟨by omega, by omega⟩, wrap_in (by omega) (by omega)]
  exact ⟨_, rfl, by omega, by omega⟩
theorem errors_law (r : Reply) (n m : Int) (hn : 0 ≤ n ∧ n ≤ 255) (hm : 0 ≤ m ∧ m ≤ 255) : replyErrorsF r n m = some true := by
  unfold replyErrorsF
  obtain ⟨a, ha, a1, a2⟩ := err_num hn
  obtain ⟨b, hb, b1, b2⟩ := err_num hm
  rw [ha, hb, pawake_ok, obind_some, cnd_f (b := bnot true) rfl]
  obtain ⟨q, hq, hf⟩ := few_r r
  rw [show r5fewF _ = _ from hq, obind_some]
  cases q with
  | false => rfl
  | true =>
    obtain ⟨f1, f2⟩ := hf rfl
    have ma := err_may ⟨a1, a2⟩
    have mb := err_may ⟨b1, b2⟩
    have hab : textR (errR a) = textR (errR b) ↔ a = b := ⟨fun h => congrArg Reply.err (text_inj ma mb h), fun h => by rw [h]⟩
    rw [cnd_f (b := bnot true) rfl, show rputF ⟨a, 0, 0, [], [], 0⟩ = _ from rput_may ma, obind_some, show rputF ⟨b, 0, 0, [], [], 0⟩ = _ from rput_may mb, obind_some, show rputF _ = _ from rput_eq r (by omega) (by omega), obind_some,
      cnd_f (b := bnot (ieq 0 0)) rfl, cnd_f (b := bnot (ieq 0 0)) rfl, cnd_f (by simp [hab])]
    by_cases hr : MayR r
    · rw [mayR_t hr, if_pos rfl, cnd_f (b := bnot (ieq 0 0)) rfl]
      have hra : textR r = textR (errR a) ↔ r.err = a := by
        constructor
        · intro h
          exact congrArg Reply.err (text_inj hr ma h)
        · intro h
          rw [hr.2.1 (by omega), h]
      simp [hra]
    · rw [mayR_f hr]
      rfl
theorem replyErrors_ok : ∀ xs : Lf [.st .reply, .int .u8, .int .u8], (∀ m, wfA m _ xs) → replyErrorsF xs.1 xs.2.1 xs.2.2.1 = some true := fun xs h =>
  errors_law xs.1 xs.2.1 xs.2.2.1 (wf_u8 (wfA_cons (wfA_cons h).2).1) (wf_u8 (wfA_cons (wfA_cons (wfA_cons h).2).2).1)
theorem items_app (a b : List Seen) : itemsW (a ++ b) = itemsW a ++ itemsW b := by simp [itemsW]
theorem less_law (r : Reply) (n : Int) (hn : 0 ≤ n ∧ n ≤ 4294967295) : replyLessF r n = some true := by
  unfold replyLessF
  rw [pawake_ok, obind_some, cnd_f (b := bnot true) rfl]
  obtain ⟨q, hq, hf⟩ := few_r r
  rw [show r5fewF _ = _ from hq, obind_some]
  cases q with
  | false => rfl
  | true =>
    obtain ⟨f1, f2⟩ := hf rfl
    rw [cnd_f (b := bnot true) rfl, show r5mayF _ = _ from r5may_eq r (by omega) (by omega), obind_some]
    by_cases hm : MayR r
    rotate_left
    · rw [mayR_f hm]
      rfl
    rw [mayR_t hm, cnd_f (b := bnot true) rfl]
    by_cases hk : r.kind = 9
    rotate_left
    · rw [cnd_t (by simp [hk])]
      rfl
    rw [cnd_f (by simp [hk])]
    by_cases he : r.err = 0
    rotate_left
    · rw [cnd_t (by simp [he])]
      rfl
    rw [cnd_f (by simp [he])]
    by_cases hb : 1073741824 < n
    · rw [cnd_t (decide_eq_true hb)]
      rfl
    rw [cnd_f (decide_eq_false hb)]
    have hl := may_lens hm
    obtain ⟨⟨e0, e1⟩, -, hM⟩ := hm
    have hm : MayR r := ⟨⟨e0, e1⟩, fun z => absurd he z, hM⟩
    obtain ⟨hk', hr, hc, hp, hi, hps, his, z1, z2, z3, z4⟩ := hM he
    have hw : wrap .i64 n = n := wrap_in (by omega) (by omega)
    have hsz : cnd (ilt (imul (iadd 0 (ilen r.players)) 8) 140737488355329) = (fun (A B : Option Bool) => A) := by
      funext A B
      exact lt_ok16 (by rw [ilen_eq]; show ((0 : Int) + r.players.length) * 8 < 1000000000000; omega)
    rw [show rputF _ = _ from rput_may hm, obind_some, hsz]
    simp only
    rw [lt8_len (l := r.players) (n := 1) (by omega), hw]
    have hL : (obind (rputF ⟨r.err, r.kind, r.room, r.players, ltake r.items (wrap .i64 (isub (ilen r.items) 1)), r.coins⟩) (fun x_5 => cnd (ieq x_5.2 0) (cnd (bnot (seq x_5.1 (textR r))) (some (ilt (ilen x_5.1) (ilen (textR r)))) (some false)) (some false))) = some true ∨ r.items = [] := by
      by_cases hne : r.items = []
      · exact .inr hne
      refine .inl ?_
      have hpos : 0 < r.items.length := List.length_pos_iff.2 hne
      have hw2 : wrap .i64 (isub (ilen r.items) 1) = (r.items.length : Int) - 1 := by
        rw [ilen_eq]
        exact wrap_in (n := (r.items.length : Int) - 1) (by omega) (by omega)
      have ht : ltake r.items ((r.items.length : Int) - 1) = r.items.dropLast := by
        rw [List.dropLast_eq_take]
        show r.items.take ((r.items.length : Int) - 1).toNat = _
        congr 1
        omega
      rw [hw2, ht]
      have hcat := List.dropLast_concat_getLast hne
      have hless : MayR ⟨r.err, r.kind, r.room, r.players, r.items.dropLast, r.coins⟩ := ⟨⟨e0, e1⟩, fun z => absurd he z, fun _ => ⟨hk', hr, hc, hp, by show r.items.dropLast.length ≤ 16; simp; omega, hps, fun s hs => his s ((List.dropLast_sublist _).subset hs), z1, z2, .inl (by show 9 ≤ r.kind; omega), z4⟩⟩
      have hx : textR r = textR ⟨r.err, r.kind, r.room, r.players, r.items.dropLast, r.coins⟩ ++ tailJ (itemsW [r.items.getLast hne]) := by
        unfold textR
        rw [words_9 he hk, words_9 (r := ⟨r.err, r.kind, r.room, r.players, r.items.dropLast, r.coins⟩) he hk, join_tail, join_tail]
        conv => lhs; rw [← hcat]
        rw [items_app]
        simp [tailJ, tailJ_app]
      have hlen : (textR ⟨r.err, r.kind, r.room, r.players, r.items.dropLast, r.coins⟩).length < (textR r).length := by
        rw [hx, List.length_append]
        have : 0 < (tailJ (itemsW [r.items.getLast hne])).length := by
          simp [itemsW, itemW, tailJ]
        omega
      rw [show rputF _ = _ from rput_may hless, obind_some]
      simp only
      rw [cnd_t (ieq_t rfl), cnd_t (by
        simp only [bnot, seq, Bool.not_eq_true', decide_eq_false_iff_not]
        intro h
        rw [h] at hlen
        omega), ilt, decide_eq_true (by rw [ilen_eq, ilen_eq]; omega)]
    have hW : r.items ≠ [] → (cnd (ile 0 (wrap .i64 (isub (ilen r.items) 1))) (cnd (ile (wrap .i64 (isub (ilen r.items) 1)) (ilen r.items))
        (obind (rputF ⟨r.err, r.kind, r.room, r.players, ltake r.items (wrap .i64 (isub (ilen r.items) 1)), r.coins⟩) (fun x_5 => cnd (ieq x_5.2 0) (cnd (bnot (seq x_5.1 (textR r))) (some (ilt (ilen x_5.1) (ilen (textR r)))) (some false)) (some false))) none) none) = some true := by
      intro hne
      have hpos : 0 < r.items.length := List.length_pos_iff.2 hne
      have hw2 : wrap .i64 (isub (ilen r.items) 1) = (r.items.length : Int) - 1 := by
        rw [ilen_eq]
        exact wrap_in (n := (r.items.length : Int) - 1) (by omega) (by omega)
      rw [cnd_t (by rw [hw2]; exact ile_t (by omega)), cnd_t (by rw [hw2, ilen_eq]; exact ile_t (by omega))]
      exact hL.resolve_right hne
    have hEnd : cnd (ieq (ilen r.items) 0) (some true) (cnd (ile 0 (wrap .i64 (isub (ilen r.items) 1))) (cnd (ile (wrap .i64 (isub (ilen r.items) 1)) (ilen r.items))
        (obind (rputF ⟨r.err, r.kind, r.room, r.players, ltake r.items (wrap .i64 (isub (ilen r.items) 1)), r.coins⟩) (fun x_5 => cnd (ieq x_5.2 0) (cnd (bnot (seq x_5.1 (textR r))) (some (ilt (ilen x_5.1) (ilen (textR r)))) (some false)) (some false))) none) none) = some true := by
      by_cases hne : r.items = []
      · rw [cnd_t (by rw [hne]; rfl)]
      · rw [cnd_f (ieq_f (by rw [ilen_eq]; have := List.length_pos_iff.2 hne; omega))]
        exact hW hne
    have hpl : ∀ x ∈ r.players ++ [n], FitC x := fun x hx => by
      rcases List.mem_append.1 hx with h | h
      · exact hps x h
      · simp at h
        subst h
        exact ⟨by omega, by omega⟩
    by_cases h16 : r.players.length < 16
    · have hmore : MayR ⟨r.err, r.kind, r.room, lapp r.players [n], r.items, r.coins⟩ := ⟨⟨e0, e1⟩, fun z => absurd he z, fun _ => ⟨hk', hr, hc, by show (r.players ++ [n]).length ≤ 16; simp; omega, hi, hpl, his, z1, .inl hk, z3, z4⟩⟩
      rw [show rputF ⟨r.err, r.kind, r.room, lapp r.players [n], r.items, r.coins⟩ = _ from rput_may hmore, obind_some, cnd_f (b := bnot (beq' _ _)) (by
        rw [show ilt (ilen r.players) 16 = true from decide_eq_true (by rw [ilen_eq]; omega)]
        rfl), cnd_t (ieq_t rfl), cnd_f (b := seq _ _) (decide_eq_false (fun h => by
          have := congrArg (fun q => q.players.length) (text_inj hmore hm h)
          simp at this))]
      exact hEnd
    · have hno : ¬ MayR ⟨r.err, r.kind, r.room, lapp r.players [n], r.items, r.coins⟩ := fun h => by
        have := (may_lens h).1
        simp at this
        omega
      rw [show rputF ⟨r.err, r.kind, r.room, lapp r.players [n], r.items, r.coins⟩ = _ from rput_no hno (by simp; omega) (by simp only; omega), obind_some, cnd_f (b := bnot (beq' _ _)) (by
        rw [show ilt (ilen r.players) 16 = false from decide_eq_false (by rw [ilen_eq]; omega)]
        rfl), cnd_f (ieq_f (by decide))]
      exact hEnd
theorem replyLess_ok : ∀ xs : Lf [.st .reply, .int .u32], (∀ m, wfA m _ xs) → replyLessF xs.1 xs.2.1 = some true := fun xs h =>
  less_law xs.1 xs.2.1 (wf_u32 (wfA_cons (wfA_cons h).2).1)
end Go.Sx
