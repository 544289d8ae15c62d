/-
  Words: the plain law of digits.
-/
import Derived.Test.YtklnhbaicfmohaaDoorSxTs
set_option linter.unusedVariables false
set_option linter.unusedSimpArgs false
namespace Go.Sx
open Go Go.Proofs
open Go.Lib (decDigits nDigits)
def allDig (s : Str) : Prop := ∀ c ∈ s, 48 ≤ c.toNat ∧ c.toNat ≤ 57
theorem digits_canon (s : Str) (hd : allDig s) (h0 : s ≠ []) (h1 : s.head? ≠ some 48 ∨ s.length = 1) : ∃ v, decDigits v = s := by
  suffices H : ∀ r : Str, allDig r.reverse → r ≠ [] → (r.reverse.head? ≠ some 48 ∨ r.length = 1) → ∃ v, decDigits v = r.reverse by
    have := H s.reverse (by simpa using hd) (by simpa using h0) (by simpa using h1)
    simpa using this
  intro r
  induction r with
  | nil => intro _ h; exact absurd rfl h
  | cons c t ih =>
    intro hd _ h1
    have hc := hd c (by simp)
    by_cases ht : t = []
    · subst ht
      refine ⟨c.toNat - 48, ?_⟩
      rw [dig_big, if_pos (by omega), u8_dig c hc.1 hc.2]
      rfl
    · obtain ⟨q, w, e⟩ : ∃ q w, t.reverse = q :: w := by
        cases hq : t.reverse with
        | nil => exact absurd (by simpa using hq) ht
        | cons q w => exact ⟨q, w, rfl⟩
      have hq : q ≠ 48 := by
        rcases h1 with h1 | h1
        · simp only [List.reverse_cons, e, List.cons_append, List.head?_cons, ne_eq, Option.some.injEq] at h1
          exact h1
        · simp at h1
          exact absurd h1 ht
      obtain ⟨v, hv⟩ := ih (fun x hx => hd x (by rw [List.reverse_cons]; exact List.mem_append_left _ hx)) ht (.inl (by rw [e]; simpa using hq))
      have hv0 : 0 < v := by
        rcases Nat.eq_zero_or_pos v with h | h
        · subst h
          rw [e, dig_big 0] at hv
          exact absurd (List.cons.inj hv).1.symm hq
        · exact h
      refine ⟨10 * v + (c.toNat - 48), ?_⟩
      rw [dig_step v _ hv0 (by omega), u8_dig c hc.1 hc.2, hv, List.reverse_cons]
theorem number_bad (a b : Str) (c : UInt8) (hl : (a ++ [c] ++ b).length ≤ 1000000) (hc : ¬ (48 ≤ c.toNat ∧ c.toNat ≤ 57)) : numberF (a ++ [c] ++ b) = some (0, false) := by
  rw [number_spec _ hl]
  unfold numL
  rw [canon_no (fun v e => hc (dig_mem v c (by rw [e]; simp)))]
theorem lt_okd {α : Type} {n : Int} {A B : α} (h : n < 1000000000000) : cnd (ilt n 4611686018427387904) A B = A := cnd_t (decide_eq_true (by omega))
theorem tail_ok (s : Str) (c p : Int) (hs : s.length ≤ 9) (h0 : 0 < s.length) (c0 : 0 ≤ c) (c1 : c ≤ 255) (p0 : 0 ≤ p) (p1 : p ≤ 255) : (cnd (ile 48 c) (cnd (ile c 57) (some true) (cnd (ieq (wrap .i64 (iadd (ilen s) 1)) 0) none (cnd (ile 0 (irem (wrap .i64 p) (wrap .i64 (iadd (ilen s) 1)))) (cnd (ile (irem (wrap .i64 p) (wrap .i64 (iadd (ilen s) 1))) (ilen s)) (cnd (allU8 (([c] : List Int))) (cnd (ilt (iadd (ilen (ltake s (irem (wrap .i64 p) (wrap .i64 (iadd (ilen s) 1))))) (ilen (ofU8s (([c] : List Int))))) 4611686018427387904) (cnd (ile 0 (irem (wrap .i64 p) (wrap .i64 (iadd (ilen s) 1)))) (cnd (ile (irem (wrap .i64 p) (wrap .i64 (iadd (ilen s) 1))) (ilen s)) (cnd (ilt (iadd (ilen (lapp (ltake s (irem (wrap .i64 p) (wrap .i64 (iadd (ilen s) 1)))) (ofU8s (([c] : List Int))))) (ilen (ldrop s (irem (wrap .i64 p) (wrap .i64 (iadd (ilen s) 1)))))) 4611686018427387904) (obind (numberF (lapp (lapp (ltake s (irem (wrap .i64 p) (wrap .i64 (iadd (ilen s) 1)))) (ofU8s (([c] : List Int)))) (ldrop s (irem (wrap .i64 p) (wrap .i64 (iadd (ilen s) 1)))))) (fun x_4 => some (bnot x_4.2))) none) none) none) none) none) none) none))) (cnd (ieq (wrap .i64 (iadd (ilen s) 1)) 0) none (cnd (ile 0 (irem (wrap .i64 p) (wrap .i64 (iadd (ilen s) 1)))) (cnd (ile (irem (wrap .i64 p) (wrap .i64 (iadd (ilen s) 1))) (ilen s)) (cnd (allU8 (([c] : List Int))) (cnd (ilt (iadd (ilen (ltake s (irem (wrap .i64 p) (wrap .i64 (iadd (ilen s) 1))))) (ilen (ofU8s (([c] : List Int))))) 4611686018427387904) (cnd (ile 0 (irem (wrap .i64 p) (wrap .i64 (iadd (ilen s) 1)))) (cnd (ile (irem (wrap .i64 p) (wrap .i64 (iadd (ilen s) 1))) (ilen s)) (cnd (ilt (iadd (ilen (lapp (ltake s (irem (wrap .i64 p) (wrap .i64 (iadd (ilen s) 1)))) (ofU8s (([c] : List Int))))) (ilen (ldrop s (irem (wrap .i64 p) (wrap .i64 (iadd (ilen s) 1)))))) 4611686018427387904) (obind (numberF (lapp (lapp (ltake s (irem (wrap .i64 p) (wrap .i64 (iadd (ilen s) 1)))) (ofU8s (([c] : List Int)))) (ldrop s (irem (wrap .i64 p) (wrap .i64 (iadd (ilen s) 1)))))) (fun x_4 => some (bnot x_4.2))) none) none) none) none) none) none) none))) = some true := by
  by_cases a : 48 ≤ c ∧ c ≤ 57
  · rw [cnd_t (b := ile 48 c) (decide_eq_true a.1), cnd_t (b := ile c 57) (decide_eq_true a.2)]
  · obtain ⟨q, rfl⟩ := Int.eq_ofNat_of_zero_le p0
    obtain ⟨d, rfl⟩ := Int.eq_ofNat_of_zero_le c0
    have w1 : wrap .i64 (q : Int) = (q : Int) := wrap_in (by omega) (by omega)
    have w2 : wrap .i64 (iadd (ilen s) 1) = ((s.length + 1 : Nat) : Int) := by
      rw [ilen_eq]
      exact wrap_in (n := (s.length : Int) + 1) (by omega) (by omega)
    rw [w1, w2, irem_nat]
    obtain ⟨k, hk⟩ : ∃ k, q % (s.length + 1) = k := ⟨_, rfl⟩
    have hk1 : k ≤ s.length := by
      have := Nat.mod_lt q (show 0 < s.length + 1 by omega)
      omega
    rw [hk]
    have l1 : ilen (ltake s (k : Int)) = (k : Int) := by
      rw [ilen_eq]
      show ((s.take (k : Int).toNat).length : Int) = _
      rw [Int.toNat_natCast, List.length_take]
      omega
    have l2 : ilen (ofU8s [(d : Int)]) = 1 := rfl
    have l3 : ilen (ldrop s (k : Int)) = ((s.length - k : Nat) : Int) := by
      rw [ilen_eq]
      show ((s.drop (k : Int).toNat).length : Int) = _
      rw [Int.toNat_natCast, List.length_drop]
    have l4 : ilen (lapp (ltake s (k : Int)) (ofU8s [(d : Int)])) = ((k + 1 : Nat) : Int) := by
      rw [ilen_eq]
      show ((s.take (k : Int).toNat ++ [_]).length : Int) = _
      rw [Int.toNat_natCast, List.length_append, List.length_take]
      simp
      omega
    rw [l1, l2, l3, l4]
    have k1 : ¬ ((s.length + 1 : Nat) : Int) = 0 := by omega
    have q1 : iadd (k : Int) 1 < 1000000000000 := by show (k : Int) + 1 < 1000000000000; omega
    have q2 : iadd ((k + 1 : Nat) : Int) ((s.length - k : Nat) : Int) < 1000000000000 := by show ((k + 1 : Nat) : Int) + ((s.length - k : Nat) : Int) < 1000000000000; omega
    have ha : allU8 [(d : Int)] = true := by simp; omega
    have hn := number_bad (s.take k) (s.drop k) (UInt8.ofNat d) (by simp; omega) (by
      have : (UInt8.ofNat d).toNat = d := by simp; omega
      rw [this]
      omega)
    have hn' : numberF (lapp (lapp (ltake s (k : Int)) (ofU8s [(d : Int)])) (ldrop s (k : Int))) = some (0, false) := hn
    rw [hn', cnd_f (b := ieq ((s.length + 1 : Nat) : Int) 0) (decide_eq_false k1), cnd_t (b := ile 0 (k : Int)) (decide_eq_true (by omega)), cnd_t (b := ile (k : Int) (ilen s)) (decide_eq_true (by rw [ilen_eq]; omega)),
      cnd_t ha, lt_okd q1, cnd_t (b := ile 0 (k : Int)) (decide_eq_true (by omega)), cnd_t (b := ile (k : Int) (ilen s)) (decide_eq_true (by rw [ilen_eq]; omega)), lt_okd q2, obind_some]
    by_cases a1 : 48 ≤ d
    · rw [cnd_t (b := ile 48 (d : Int)) (decide_eq_true (by omega)), cnd_f (b := ile (d : Int) 57) (decide_eq_false (by omega))]
      rfl
    · rw [cnd_f (b := ile 48 (d : Int)) (decide_eq_false (by omega))]
      rfl
open Classical in
theorem digits_loop (s : Str) (c p : Int) (hs : s.length ≤ 1000) : iter tokenDigits.l8r4.T bigL (((s, (c, (p, (0, ())))), ())) = if allDig s then some (.inr ((s, (c, (p, ()))), ())) else some (.inl ((true, ()), ())) := by
  rw [iter_big (fun x => (x.1.1.length - x.1.2.2.2.1).toNat) (fun x => (0 : Int) ≤ x.1.2.2.2.1 ∧ x.1.1.length ≤ 1000)
    (fun x => if allDig (x.1.1.drop (x.1.2.2.2.1 : Int).toNat) then some (.inr ((x.1.1, (x.1.2.1, (x.1.2.2.1, ()))), ())) else some (.inl ((true, ()), ()))) ?_ ⟨Int.le_refl _, hs⟩ (by simp; omega)]
  · simp
  · rintro ⟨⟨m, c, p, i, _⟩, _⟩ rec ⟨h0, h1⟩ hr
    simp only at h0 h1 ⊢
    unfold tokenDigits.l8r4.T
    obtain ⟨j, rfl⟩ := Int.eq_ofNat_of_zero_le h0
    by_cases hi : j < m.length
    · simp only [lget_in h0 (show (j : Int) < m.length by omega), Int.toNat_natCast, obind, Option.bind_some]
      have hu : u8i m[j] = (m[j].toNat : Int) := rfl
      have hw : wrap .i64 (iadd (j : Int) 1) = ((j + 1 : Nat) : Int) := wrap_in (n := (j : Int) + 1) (by omega) (by omega)
      have hn := hr ((m, c, p, ((j + 1 : Nat) : Int), ()), ()) ⟨by show (0 : Int) ≤ ((j + 1 : Nat) : Int); omega, h1⟩ (by simp; omega)
      simp only [Int.toNat_natCast] at hn
      rw [hu, hw, hn, cnd_t (b := ilt (j : Int) (ilen m)) (decide_eq_true (by rw [ilen_eq]; omega))]
      have hcons : allDig (m.drop j) ↔ (48 ≤ m[j].toNat ∧ m[j].toNat ≤ 57) ∧ allDig (m.drop (j + 1)) := by rw [List.drop_eq_getElem_cons hi]; unfold allDig; rw [List.forall_mem_cons]
      by_cases c0 : m[j].toNat < 48
      · rw [cnd_t (b := ilt (m[j].toNat : Int) 48) (decide_eq_true (by omega)), if_neg (fun h => by have := (hcons.1 h).1; omega)]
      · rw [cnd_f (b := ilt (m[j].toNat : Int) 48) (decide_eq_false (by omega))]
        by_cases c1 : 57 < m[j].toNat
        · rw [cnd_t (b := ilt 57 (m[j].toNat : Int)) (decide_eq_true (by omega)), if_neg (fun h => by have := (hcons.1 h).1; omega)]
        · rw [cnd_f (b := ilt 57 (m[j].toNat : Int)) (decide_eq_false (by omega))]
          by_cases r : allDig (m.drop (j + 1))
          · rw [if_pos r, if_pos (hcons.2 ⟨by omega, r⟩)]
          · rw [if_neg r, if_neg (fun h => r (hcons.1 h).2)]
    · rw [cnd_f (b := ilt (j : Int) (ilen m)) (decide_eq_false (by rw [ilen_eq]; omega)), if_pos (by intro c hc; rw [Int.toNat_natCast, List.drop_eq_nil_of_le (by omega)] at hc; cases hc)]
theorem digits_law (s : Str) (c p : Int) (c0 : 0 ≤ c) (c1 : c ≤ 255) (p0 : 0 ≤ p) (p1 : p ≤ 255) : tokenDigitsF s c p = some true := by
  unfold tokenDigitsF
  rw [tawake_ok, obind_some, cnd_f (b := bnot true) rfl]
  by_cases h0 : s.length = 0
  · rw [cnd_t (b := ieq (ilen s) 0) (decide_eq_true (by rw [ilen_eq]; omega))]
    rfl
  · rw [cnd_f (b := ieq (ilen s) 0) (decide_eq_false (by rw [ilen_eq]; omega))]
    by_cases h9 : 9 < s.length
    · rw [cnd_t (b := ilt 9 (ilen s)) (decide_eq_true (by rw [ilen_eq]; omega))]
      rfl
    · rw [cnd_f (b := ilt 9 (ilen s)) (decide_eq_false (by rw [ilen_eq]; omega)), digits_loop s c p (by omega)]
      by_cases hd : allDig s
      · rw [if_pos hd, obind_some]
        have ht := tail_ok s c p (by omega) (by omega) c0 c1 p0 p1
        have hg : lget s 0 = some (s[0]'(by omega)) := lget_in (Int.le_refl _) (by omega)
        show obind (numberF s) _ = _
        rw [number_spec s (by omega), obind_some]
        show obind (lget s 0) _ = _
        rw [hg, obind_some]
        have hu : u8i (s[0]'(by omega)) = ((s[0]'(by omega)).toNat : Int) := rfl
        rw [hu]
        have good : (s.head? ≠ some 48 ∨ s.length = 1) → ∃ v : Nat, numL s = ((v : Int), true) ∧ wordF (v : Int) = some s := fun h => by
          obtain ⟨v, hv⟩ := digits_canon s hd (fun e => h0 (by rw [e]; rfl)) h
          have hb : v < 10 ^ 9 := dig_len10 v 9 (by rw [hv]; omega)
          have hb' : v < 1000000000 := by simpa using hb
          refine ⟨v, ?_, ?_⟩
          · rw [← hv, numL_dig v (by omega)]
          · rw [word_nat v (by omega), hv]
        have fin : ∀ v : Nat, wordF (v : Int) = some s → (obind (wordF (v : Int)) fun x_4 => cnd (bnot (seq x_4 s)) (some false) (some true)) = some true := fun v hv => by
          rw [hv, obind_some]
          rw [cnd_f (b := bnot (seq s s)) (by simp)]
        have hhead : s.head? = some (s[0]'(by omega)) := by
          cases s with
          | nil => simp at h0
          | cons a r => rfl
        by_cases z : (s[0]'(by omega)).toNat = 48
        · rw [cnd_f (b := bnot (ieq ((s[0]'(by omega)).toNat : Int) 48)) (by simp [z])]
          by_cases l1 : s.length = 1
          · obtain ⟨v, e1, e2⟩ := good (.inr l1)
            rw [e1, cnd_f (b := bnot (beq' true (ieq (ilen s) 1))) (by rw [show ieq (ilen s) 1 = true from decide_eq_true (by rw [ilen_eq]; omega)]; rfl)]
            show (obind (wordF (v : Int)) _) = _
            rw [e2, obind_some, cnd_f (b := bnot (seq s s)) (by simp)]
            exact ht
          · have e1 : numL s = (0, false) := by
              unfold numL
              rw [canon_no (fun v e => by
                have h48 : s = 48 :: s.drop 1 := by
                  cases s with
                  | nil => simp at h0
                  | cons a r =>
                    have : a = 48 := by
                      apply UInt8.toNat_inj.1
                      simpa using z
                    simp [this]
                have := dig_zero v (s.drop 1) (e.trans h48)
                have := congrArg List.length this
                simp at this
                omega)]
            rw [e1, cnd_f (b := bnot (beq' false (ieq (ilen s) 1))) (by rw [show ieq (ilen s) 1 = false from decide_eq_false (by rw [ilen_eq]; omega)]; rfl)]
            exact ht
        · obtain ⟨v, e1, e2⟩ := good (.inl (by
            rw [hhead]
            intro e
            have := Option.some.inj e
            exact z (by rw [this]; rfl)))
          rw [cnd_t (b := bnot (ieq ((s[0]'(by omega)).toNat : Int) 48)) (by simp; omega), e1, cnd_f (b := bnot (beq' true true)) rfl]
          show (obind (wordF (v : Int)) _) = _
          rw [e2, obind_some, cnd_f (b := bnot (seq s s)) (by simp)]
          exact ht
      · rw [if_neg hd]
        rfl
theorem tokenDigits_ok : ∀ xs : Lf [.str, .int .u8, .int .u8], (∀ m, wfA m _ xs) → tokenDigitsF xs.1 xs.2.1 xs.2.2.1 = some true := by
  rintro ⟨s, c, p, _⟩ hw
  obtain ⟨_, hw⟩ := wfA_cons hw
  obtain ⟨hc, hw⟩ := wfA_cons hw
  obtain ⟨hp, _⟩ := wfA_cons hw
  obtain ⟨c0, c1⟩ : (0 : Int) ≤ c ∧ c ≤ (255 : Int) := wf_u8 hc
  obtain ⟨p0, p1⟩ : (0 : Int) ≤ p ∧ p ≤ (255 : Int) := wf_u8 hp
  exact digits_law s c p c0 c1 p0 p1
end Go.Sx
