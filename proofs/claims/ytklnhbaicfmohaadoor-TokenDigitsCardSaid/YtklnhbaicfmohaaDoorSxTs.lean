/-
  Words: the plain law of numbers.
-/
import Derived.Test.YtklnhbaicfmohaaDoorSxTp
set_option linter.unusedVariables false
set_option linter.unusedSimpArgs false
namespace Go.Sx
open Go Go.Proofs
open Go.Lib (decDigits nDigits)
open Classical in
/-- The number whose word this is. -/
noncomputable def canon (s : Str) : Option Nat := if h : ∃ v, decDigits v = s then some (Classical.choose h) else none
theorem canon_dig (v : Nat) : canon (decDigits v) = some v := by
  have h : ∃ u, decDigits u = decDigits v := ⟨v, rfl⟩
  unfold canon
  rw [dif_pos h]
  exact congrArg some (dig_inj _ _ (Classical.choose_spec h))
theorem canon_no {s : Str} (h : ∀ v, decDigits v ≠ s) : canon s = none := by
  unfold canon
  rw [dif_neg (fun ⟨v, e⟩ => h v e)]
theorem canon_some {s : Str} {v : Nat} (h : canon s = some v) : decDigits v = s := by
  unfold canon at h
  split at h
  · rename_i hh
    cases h
    exact Classical.choose_spec hh
  · cases h
/-- What a number's text says. -/
noncomputable def numL (s : Str) : Int × Bool := match canon s with
  | some v => if v ≤ 1073741824 then ((v : Int), true) else (0, false)
  | none => (0, false)
theorem number_any {s : Str} {v : Nat} (hs : s.length ≤ 1000000) (h : Lib.atoiAll s = .ok (v : Int)) : numberF s = some (if v ≤ 1073741824 ∧ decDigits v = s then ((v : Int), true) else (0, false)) := by
  by_cases hv : v < 1000000000000000000
  · exact number_ok hs h hv
  · unfold numberF
    have h1 : atoiOk s = true := by unfold atoiOk; rw [h]
    have h2 : atoiV s = v := by unfold atoiV; rw [h]
    rw [cnd_t (b := ile (ilen s) 140737488355328) (decide_eq_true (by rw [ilen_eq]; omega)), cnd_t h1, h2, cnd_f (b := ilt (v : Int) 0) (decide_eq_false (by omega)), cnd_t (b := ilt 1073741824 (v : Int)) (decide_eq_true (by omega)), if_neg (by omega)]
theorem number_spec (s : Str) (hs : s.length ≤ 1000000) : numberF s = some (numL s) := by
  unfold numL
  cases hc : canon s with
  | some v =>
    have e := canon_some hc
    subst e
    by_cases hv : v ≤ 1073741824
    · rw [number_any hs (atoi_digits v (by omega))]
      simp [hv]
    · by_cases hb : v < 1000000000000000000
      · rw [number_any hs (atoi_digits v hb)]
        simp [hv]
      · cases hm : Lib.atoiAll (decDigits v) with
        | ok w =>
          by_cases hw : w < 0
          · rw [number_neg hs hm hw]
            simp [hv]
          · obtain ⟨u, rfl⟩ := Int.eq_ofNat_of_zero_le (by omega : 0 ≤ w)
            rw [number_any hs hm]
            by_cases e : u ≤ 1073741824 ∧ decDigits u = decDigits v
            · have := dig_inj _ _ e.2
              omega
            · rw [if_neg e]
              simp [hv]
        | _ =>
          rw [number_no hs (by rw [hm]; intro v h; cases h)]
          simp [hv]
  | none =>
    have hn : ∀ v, decDigits v ≠ s := fun v e => by
      rw [← e, canon_dig] at hc
      cases hc
    cases hm : Lib.atoiAll s with
    | ok w =>
      by_cases hw : w < 0
      · rw [number_neg hs hm hw]
      · obtain ⟨u, rfl⟩ := Int.eq_ofNat_of_zero_le (by omega : 0 ≤ w)
        rw [number_any hs hm, if_neg (fun e => hn _ e.2)]
    | _ => rw [number_no hs (by rw [hm]; intro v h; cases h)]
/-! The document's own reading. -/
theorem dig_mem (u : Nat) : ∀ c ∈ decDigits u, 48 ≤ c.toNat ∧ c.toNat ≤ 57 := by
  induction u using Nat.strongRecOn with
  | _ u ih =>
    intro c hc
    rw [dig_big] at hc
    split at hc
    · simp at hc
      subst hc
      simp
      omega
    · rw [List.mem_append] at hc
      rcases hc with hc | hc
      · exact ih (u / 10) (by omega) c hc
      · simp at hc
        subst hc
        simp
        omega
theorem dig_zero (u : Nat) : ∀ r, decDigits u = 48 :: r → r = [] := by
  induction u using Nat.strongRecOn with
  | _ u ih =>
    intro r hr
    rw [dig_big] at hr
    split at hr
    · simpa using (congrArg List.tail hr).symm
    · obtain ⟨c, t, e, _⟩ := digits_head (u / 10)
      rw [e] at hr
      simp only [List.cons_append, List.cons.injEq] at hr
      obtain ⟨rfl, h2⟩ := hr
      have h3 := ih (u / 10) (by omega) t e
      subst h3
      have h4 : decDigits (u / 10) = decDigits 0 := by rw [e, dig_big 0]; rfl
      have := dig_inj _ _ h4
      omega
theorem dig_step (n d : Nat) (hn : 0 < n) (hd : d < 10) : decDigits (10 * n + d) = decDigits n ++ [UInt8.ofNat (48 + d)] := by
  rw [dig_big (10 * n + d), if_neg (by omega), show (10 * n + d) / 10 = n by omega, show (10 * n + d) % 10 = d by omega]
theorem dig_len10 (n k : Nat) (h : (decDigits n).length ≤ k) : n < 10 ^ k := by
  induction n using Nat.strongRecOn generalizing k with
  | _ n ih =>
    rw [dig_big] at h
    split at h
    · simp at h
      have : 10 ^ 1 ≤ 10 ^ k := Nat.pow_le_pow_right (by omega) h
      omega
    · simp at h
      cases k with
      | zero => omega
      | succ k =>
        have := ih (n / 10) (by omega) k (by omega)
        rw [Nat.pow_succ]
        omega
theorem u8_dig (c : UInt8) (h0 : 48 ≤ c.toNat) (h1 : c.toNat ≤ 57) : UInt8.ofNat (48 + (c.toNat - 48)) = c := by
  rw [show 48 + (c.toNat - 48) = c.toNat by omega]
  simp
theorem rnumber_loop (s : Str) (hs : s.length ≤ 10) (h0 : 0 < s.length) : iter rnumber.l16r5.T bigL (((s, (0, (0, ()))), ())) = match canon s with
    | some v => some (.inr (((v : Int), ()), ()))
    | none => some (.inl ((0, (false, ())), ())) := by
  rw [iter_big (fun x => (x.1.1.length - x.1.2.2.1).toNat) (fun x => (0 : Int) ≤ x.1.2.2.1 ∧ (x.1.2.2.1 : Int) ≤ (x.1.1.length : Int) ∧ 0 < x.1.1.length ∧ x.1.1.length ≤ 10 ∧ ∃ n : Nat, x.1.2.1 = (n : Int) ∧ (((x.1.2.2.1 : Int) = 0 ∧ n = 0) ∨ decDigits n = x.1.1.take x.1.2.2.1.toNat))
    (fun x => match canon x.1.1 with
    | some v => some (.inr (((v : Int), ()), ()))
    | none => some (.inl ((0, (false, ())), ()))) ?_ ⟨Int.le_refl _, by simp, h0, hs, 0, rfl, .inl ⟨rfl, rfl⟩⟩ (by simp; omega)]
  rintro ⟨⟨m, k, i, _⟩, _⟩ rec ⟨i0, i1, m0, m1, n, rfl, hn⟩ hr
  simp only at i0 i1 m0 m1 hn ⊢
  unfold rnumber.l16r5.T
  obtain ⟨j, rfl⟩ := Int.eq_ofNat_of_zero_le i0
  by_cases hi : j < m.length
  · simp only [lget_in i0 (show (j : Int) < m.length by omega), Int.toNat_natCast, obind, Option.bind_some]
    rw [cnd_t (b := ilt (j : Int) (ilen m)) (decide_eq_true (by rw [ilen_eq]; omega))]
    have hu : u8i m[j] = (m[j].toNat : Int) := rfl
    rw [hu]
    by_cases c0 : m[j].toNat < 48
    · rw [cnd_t (b := ilt (m[j].toNat : Int) 48) (decide_eq_true (by omega)), canon_no (fun v e => by
        have := dig_mem v m[j] (by rw [e]; exact List.getElem_mem _)
        omega)]
    · rw [cnd_f (b := ilt (m[j].toNat : Int) 48) (decide_eq_false (by omega))]
      by_cases c1 : 57 < m[j].toNat
      · rw [cnd_t (b := ilt 57 (m[j].toNat : Int)) (decide_eq_true (by omega)), canon_no (fun v e => by
          have := dig_mem v m[j] (by rw [e]; exact List.getElem_mem _)
          omega)]
      · rw [cnd_f (b := ilt 57 (m[j].toNat : Int)) (decide_eq_false (by omega))]
        have htake : m.take (j + 1) = m.take j ++ [m[j]] := by rw [List.take_append_getElem hi]
        by_cases z : 0 < j ∧ n = 0
        · obtain ⟨z1, rfl⟩ := z
          rw [cnd_t (b := ilt 0 (j : Int)) (decide_eq_true (by omega)), cnd_t (b := ieq ((0 : Nat) : Int) 0) (decide_eq_true (by omega)), canon_no (fun v e => by
            have h1 : decDigits 0 = m.take j := by
              rcases hn with hn | hn
              · omega
              · simpa using hn
            rw [dig_big 0] at h1
            have h2 : m = 48 :: m.drop 1 := by
              cases m with
              | nil => simp at m0
              | cons c r =>
                cases j with
                | zero => omega
                | succ j =>
                  simp only [List.take_succ_cons] at h1
                  have := (List.cons.inj h1).1
                  simp
                  exact this.symm
            have h3 := dig_zero v (m.drop 1) (e.trans h2)
            have h4 := congrArg List.length h3
            simp at h4
            omega)]
        · have hb : n < 10 ^ 10 := by
            rcases hn with hn | hn
            · omega
            · exact dig_len10 n 10 (by rw [hn]; simp; omega)
          have hb' : n < 10000000000 := by simpa using hb
          have w1 : wrap .i64 (imul 10 (n : Int)) = 10 * (n : Int) := wrap_in (by show _ ≤ 10 * (n : Int); omega) (by show 10 * (n : Int) ≤ _; omega)
          have w2 : wrap .i64 (m[j].toNat : Int) = (m[j].toNat : Int) := wrap_in (by omega) (by omega)
          have w3 : wrap .i64 (iadd (10 * (n : Int)) (m[j].toNat : Int)) = 10 * (n : Int) + m[j].toNat := wrap_in (by show _ ≤ 10 * (n : Int) + (m[j].toNat : Int); omega) (by show 10 * (n : Int) + (m[j].toNat : Int) ≤ _; omega)
          have w4 : wrap .i64 (isub (10 * (n : Int) + m[j].toNat) 48) = ((10 * n + (m[j].toNat - 48) : Nat) : Int) := by
            rw [show isub (10 * (n : Int) + m[j].toNat) 48 = ((10 * n + (m[j].toNat - 48) : Nat) : Int) by show 10 * (n : Int) + m[j].toNat - 48 = _; omega]
            exact wrap_in (by omega) (by omega)
          have w5 : wrap .i64 (iadd (j : Int) 1) = ((j + 1 : Nat) : Int) := wrap_in (n := (j : Int) + 1) (by omega) (by omega)
          have hnext := hr ((m, (((10 * n + (m[j].toNat - 48) : Nat) : Int), (((j + 1 : Nat) : Int), ()))), ()) ⟨by simp; omega, by simp; omega, m0, m1, _, rfl, .inr (by
            have e8 := u8_dig m[j] (by omega) (by omega)
            show decDigits (10 * n + (m[j].toNat - 48)) = m.take (((j + 1 : Nat) : Int)).toNat
            rw [Int.toNat_natCast, htake]
            by_cases hz : n = 0
            · subst hz
              have hj : j = 0 := by omega
              subst hj
              rw [dig_big, if_pos (by omega), show 10 * 0 + (m[0].toNat - 48) = m[0].toNat - 48 by omega, e8]
              rfl
            · rw [dig_step n _ (by omega) (by omega), e8]
              rcases hn with hn | hn
              · omega
              · rw [hn]; simp)⟩ (by simp; omega)
          rw [w1, w2, w3, w4, w5, hnext]
          by_cases z1 : 0 < j
          · rw [cnd_t (b := ilt 0 (j : Int)) (decide_eq_true (by omega)), cnd_f (b := ieq (n : Int) 0) (decide_eq_false (by omega))]
          · rw [cnd_f (b := ilt 0 (j : Int)) (decide_eq_false (by omega))]
  · rw [cnd_f (b := ilt (j : Int) (ilen m)) (decide_eq_false (by rw [ilen_eq]; omega))]
    have e : decDigits n = m := by
      rcases hn with hn | hn
      · omega
      · rw [hn, Int.toNat_natCast, List.take_of_length_le (by omega)]
    rw [← e, canon_dig]
theorem rnumber_spec (s : Str) : rnumberF s = some (numL s) := by
  unfold rnumberF numL
  by_cases h0 : s.length = 0
  · rw [cnd_t (b := ieq (ilen s) 0) (decide_eq_true (by rw [ilen_eq]; omega)), canon_no (fun v e => by
      obtain ⟨c, r, e', _⟩ := digits_head v
      rw [← e, e'] at h0
      simp at h0)]
  · rw [cnd_f (b := ieq (ilen s) 0) (decide_eq_false (by rw [ilen_eq]; omega))]
    by_cases h1 : 10 < s.length
    · rw [cnd_t (b := ilt 10 (ilen s)) (decide_eq_true (by rw [ilen_eq]; omega))]
      cases hc : canon s with
      | none => rfl
      | some v =>
        have e := canon_some hc
        have h2 : ¬ v ≤ 1073741824 := fun h => by
          have h3 := nDigits_le v 9 (by omega)
          rw [← Lib.decDigits_length, e] at h3
          omega
        simp [h2]
    · rw [cnd_f (b := ilt 10 (ilen s)) (decide_eq_false (by rw [ilen_eq]; omega)), rnumber_loop s (by omega) (by omega)]
      cases hc : canon s with
      | none => rfl
      | some v =>
        show (cnd (ilt 1073741824 (v : Int)) _ _) = _
        by_cases h2 : v ≤ 1073741824
        · rw [cnd_f (b := ilt 1073741824 (v : Int)) (decide_eq_false (by omega))]
          simp [h2]
        · rw [cnd_t (b := ilt 1073741824 (v : Int)) (decide_eq_true (by omega))]
          simp [h2]
theorem irem_nat (x y : Nat) : irem (x : Int) (y : Int) = ((x % y : Nat) : Int) := rfl
theorem numL_word {s : Str} (h : (numL s).2 = true) : ∃ v : Nat, v ≤ 1073741824 ∧ s = decDigits v ∧ (numL s).1 = (v : Int) := by
  unfold numL at h ⊢
  cases hc : canon s with
  | none => rw [hc] at h; cases h
  | some v =>
    rw [hc] at h
    by_cases hv : v ≤ 1073741824
    · exact ⟨v, hv, (canon_some hc).symm, by simp [hv]⟩
    · simp [hv] at h
theorem numL_dig (v : Nat) (hv : v ≤ 1073741824) : numL (decDigits v) = ((v : Int), true) := by
  unfold numL
  rw [canon_dig]
  simp [hv]
theorem numbers_law (s : Str) (x : Nat) (hx : x ≤ 4294967295) : tokenNumbersF s (x : Int) = some true := by
  unfold tokenNumbersF
  rw [tawake_ok]
  by_cases hs : s.length ≤ 100
  · have hk : x % 1073741825 ≤ 1073741824 := by omega
    have hw : wrap .i64 (irem (x : Int) 1073741825) = ((x % 1073741825 : Nat) : Int) := by
      rw [show irem (x : Int) 1073741825 = ((x % 1073741825 : Nat) : Int) from irem_nat x 1073741825]
      exact wrap_in (by omega) (by omega)
    rw [hw, word_nat _ (by omega), number_spec s (by omega), rnumber_spec s]
    have hr : rwordF ((x % 1073741825 : Nat) : Int) = some (decDigits (x % 1073741825)) := by
      unfold rwordF rwOf
      rw [cnd_t (b := ile 0 ((x % 1073741825 : Nat) : Int)) (decide_eq_true (by omega)), cnd_t (b := ilt ((x % 1073741825 : Nat) : Int) ((1099511627776 : Nat) : Int)) (decide_eq_true (by omega)), itoa_nat]
    have hl := dig_len (x % 1073741825) (by omega)
    have hn : numberF (decDigits (x % 1073741825)) = some (((x % 1073741825 : Nat) : Int), true) := by rw [number_spec _ (by omega), numL_dig _ hk]
    rw [obind_some, cnd_f (b := bnot true) rfl, cnd_f (b := ilt 100 (ilen s)) (decide_eq_false (by rw [ilen_eq]; omega)), obind_some, obind_some, obind_some, hn, obind_some, obind_some, hr, obind_some]
    cases hb : (numL s).2 with
    | false => simp [hb]
    | true =>
      obtain ⟨v, hv, rfl, h1⟩ := numL_word hb
      rw [h1, word_nat v (by omega)]
      simp [hb]
  · rw [obind_some, cnd_f (b := bnot true) rfl, cnd_t (b := ilt 100 (ilen s)) (decide_eq_true (by rw [ilen_eq]; omega))]
    rfl
theorem tokenNumbers_ok : ∀ xs : Lf [.str, .int .u32], (∀ m, wfA m _ xs) → tokenNumbersF xs.1 xs.2.1 = some true := by
  rintro ⟨s, n, _⟩ hw
  obtain ⟨_, hw⟩ := wfA_cons hw
  obtain ⟨hn, _⟩ := wfA_cons hw
  obtain ⟨n0, n1⟩ : (0 : Int) ≤ n ∧ n ≤ (4294967295 : Int) := wf_u32 hn
  have key : ∀ n : Int, 0 ≤ n → n ≤ 4294967295 → tokenNumbersF s n = some true := by
    intro n n0 n1
    obtain ⟨x, rfl⟩ := Int.eq_ofNat_of_zero_le n0
    exact numbers_law s x (by omega)
  exact key n n0 n1
end Go.Sx
