/-
  Words: the plain laws: what they have in common, and the order of numbers' words.
-/
import Derived.Test.YtkogopmfpcbbkaaDoorSxTr
set_option linter.unusedVariables false
set_option linter.unusedSimpArgs false
namespace Go.Sx
open Go Go.Proofs
open Go.Lib (decDigits nDigits)
/-! Numbers and words. -/
theorem parse_snoc (d : Nat) (hd : d < 10) : ∀ (l : Str) (acc v : Nat), Lib.parseUint10 acc l = .ok v → v < 1000000000000000000 → Lib.parseUint10 acc (l ++ [UInt8.ofNat (48 + d)]) = .ok (v * 10 + d) := by
  have hc : (UInt8.ofNat (48 + d)).toNat = 48 + d := by simp; omega
  intro l
  induction l with
  | nil =>
    intro acc v h hv
    simp only [Lib.parseUint10, Lib.NumEnd.ok.injEq] at h
    subst h
    simp only [List.nil_append, Lib.parseUint10, hc]
    rw [if_pos (by omega), if_neg (by omega), if_neg (by omega)]
    congr 1
    omega
  | cons c r ih =>
    intro acc v h hv
    simp only [List.cons_append, Lib.parseUint10] at h ⊢
    split at h
    · rename_i a
      rw [if_pos a]
      split at h
      · cases h
      · rename_i b
        rw [if_neg b]
        split at h
        · cases h
        · rename_i c'
          rw [if_neg c']
          exact ih _ _ h hv
    · cases h
theorem parse_digits : ∀ u : Nat, u < 1000000000000000000 → Lib.parseUint10 0 (decDigits u) = .ok u := by
  intro u
  induction u using Nat.strongRecOn with
  | _ u ih =>
    intro hu
    by_cases h : u < 10
    · rw [decDigits, dif_pos h]
      have := parse_snoc u h [] 0 0 rfl (by omega)
      simpa using this
    · rw [decDigits, dif_neg h]
      have := parse_snoc (u % 10) (by omega) _ 0 _ (ih (u / 10) (by omega) (by omega)) (by omega)
      rw [this]
      congr 1
      omega
theorem digits_head : ∀ u : Nat, ∃ c r, decDigits u = c :: r ∧ 48 ≤ c.toNat ∧ c.toNat ≤ 57 := by
  intro u
  induction u using Nat.strongRecOn with
  | _ u ih =>
    by_cases h : u < 10
    · rw [decDigits, dif_pos h]
      exact ⟨_, _, rfl, by simp; omega, by simp; omega⟩
    · obtain ⟨c, r, e, h1, h2⟩ := ih (u / 10) (by omega)
      rw [decDigits, dif_neg h, e]
      exact ⟨c, r ++ _, rfl, h1, h2⟩
theorem atoi_digits (u : Nat) (hu : u < 1000000000000000000) : Lib.atoiAll (decDigits u) = .ok (u : Int) := by
  obtain ⟨c, r, e, h1, h2⟩ := digits_head u
  have hp := parse_digits u hu
  unfold Lib.atoiAll Lib.parseMag
  rw [e] at hp ⊢
  have hne : ¬ (c.toNat = 43 ∨ c.toNat = 45) := by omega
  have hn5 : ¬ c.toNat = 45 := by omega
  show (match (if (if c.toNat = 43 ∨ c.toNat = 45 then r else c :: r) = [] then Lib.NumEnd.syntax else Lib.parseUint10 0 (if c.toNat = 43 ∨ c.toNat = 45 then r else c :: r)) with
    | Lib.NumEnd.syntax => Lib.NumEnd.syntax
    | .range => .range
    | .ok u => if ¬ (c.toNat = 45) ∧ 9223372036854775808 ≤ u then .range else if c.toNat = 45 ∧ 9223372036854775808 < u then .range else .ok (if c.toNat = 45 then -(u : Int) else u)) = _
  rw [if_neg hne, if_neg (by simp), hp]
  show (if ¬ (c.toNat = 45) ∧ 9223372036854775808 ≤ u then Lib.NumEnd.range else if c.toNat = 45 ∧ 9223372036854775808 < u then .range else .ok (if c.toNat = 45 then -(u : Int) else u)) = _
  rw [if_neg (by omega), if_neg (by omega), if_neg hn5]
theorem itoa_nat (u : Nat) : Lib.itoa (u : Int) = decDigits u := Lib.itoa_nonneg u
theorem nDigits_le (u : Nat) : ∀ k, u < 10 ^ (k + 1) → nDigits u ≤ k + 1 := by
  induction u using Nat.strongRecOn with
  | _ u ih =>
    intro k hk
    by_cases h : u < 10
    · rw [Lib.nDigits_small h]; omega
    · rw [Lib.nDigits_big h]
      cases k with
      | zero => simp at hk; omega
      | succ k =>
        have := ih (u / 10) (by omega) k (by rw [Nat.div_lt_iff_lt_mul (by omega)]; rw [Nat.pow_succ] at hk; exact hk)
        omega
theorem word_nat (u : Nat) (hu : u < 1000000000000000000) : wordF (u : Int) = some (decDigits u) := by
  unfold wordF itoaF
  rw [cnd_t (b := ile (-9223372036854775808) (u : Int)) (decide_eq_true (by omega)), cnd_t (b := ile (u : Int) 9223372036854775807) (decide_eq_true (by omega)), itoa_nat]
  rfl
theorem dig_len (u : Nat) (hu : u < 1000000000000000000) : (decDigits u).length ≤ 18 := by
  rw [Lib.decDigits_length]
  exact nDigits_le u 17 (by simpa using hu)
/-- What a word tells. -/
theorem number_ok {s : Str} {v : Nat} (hs : s.length ≤ 1000000) (h : Lib.atoiAll s = .ok (v : Int)) (hv : v < 1000000000000000000) : numberF s = some (if v ≤ 1073741824 ∧ decDigits v = s then ((v : Int), true) else (0, false)) := by
  unfold numberF
  rw [cnd_t (b := ile (ilen s) 140737488355328) (decide_eq_true (by rw [ilen_eq]; omega))]
  have h1 : atoiOk s = true := by unfold atoiOk; rw [h]
  have h2 : atoiV s = v := by unfold atoiV; rw [h]
  rw [cnd_t h1, h2, cnd_f (b := ilt (v : Int) 0) (decide_eq_false (by omega))]
  by_cases h3 : v ≤ 1073741824
  · rw [cnd_f (b := ilt 1073741824 (v : Int)) (decide_eq_false (by omega)), word_nat v hv]
    by_cases h4 : decDigits v = s
    · simp [h3, h4]
    · simp [h3, h4]
  · rw [cnd_t (b := ilt 1073741824 (v : Int)) (decide_eq_true (by omega))]
    simp [h3]
theorem number_no {s : Str} (hs : s.length ≤ 1000000) (h : ∀ v, Lib.atoiAll s ≠ .ok v) : numberF s = some (0, false) := by
  unfold numberF
  rw [cnd_t (b := ile (ilen s) 140737488355328) (decide_eq_true (by rw [ilen_eq]; omega))]
  have h1 : atoiOk s = false := by
    unfold atoiOk
    cases hm : Lib.atoiAll s with
    | ok v => exact absurd hm (h v)
    | range => rfl
    | _ => rfl
  rw [cnd_f h1]
theorem number_neg {s : Str} {v : Int} (hs : s.length ≤ 1000000) (h : Lib.atoiAll s = .ok v) (hv : v < 0) : numberF s = some (0, false) := by
  unfold numberF
  rw [cnd_t (b := ile (ilen s) 140737488355328) (decide_eq_true (by rw [ilen_eq]; omega))]
  have h1 : atoiOk s = true := by unfold atoiOk; rw [h]
  have h2 : atoiV s = v := by unfold atoiV; rw [h]
  rw [cnd_t h1, h2, cnd_t (b := ilt v 0) (decide_eq_true (by omega))]
/-! Lists alike. -/
theorem same_eq (a b : List Str) (ha : a.length ≤ 1000000000) : sameF a b = some (decide (a = b)) := by
  unfold sameF
  by_cases hl : a.length = b.length
  · rw [iter_big (fun x => (x.1.1.length - x.1.2.2.1).toNat) (fun x => 0 ≤ x.1.2.2.1 ∧ x.1.1.length ≤ 1000000000 ∧ x.1.1.length = x.1.2.1.length)
      (fun x => if x.1.1.drop x.1.2.2.1.toNat = x.1.2.1.drop x.1.2.2.1.toNat then some (.inr ((), ())) else some (.inl ((false, ()), ()))) ?_ ⟨Int.le_refl _, ha, hl⟩ (by simp; omega)]
    · by_cases h : a = b
      · simp [h]
      · simp [hl, h]
    · rintro ⟨⟨m, k, i, _⟩, _⟩ rec ⟨h0, h1, h2⟩ hr
      simp only at h0 h1 h2 ⊢
      unfold same.l10r4.T
      by_cases hi : i < m.length
      · have hw : wrap .i64 (i + 1) = i + 1 := wrap_in (by omega) (by omega)
        have hn := hr ((m, k, i + 1, ()), ()) ⟨by simp; omega, h1, h2⟩ (by simp; omega)
        have hi' : i < k.length := by omega
        have hb : i.toNat < m.length := by omega
        have hb' : i.toNat < k.length := by omega
        simp only [lget_in h0 hi, lget_in h0 hi']
        rw [List.drop_eq_getElem_cons hb, List.drop_eq_getElem_cons hb', show i.toNat + 1 = (i + 1).toNat by omega]
        by_cases e : m[i.toNat] = k[i.toNat]
        · simp [hi, e, hw, hn]
        · simp [hi, e]
      · rw [drop_end hi, drop_end (l := k) (by omega)]
        simp [hi]
  · have h : a ≠ b := fun e => hl (by rw [e])
    rw [cnd_t (b := bnot (ieq (ilen a) (ilen b))) (by simp; omega), decide_eq_false h]
theorem cut_eq (s : Str) (hs : s.length ≤ 1000000000) : cutF s = some (wordsL s) := by
  unfold cutF
  rw [cnd_t (b := ile (ilen s) 1000000000) (decide_eq_true (by rw [ilen_eq]; omega))]
theorem join_eq (l : List Str) (hl : l.length ≤ 1000000) (hj : (Lib.join l [32]).length ≤ 100000000000) : joinF l = some (Lib.join l [32]) := by
  unfold joinF sjoinF
  rw [cnd_t (b := ile (ilen l) 1000000) (decide_eq_true (by rw [ilen_eq]; omega)), cnd_t (b := ile (ilen (Lib.join l [32])) 100000000000) (decide_eq_true (by rw [ilen_eq]; omega))]
  rfl
/-! The law is awake. -/
theorem dig_big (u : Nat) : decDigits u = if u < 10 then [UInt8.ofNat (48 + u)] else decDigits (u / 10) ++ [UInt8.ofNat (48 + u % 10)] := by
  rw [decDigits]
  split <;> simp_all
theorem dig_max : decDigits 1073741824 = [49, 48, 55, 51, 55, 52, 49, 56, 50, 52] := by
  iterate 10 rw [dig_big]
  rfl
theorem dig_over : decDigits 1073741825 = [49, 48, 55, 51, 55, 52, 49, 56, 50, 53] := by
  iterate 10 rw [dig_big]
  rfl
theorem dig_5 : decDigits 5 = [53] := by rw [dig_big]; rfl
theorem dig_17 : decDigits 17 = [49, 55] := by
  iterate 2 rw [dig_big]
  rfl
theorem n_max : numberF [49, 48, 55, 51, 55, 52, 49, 56, 50, 52] = some (1073741824, true) := by
  have h := number_ok (s := [49, 48, 55, 51, 55, 52, 49, 56, 50, 52]) (v := 1073741824) (by simp) (by rw [← dig_max]; exact atoi_digits _ (by omega)) (by omega)
  rw [h, if_pos ⟨Nat.le_refl _, dig_max⟩]
  rfl
theorem n_over : numberF [49, 48, 55, 51, 55, 52, 49, 56, 50, 53] = some (0, false) := by
  have h := number_ok (s := [49, 48, 55, 51, 55, 52, 49, 56, 50, 53]) (v := 1073741825) (by simp) (by rw [← dig_over]; exact atoi_digits _ (by omega)) (by omega)
  rw [h, if_neg (by omega)]
theorem n_zero5 : numberF [48, 53] = some (0, false) := by
  have h := number_ok (s := [48, 53]) (v := 5) (by simp) (by rfl) (by omega)
  rw [h, if_neg (by rw [dig_5]; simp)]
theorem n_none : numberF [] = some (0, false) := number_no (by simp) (fun v h => by cases h)
theorem tawake_ok : tawakeF = some true := by
  unfold tawakeF
  rw [n_max, n_over, n_zero5, n_none, cut_eq _ (by simp), cut_eq _ (by simp)]
  have e1 : wordsL [32, 32, 103, 101, 116, 32, 53, 32] = [[103, 101, 116], [53]] := by rfl
  have e2 : wordsL [32] = [] := by rfl
  have e3 : Lib.join ([[103, 101, 116], [53]] : List Str) [32] = [103, 101, 116, 32, 53] := by rfl
  have e4 : Lib.join ([] : List Str) [32] = [] := by rfl
  rw [e1, e2]
  have s1 := same_eq [[103, 101, 116], [53]] [[103, 101, 116], [53]] (by simp)
  have j1 := join_eq [[103, 101, 116], [53]] (by simp) (by rw [e3]; simp)
  have j2 := join_eq [] (by simp) (by rw [e4]; simp)
  have w1 := word_nat 17 (by omega)
  rw [e3] at j1
  rw [e4] at j2
  rw [dig_17] at w1
  rw [j1, j2, show wordF 17 = some [49, 55] from w1]
  simp only [obind, Option.bind_some]
  rw [s1]
  simp
/-! The order of numbers' words. -/
theorem less_self : ∀ l : Str, Op.bytesLess l l = false
  | [] => rfl
  | c :: r => by simp [Op.bytesLess, less_self r]
theorem less_snoc (c d : UInt8) : ∀ (x y : Str), x.length = y.length → Op.bytesLess (x ++ [c]) (y ++ [d]) = (Op.bytesLess x y || (decide (x = y) && decide (c < d)))
  | [], [], _ => by simp [Op.bytesLess]
  | [], b :: s, h => by simp at h
  | a :: r, [], h => by simp at h
  | a :: r, b :: s, h => by
    simp only [List.cons_append, Op.bytesLess]
    rw [less_snoc c d r s (by simpa using h)]
    by_cases e : a = b
    · subst e
      simp
    · by_cases l : a < b
      · simp [l]
      · have hb : (a == b) = false := by simp [e]
        simp [l, e, hb]
theorem dig_inj (a : Nat) : ∀ b, decDigits a = decDigits b → a = b := by
  induction a using Nat.strongRecOn with
  | _ a ih =>
    intro b h
    have hc : ∀ d : Nat, d < 10 → (UInt8.ofNat (48 + d)).toNat = 48 + d := fun d hd => by simp; omega
    rw [dig_big a, dig_big b] at h
    have ne : ∀ u, decDigits u ≠ [] := fun u e => by
      obtain ⟨c, r, e', _⟩ := digits_head u
      rw [e'] at e
      cases e
    have len1 : ∀ (u : Nat) (x y : UInt8), decDigits u ++ [x] ≠ [y] := fun u x y e => by
      have := congrArg List.length e
      simp at this
      exact ne u this
    split at h
    · split at h
      · rename_i h1 h2
        have h3 : UInt8.ofNat (48 + a) = UInt8.ofNat (48 + b) := by simpa using h
        have := congrArg UInt8.toNat h3
        rw [hc a h1, hc b h2] at this
        omega
      · exact absurd h.symm (len1 _ _ _)
    · split at h
      · exact absurd h (len1 _ _ _)
      · obtain ⟨h1, h2⟩ := List.append_inj' h rfl
        have h3 := ih (a / 10) (by omega) _ h1
        have h4 : UInt8.ofNat (48 + a % 10) = UInt8.ofNat (48 + b % 10) := by simpa using h2
        have := congrArg UInt8.toNat h4
        rw [hc _ (by omega), hc _ (by omega)] at this
        omega
theorem nDigits_mono (a : Nat) : ∀ b, a ≤ b → nDigits a ≤ nDigits b := by
  induction a using Nat.strongRecOn with
  | _ a ih =>
    intro b h
    by_cases h1 : a < 10
    · rw [Lib.nDigits_small h1]
      by_cases h2 : b < 10
      · rw [Lib.nDigits_small h2]; omega
      · rw [Lib.nDigits_big h2]; omega
    · rw [Lib.nDigits_big h1, Lib.nDigits_big (u := b) (by omega)]
      have := ih (a / 10) (by omega) (b / 10) (by omega)
      omega
theorem dig_less (a : Nat) : ∀ b, (decDigits a).length = (decDigits b).length → Op.bytesLess (decDigits a) (decDigits b) = decide (a < b) := by
  induction a using Nat.strongRecOn with
  | _ a ih =>
    intro b h
    have hc : ∀ d : Nat, d < 10 → (UInt8.ofNat (48 + d)).toNat = 48 + d := fun d hd => by simp; omega
    have hlt : ∀ d e : Nat, d < 10 → e < 10 → decide (UInt8.ofNat (48 + d) < UInt8.ofNat (48 + e)) = decide (d < e) := fun d e hd he => by
      apply decide_eq_decide.2
      rw [UInt8.lt_iff_toNat_lt, hc d hd, hc e he]
      omega
    have hp : ∀ u, 0 < (decDigits u).length := fun u => by
      obtain ⟨c, r, e', _⟩ := digits_head u
      rw [e']
      simp
    have p1 := hp (a / 10)
    have p2 := hp (b / 10)
    rw [dig_big a, dig_big b] at h ⊢
    by_cases h1 : a < 10
    · by_cases h2 : b < 10
      · rw [if_pos h1, if_pos h2]
        have := hlt a b h1 h2
        simpa [Op.bytesLess] using this
      · rw [if_pos h1, if_neg h2] at h
        simp only [List.length_append, List.length_cons, List.length_nil] at h
        omega
    · by_cases h2 : b < 10
      · rw [if_neg h1, if_pos h2] at h
        simp only [List.length_append, List.length_cons, List.length_nil] at h
        omega
      · rw [if_neg h1, if_neg h2] at h ⊢
        simp at h
        rw [less_snoc _ _ _ _ h, ih _ (by omega) _ h, hlt _ _ (by omega) (by omega)]
        by_cases e : a / 10 = b / 10
        · rw [e]
          simp
          omega
        · have : decDigits (a / 10) ≠ decDigits (b / 10) := fun e' => e (dig_inj _ _ e')
          simp [this]
          omega
theorem order_nat (x y : Nat) (hx : x ≤ 4294967295) (hy : y ≤ 4294967295) : tokenOrderF (x : Int) (y : Int) = some true := by
  unfold tokenOrderF
  rw [tawake_ok, wrap_in (n := (x : Int)) (by omega) (by omega), wrap_in (n := (y : Int)) (by omega) (by omega), word_nat x (by omega), word_nat y (by omega)]
  simp only [obind, Option.bind_some, ilen_eq]
  have hm1 := nDigits_mono x y
  have hm2 := nDigits_mono y x
  rw [← Lib.decDigits_length, ← Lib.decDigits_length] at hm1 hm2
  by_cases h1 : x ≤ 1073741824
  · by_cases h2 : y ≤ 1073741824
    · by_cases h3 : (decDigits x).length = (decDigits y).length
      · have h4 := dig_less x y h3
        by_cases e : x = y
        · subst e
          simp [h4, show ¬ (1073741824 : Int) < x by omega]
        · have hd : decDigits x ≠ decDigits y := fun e' => e (dig_inj _ _ e')
          simp [h3, h4, hd, show ¬ (1073741824 : Int) < x by omega, show ¬ (1073741824 : Int) < y by omega, show ¬ (x : Int) = y by omega]
      · have h5 : ¬ ((decDigits x).length : Int) = (decDigits y).length := by omega
        by_cases h6 : x < y
        · have h7 := hm1 (by omega)
          simp [h3, h5, h6, show ¬ (1073741824 : Int) < x by omega, show ¬ (1073741824 : Int) < y by omega, show (decDigits x).length < (decDigits y).length by omega]
        · have h7 := hm2 (by omega)
          simp [h3, h5, h6, show ¬ (1073741824 : Int) < x by omega, show ¬ (1073741824 : Int) < y by omega, show ¬ (decDigits x).length < (decDigits y).length by omega]
    · simp [show ¬ (1073741824 : Int) < x by omega, show (1073741824 : Int) < y by omega]
  · simp [show (1073741824 : Int) < x by omega]
theorem tokenOrder_ok : ∀ xs : Lf [.int .u32, .int .u32], (∀ m, wfA m _ xs) → tokenOrderF xs.1 xs.2.1 = some true := by
  rintro ⟨a, b, _⟩ hw
  obtain ⟨ha, hw⟩ := wfA_cons hw
  obtain ⟨hb, _⟩ := wfA_cons hw
  obtain ⟨a0, a1⟩ : (0 : Int) ≤ a ∧ a ≤ (4294967295 : Int) := wf_u32 ha
  obtain ⟨b0, b1⟩ : (0 : Int) ≤ b ∧ b ≤ (4294967295 : Int) := wf_u32 hb
  have key : ∀ a b : Int, 0 ≤ a → a ≤ 4294967295 → 0 ≤ b → b ≤ 4294967295 → tokenOrderF a b = some true := by
    intro a b a0 a1 b0 b1
    obtain ⟨x, rfl⟩ := Int.eq_ofNat_of_zero_le a0
    obtain ⟨y, rfl⟩ := Int.eq_ofNat_of_zero_le b0
    exact order_nat x y (by omega) (by omega)
  exact key a b a0 a1 b0 b1
end Go.Sx
