/-
  Words: the plain laws.
-/
import Derived.Test.YtcpildkbkjeijaaDoorSyK
set_option linter.unusedVariables false
set_option linter.unusedSimpArgs false
namespace Go.Sx
open Go Go.Proofs
open Go.Lib (decDigits nDigits)
/-! Numbers and words. -/
theorem parse_snoc (d : Nat) (hd : d < 10) : ∀ (l : Str) (acc v : Nat), Lib.parseUint10 acc l = .ok v → v < 1000000000000000000 → Lib.parseUint10 acc (l ++ [UInt8.ofNat (48 + d)]) = .ok (v * 10 + d) := by
  have hc : (UInt8.ofNat (48 + d)).toNat = 48 + d := by simp; omega
  intro l
  induction l with
  | nil =>
    intro acc v h hv
    simp only [Lib.parseUint10, Lib.NumEnd.ok.injEq] at h
    subst h
    simp only [List.nil_append, Lib.parseUint10, hc]
    rw [if_pos (by omega), if_neg (by omega), if_neg (by omega)]
    congr 1
    omega
  | cons c r ih =>
    intro acc v h hv
    simp only [List.cons_append, Lib.parseUint10] at h ⊢
    split at h
    · rename_i a
      rw [if_pos a]
      split at h
      · cases h
      · rename_i b
        rw [if_neg b]
        split at h
        · cases h
        · rename_i c'
          rw [if_neg c']
          exact ih _ _ h hv
    · cases h
theorem parse_digits : ∀ u : Nat, u < 1000000000000000000 → Lib.parseUint10 0 (decDigits u) = .ok u := by
  intro u
  induction u using Nat.strongRecOn with
  | _ u ih =>
    intro hu
    by_cases h : u < 10
    · rw [decDigits, dif_pos h]
      have := parse_snoc u h [] 0 0 rfl (by omega)
      simpa using this
    · rw [decDigits, dif_neg h]
      have := parse_snoc (u % 10) (by omega) _ 0 _ (ih (u / 10) (by omega) (by omega)) (by omega)
      rw [this]
      congr 1
      omega
theorem digits_head : ∀ u : Nat, ∃ c r, decDigits u = c :: r ∧ 48 ≤ c.toNat ∧ c.toNat ≤ 57 := by
  intro u
  induction u using Nat.strongRecOn with
  | _ u ih =>
    by_cases h : u < 10
    · rw [decDigits, dif_pos h]
      exact ⟨_, _, rfl, by simp; omega, by simp; omega⟩
    · obtain ⟨c, r, e, h1, h2⟩ := ih (u / 10) (by omega)
      rw [decDigits, dif_neg h, e]
      exact ⟨c, r ++ _, rfl, h1, h2⟩
theorem atoi_digits (u : Nat) (hu : u < 1000000000000000000) : Lib.atoiAll (decDigits u) = .ok (u : Int) := by
  obtain ⟨c, r, e, h1, h2⟩ := digits_head u
  have hp := parse_digits u hu
  unfold Lib.atoiAll Lib.parseMag
  rw [e] at hp ⊢
  have hne : ¬ (c.toNat = 43 ∨ c.toNat = 45) := by omega
  have hn5 : ¬ c.toNat = 45 := by omega
  show (match (if (if c.toNat = 43 ∨ c.toNat = 45 then r else c :: r) = [] then Lib.NumEnd.syntax else Lib.parseUint10 0 (if c.toNat = 43 ∨ c.toNat = 45 then r else c :: r)) with
    | Lib.NumEnd.syntax => Lib.NumEnd.syntax
    | .range => .range
    | .ok u => if ¬ (c.toNat = 45) ∧ 9223372036854775808 ≤ u then .range else if c.toNat = 45 ∧ 9223372036854775808 < u then .range else .ok (if c.toNat = 45 then -(u : Int) else u)) = _
  rw [if_neg hne, if_neg (by simp), hp]
  show (if ¬ (c.toNat = 45) ∧ 9223372036854775808 ≤ u then Lib.NumEnd.range else if c.toNat = 45 ∧ 9223372036854775808 < u then .range else .ok (if c.toNat = 45 then -(u : Int) else u)) = _
  rw [if_neg (by omega), if_neg (by omega), if_neg hn5]
theorem itoa_nat (u : Nat) : Lib.itoa (u : Int) = decDigits u := Lib.itoa_nonneg u
theorem nDigits_le (u : Nat) : ∀ k, u < 10 ^ (k + 1) → nDigits u ≤ k + 1 := by
  induction u using Nat.strongRecOn with
  | _ u ih =>
    intro k hk
    by_cases h : u < 10
    · rw [Lib.nDigits_small h]; omega
    · rw [Lib.nDigits_big h]
      cases k with
      | zero => simp at hk; omega
      | succ k =>
        have := ih (u / 10) (by omega) k (by rw [Nat.div_lt_iff_lt_mul (by omega)]; rw [Nat.pow_succ] at hk; exact hk)
        omega
theorem word_nat (u : Nat) (hu : u < 1000000000000000000) : wordF (u : Int) = some (decDigits u) := by
  unfold wordF itoaF
  rw [cnd_t (b := ile (-9223372036854775808) (u : Int)) (decide_eq_true (by omega)), cnd_t (b := ile (u : Int) 9223372036854775807) (decide_eq_true (by omega)), itoa_nat]
  rfl
theorem dig_len (u : Nat) (hu : u < 1000000000000000000) : (decDigits u).length ≤ 18 := by
  rw [Lib.decDigits_length]
  exact nDigits_le u 17 (by simpa using hu)
/-- What a word tells. -/
theorem number_ok {s : Str} {v : Nat} (hs : s.length ≤ 1000000) (h : Lib.atoiAll s = .ok (v : Int)) (hv : v < 1000000000000000000) : numberF s = some (if v ≤ 1073741824 ∧ decDigits v = s then ((v : Int), true) else (0, false)) := by
  unfold numberF
  rw [cnd_t (b := ile (ilen s) 140737488355328) (decide_eq_true (by rw [ilen_eq]; omega))]
  have h1 : atoiOk s = true := by unfold atoiOk; rw [h]
  have h2 : atoiV s = v := by unfold atoiV; rw [h]
  rw [cnd_t h1, h2, cnd_f (b := ilt (v : Int) 0) (decide_eq_false (by omega))]
  by_cases h3 : v ≤ 1073741824
  · rw [cnd_f (b := ilt 1073741824 (v : Int)) (decide_eq_false (by omega)), word_nat v hv]
    by_cases h4 : decDigits v = s
    · simp [h3, h4]
    · simp [h3, h4]
  · rw [cnd_t (b := ilt 1073741824 (v : Int)) (decide_eq_true (by omega))]
    simp [h3]
theorem number_no {s : Str} (hs : s.length ≤ 1000000) (h : ∀ v, Lib.atoiAll s ≠ .ok v) : numberF s = some (0, false) := by
  unfold numberF
  rw [cnd_t (b := ile (ilen s) 140737488355328) (decide_eq_true (by rw [ilen_eq]; omega))]
  have h1 : atoiOk s = false := by
    unfold atoiOk
    cases hm : Lib.atoiAll s with
    | ok v => exact absurd hm (h v)
    | range => rfl
    | _ => rfl
  rw [cnd_f h1]
theorem number_neg {s : Str} {v : Int} (hs : s.length ≤ 1000000) (h : Lib.atoiAll s = .ok v) (hv : v < 0) : numberF s = some (0, false) := by
  unfold numberF
  rw [cnd_t (b := ile (ilen s) 140737488355328) (decide_eq_true (by rw [ilen_eq]; omega))]
  have h1 : atoiOk s = true := by unfold atoiOk; rw [h]
  have h2 : atoiV s = v := by unfold atoiV; rw [h]
  rw [cnd_t h1, h2, cnd_t (b := ilt v 0) (decide_eq_true (by omega))]
/-! Lists alike. -/
theorem cut_eq (s : Str) (hs : s.length ≤ 1000000000) : cutF s = some (wordsL s) := by
  unfold cutF
  rw [cnd_t (b := ile (ilen s) 1000000000) (decide_eq_true (by rw [ilen_eq]; omega))]
theorem join_eq (l : List Str) (hl : l.length ≤ 1000000) (hj : (Lib.join l [32]).length ≤ 100000000000) : joinF l = some (Lib.join l [32]) := by
  unfold joinF sjoinF
  rw [cnd_t (b := ile (ilen l) 1000000) (decide_eq_true (by rw [ilen_eq]; omega)), cnd_t (b := ile (ilen (Lib.join l [32])) 100000000000) (decide_eq_true (by rw [ilen_eq]; omega))]
  rfl
/-! The law is awake. -/
theorem dig_big (u : Nat) : decDigits u = if u < 10 then [UInt8.ofNat (48 + u)] else decDigits (u / 10) ++ [UInt8.ofNat (48 + u % 10)] := by
  rw [decDigits]
  split <;> simp_all
theorem dig_max : decDigits 1073741824 = [49, 48, 55, 51, 55, 52, 49, 56, 50, 52] := by
  iterate 10 rw [dig_big]
  rfl
theorem dig_over : decDigits 1073741825 = [49, 48, 55, 51, 55, 52, 49, 56, 50, 53] := by
  iterate 10 rw [dig_big]
  rfl
theorem dig_5 : decDigits 5 = [53] := by rw [dig_big]; rfl
theorem dig_17 : decDigits 17 = [49, 55] := by
  iterate 2 rw [dig_big]
  rfl
theorem n_max : numberF [49, 48, 55, 51, 55, 52, 49, 56, 50, 52] = some (1073741824, true) := by
  have h := number_ok (s := [49, 48, 55, 51, 55, 52, 49, 56, 50, 52]) (v := 1073741824) (by simp) (by rw [← dig_max]; exact atoi_digits _ (by omega)) (by omega)
  rw [h, if_pos ⟨Nat.le_refl _, dig_max⟩]
  rfl
theorem n_over : numberF [49, 48, 55, 51, 55, 52, 49, 56, 50, 53] = some (0, false) := by
  have h := number_ok (s := [49, 48, 55, 51, 55, 52, 49, 56, 50, 53]) (v := 1073741825) (by simp) (by rw [← dig_over]; exact atoi_digits _ (by omega)) (by omega)
  rw [h, if_neg (by omega)]
theorem n_zero5 : numberF [48, 53] = some (0, false) := by
  have h := number_ok (s := [48, 53]) (v := 5) (by simp) (by rfl) (by omega)
  rw [h, if_neg (by rw [dig_5]; simp)]
theorem n_none : numberF [] = some (0, false) := number_no (by simp) (fun v h => by cases h)
/-! The order of numbers' words. -/
theorem less_self : ∀ l : Str, Op.bytesLess l l = false
  | [] => rfl
  | c :: r => by simp [Op.bytesLess, less_self r]
theorem less_snoc (c d : UInt8) : ∀ (x y : Str), x.length = y.length → Op.bytesLess (x ++ [c]) (y ++ [d]) = (Op.bytesLess x y || (decide (x = y) && decide (c < d)))
  | [], [], _ => by simp [Op.bytesLess]
  | [], b :: s, h => by simp at h
  | a :: r, [], h => by simp at h
  | a :: r, b :: s, h => by
    simp only [List.cons_append, Op.bytesLess]
    rw [less_snoc c d r s (by simpa using h)]
    by_cases e : a = b
    · subst e
      simp
    · by_cases l : a < b
      · simp [l]
      · have hb : (a == b) = false := by simp [e]
        simp [l, e, hb]
theorem dig_inj (a : Nat) : ∀ b, decDigits a = decDigits b → a = b := by
  induction a using Nat.strongRecOn with
  | _ a ih =>
    intro b h
    have hc : ∀ d : Nat, d < 10 → (UInt8.ofNat (48 + d)).toNat = 48 + d := fun d hd => by simp; omega
    rw [dig_big a, dig_big b] at h
    have ne : ∀ u, decDigits u ≠ [] := fun u e => by
      obtain ⟨c, r, e', _⟩ := digits_head u
      rw [e'] at e
      cases e
    have len1 : ∀ (u : Nat) (x y : UInt8), decDigits u ++ [x] ≠ [y] := fun u x y e => by
      have := congrArg List.length e
      simp at this
      exact ne u this
    split at h
    · split at h
      · rename_i h1 h2
        have h3 : UInt8.ofNat (48 + a) = UInt8.ofNat (48 + b) := by simpa using h
        have := congrArg UInt8.toNat h3
        rw [hc a h1, hc b h2] at this
        omega
      · exact absurd h.symm (len1 _ _ _)
    · split at h
      · exact absurd h (len1 _ _ _)
      · obtain ⟨h1, h2⟩ := List.append_inj' h rfl
        have h3 := ih (a / 10) (by omega) _ h1
        have h4 : UInt8.ofNat (48 + a % 10) = UInt8.ofNat (48 + b % 10) := by simpa using h2
        have := congrArg UInt8.toNat h4
        rw [hc _ (by omega), hc _ (by omega)] at this
        omega
theorem nDigits_mono (a : Nat) : ∀ b, a ≤ b → nDigits a ≤ nDigits b := by
  induction a using Nat.strongRecOn with
  | _ a ih =>
    intro b h
    by_cases h1 : a < 10
    · rw [Lib.nDigits_small h1]
      by_cases h2 : b < 10
      · rw [Lib.nDigits_small h2]; omega
      · rw [Lib.nDigits_big h2]; omega
    · rw [Lib.nDigits_big h1, Lib.nDigits_big (u := b) (by omega)]
      have := ih (a / 10) (by omega) (b / 10) (by omega)
      omega
theorem dig_less (a : Nat) : ∀ b, (decDigits a).length = (decDigits b).length → Op.bytesLess (decDigits a) (decDigits b) = decide (a < b) := by
  induction a using Nat.strongRecOn with
  | _ a ih =>
    intro b h
    have hc : ∀ d : Nat, d < 10 → (UInt8.ofNat (48 + d)).toNat = 48 + d := fun d hd => by simp; omega
    have hlt : ∀ d e : Nat, d < 10 → e < 10 → decide (UInt8.ofNat (48 + d) < UInt8.ofNat (48 + e)) = decide (d < e) := fun d e hd he => by
      apply decide_eq_decide.2
      rw [UInt8.lt_iff_toNat_lt, hc d hd, hc e he]
      omega
    have hp : ∀ u, 0 < (decDigits u).length := fun u => by
      obtain ⟨c, r, e', _⟩ := digits_head u
      rw [e']
      simp
    have p1 := hp (a / 10)
    have p2 := hp (b / 10)
    rw [dig_big a, dig_big b] at h ⊢
    by_cases h1 : a < 10
    · by_cases h2 : b < 10
      · rw [if_pos h1, if_pos h2]
        have := hlt a b h1 h2
        simpa [Op.bytesLess] using this
      · rw [if_pos h1, if_neg h2] at h
        simp only [List.length_append, List.length_cons, List.length_nil] at h
        omega
    · by_cases h2 : b < 10
      · rw [if_neg h1, if_pos h2] at h
        simp only [List.length_append, List.length_cons, List.length_nil] at h
        omega
      · rw [if_neg h1, if_neg h2] at h ⊢
        simp at h
        rw [less_snoc _ _ _ _ h, ih _ (by omega) _ h, hlt _ _ (by omega) (by omega)]
        by_cases e : a / 10 = b / 10
        · rw [e]
          simp
          omega
        · have : decDigits (a / 10) ≠ decDigits (b / 10) := fun e' => e (dig_inj _ _ e')
          simp [this]
          omega
/-- The piece that is still open, and those that are shut. -/
def openP : List UInt8 → Str → List Str × Str
  | acc, [] => ([], acc)
  | acc, c :: r => if c = 32 then (acc :: (openP [] r).1, (openP [] r).2) else openP (acc ++ [c]) r
theorem pieces_open (b : Str) : ∀ (a : Str) (acc : Str), piecesL acc (a ++ b) = (openP acc a).1 ++ piecesL (openP acc a).2 b := by
  intro a
  induction a with
  | nil => intro acc; simp [openP]
  | cons c r ih =>
    intro acc
    rw [List.cons_append, pieces_cons]
    unfold openP
    split
    · simp [ih]
    · rw [ih]
theorem pieces_end (a acc : Str) : piecesL acc a = (openP acc a).1 ++ [(openP acc a).2] := by
  have := pieces_open [] a acc
  simpa [piecesL] using this
theorem pieces_acc (b : Str) : ∀ acc : Str, ∃ h t, piecesL [] b = h :: t ∧ piecesL acc b = (acc ++ h) :: t := by
  suffices H : ∀ (b : Str) (acc acc' : Str), ∃ h t, piecesL acc' b = (acc' ++ h) :: t ∧ piecesL acc b = (acc ++ h) :: t by
    intro acc
    obtain ⟨h, t, h1, h2⟩ := H b acc []
    exact ⟨h, t, by simpa using h1, h2⟩
  intro b
  induction b with
  | nil => intro acc acc'; exact ⟨[], [], by simp [piecesL], by simp [piecesL]⟩
  | cons c r ih =>
    intro acc acc'
    rw [pieces_cons, pieces_cons]
    split
    · exact ⟨[], piecesL [] r, by simp, by simp⟩
    · obtain ⟨h, t, h1, h2⟩ := ih (acc ++ [c]) (acc' ++ [c])
      exact ⟨c :: h, t, by simpa using h1, by simpa using h2⟩
theorem words_blank (a b : Str) : wordsL ((a ++ [32]) ++ b) = wordsL a ++ wordsL b := by
  unfold wordsL
  rw [List.append_assoc, pieces_open, pieces_end a]
  have e : piecesL (openP [] a).2 ([32] ++ b) = (openP [] a).2 :: piecesL [] b := by
    show piecesL _ (32 :: b) = _
    rw [pieces_cons, if_pos rfl]
  rw [e]
  simp [List.filter_append, List.filter_cons]
  split <;> simp
theorem words_count (a b : Str) : (wordsL (a ++ b)).length = (wordsL a ++ wordsL b).length ∨ ((wordsL (a ++ b)).length + 1 = (wordsL a ++ wordsL b).length ∧ 0 < (wordsL a).length ∧ 0 < (wordsL b).length) := by
  obtain ⟨h, t, h1, h2⟩ := pieces_acc b (openP [] a).2
  unfold wordsL
  rw [pieces_open, pieces_end a, h1, h2]
  by_cases e1 : (openP [] a).2 = []
  · left
    simp [e1, List.filter_append, List.filter_cons]
  · by_cases e2 : h = []
    · left
      simp [e1, e2, List.filter_append, List.filter_cons]
    · right
      simp [e1, e2, List.filter_append, List.filter_cons]
      omega
theorem words_len (s : Str) : (wordsL s).length ≤ s.length + 1 := Nat.le_trans (List.length_filter_le _ _) (pieces_len s [])
theorem lt_ok {α : Type} {n : Int} {A B : α} (h : n < 1000000000000) : cnd (ilt n 4611686018427387904) A B = A := cnd_t (decide_eq_true (by omega))
theorem lt_ok16 {α : Type} {n : Int} {A B : α} (h : n < 1000000000000) : cnd (ilt n 140737488355329) A B = A := cnd_t (decide_eq_true (by omega))
open Classical in
/-- The number whose word this is. -/
noncomputable def canon (s : Str) : Option Nat := if h : ∃ v, decDigits v = s then some (Classical.choose h) else none
theorem canon_dig (v : Nat) : canon (decDigits v) = some v := by
  have h : ∃ u, decDigits u = decDigits v := ⟨v, rfl⟩
  unfold canon
  rw [dif_pos h]
  exact congrArg some (dig_inj _ _ (Classical.choose_spec h))
theorem canon_no {s : Str} (h : ∀ v, decDigits v ≠ s) : canon s = none := by
  unfold canon
  rw [dif_neg (fun ⟨v, e⟩ => h v e)]
theorem canon_some {s : Str} {v : Nat} (h : canon s = some v) : decDigits v = s := by
  unfold canon at h
  split at h
  · rename_i hh
    cases h
    exact Classical.choose_spec hh
  · cases h
/-- What a number's text says. -/
noncomputable def numL (s : Str) : Int × Bool := match canon s with
  | some v => if v ≤ 1073741824 then ((v : Int), true) else (0, false)
  | none => (0, false)
theorem number_any {s : Str} {v : Nat} (hs : s.length ≤ 1000000) (h : Lib.atoiAll s = .ok (v : Int)) : numberF s = some (if v ≤ 1073741824 ∧ decDigits v = s then ((v : Int), true) else (0, false)) := by
  by_cases hv : v < 1000000000000000000
  · exact number_ok hs h hv
  · unfold numberF
    have h1 : atoiOk s = true := by unfold atoiOk; rw [h]
    have h2 : atoiV s = v := by unfold atoiV; rw [h]
    rw [cnd_t (b := ile (ilen s) 140737488355328) (decide_eq_true (by rw [ilen_eq]; omega)), cnd_t h1, h2, cnd_f (b := ilt (v : Int) 0) (decide_eq_false (by omega)), cnd_t (b := ilt 1073741824 (v : Int)) (decide_eq_true (by omega)), if_neg (by omega)]
theorem number_spec (s : Str) (hs : s.length ≤ 1000000) : numberF s = some (numL s) := by
  unfold numL
  cases hc : canon s with
  | some v =>
    have e := canon_some hc
    subst e
    by_cases hv : v ≤ 1073741824
    · rw [number_any hs (atoi_digits v (by omega))]
      simp [hv]
    · by_cases hb : v < 1000000000000000000
      · rw [number_any hs (atoi_digits v hb)]
        simp [hv]
      · cases hm : Lib.atoiAll (decDigits v) with
        | ok w =>
          by_cases hw : w < 0
          · rw [number_neg hs hm hw]
            simp [hv]
          · obtain ⟨u, rfl⟩ := Int.eq_ofNat_of_zero_le (by omega : 0 ≤ w)
            rw [number_any hs hm]
            by_cases e : u ≤ 1073741824 ∧ decDigits u = decDigits v
            · have := dig_inj _ _ e.2
              omega
            · rw [if_neg e]
              simp [hv]
        | _ =>
          rw [number_no hs (by rw [hm]; intro v h; cases h)]
          simp [hv]
  | none =>
    have hn : ∀ v, decDigits v ≠ s := fun v e => by
      rw [← e, canon_dig] at hc
      cases hc
    cases hm : Lib.atoiAll s with
    | ok w =>
      by_cases hw : w < 0
      · rw [number_neg hs hm hw]
      · obtain ⟨u, rfl⟩ := Int.eq_ofNat_of_zero_le (by omega : 0 ≤ w)
        rw [number_any hs hm, if_neg (fun e => hn _ e.2)]
    | _ => rw [number_no hs (by rw [hm]; intro v h; cases h)]
/-! The document's own reading. -/
theorem dig_mem (u : Nat) : ∀ c ∈ decDigits u, 48 ≤ c.toNat ∧ c.toNat ≤ 57 := by
  induction u using Nat.strongRecOn with
  | _ u ih =>
    intro c hc
    rw [dig_big] at hc
    split at hc
    · simp at hc
      subst hc
      simp
      omega
    · rw [List.mem_append] at hc
      rcases hc with hc | hc
      · exact ih (u / 10) (by omega) c hc
      · simp at hc
        subst hc
        simp
        omega
theorem dig_zero (u : Nat) : ∀ r, decDigits u = 48 :: r → r = [] := by
  induction u using Nat.strongRecOn with
  | _ u ih =>
    intro r hr
    rw [dig_big] at hr
    split at hr
    · simpa using (congrArg List.tail hr).symm
    · obtain ⟨c, t, e, _⟩ := digits_head (u / 10)
      rw [e] at hr
      simp only [List.cons_append, List.cons.injEq] at hr
      obtain ⟨rfl, h2⟩ := hr
      have h3 := ih (u / 10) (by omega) t e
      subst h3
      have h4 : decDigits (u / 10) = decDigits 0 := by rw [e, dig_big 0]; rfl
      have := dig_inj _ _ h4
      omega
theorem dig_step (n d : Nat) (hn : 0 < n) (hd : d < 10) : decDigits (10 * n + d) = decDigits n ++ [UInt8.ofNat (48 + d)] := by
  rw [dig_big (10 * n + d), if_neg (by omega), show (10 * n + d) / 10 = n by omega, show (10 * n + d) % 10 = d by omega]
theorem dig_len10 (n k : Nat) (h : (decDigits n).length ≤ k) : n < 10 ^ k := by
  induction n using Nat.strongRecOn generalizing k with
  | _ n ih =>
    rw [dig_big] at h
    split at h
    · simp at h
      have : 10 ^ 1 ≤ 10 ^ k := Nat.pow_le_pow_right (by omega) h
      omega
    · simp at h
      cases k with
      | zero => omega
      | succ k =>
        have := ih (n / 10) (by omega) k (by omega)
        rw [Nat.pow_succ]
        omega
theorem u8_dig (c : UInt8) (h0 : 48 ≤ c.toNat) (h1 : c.toNat ≤ 57) : UInt8.ofNat (48 + (c.toNat - 48)) = c := by
  rw [show 48 + (c.toNat - 48) = c.toNat by omega]
  simp
theorem rnumber_loop (s : Str) (hs : s.length ≤ 10) (h0 : 0 < s.length) : iter rnumber.lr5.T bigL (((s, (0, (0, ()))), ())) = match canon s with
    | some v => some (.inr (((v : Int), ()), ()))
    | none => some (.inl ((0, (false, ())), ())) := by
  rw [iter_big (fun x => (x.1.1.length - x.1.2.2.1).toNat) (fun x => (0 : Int) ≤ x.1.2.2.1 ∧ (x.1.2.2.1 : Int) ≤ (x.1.1.length : Int) ∧ 0 < x.1.1.length ∧ x.1.1.length ≤ 10 ∧ ∃ n : Nat, x.1.2.1 = (n : Int) ∧ (((x.1.2.2.1 : Int) = 0 ∧ n = 0) ∨ decDigits n = x.1.1.take x.1.2.2.1.toNat))
    (fun x => match canon x.1.1 with
    | some v => some (.inr (((v : Int), ()), ()))
    | none => some (.inl ((0, (false, ())), ()))) ?_ ⟨Int.le_refl _, by simp, h0, hs, 0, rfl, .inl ⟨rfl, rfl⟩⟩ (by simp; omega)]
  rintro ⟨⟨m, k, i, _⟩, _⟩ rec ⟨i0, i1, m0, m1, n, rfl, hn⟩ hr
  simp only at i0 i1 m0 m1 hn ⊢
  unfold rnumber.lr5.T
  obtain ⟨j, rfl⟩ := Int.eq_ofNat_of_zero_le i0
  by_cases hi : j < m.length
  · simp only [lget_in i0 (show (j : Int) < m.length by omega), Int.toNat_natCast, obind, Option.bind_some]
    rw [cnd_t (b := ilt (j : Int) (ilen m)) (decide_eq_true (by rw [ilen_eq]; omega))]
    have hu : u8i m[j] = (m[j].toNat : Int) := rfl
    rw [hu]
    by_cases c0 : m[j].toNat < 48
    · rw [cnd_t (b := ilt (m[j].toNat : Int) 48) (decide_eq_true (by omega)), canon_no (fun v e => by
        have := dig_mem v m[j] (by rw [e]; exact List.getElem_mem _)
        omega)]
    · rw [cnd_f (b := ilt (m[j].toNat : Int) 48) (decide_eq_false (by omega))]
      by_cases c1 : 57 < m[j].toNat
      · rw [cnd_t (b := ilt 57 (m[j].toNat : Int)) (decide_eq_true (by omega)), canon_no (fun v e => by
          have := dig_mem v m[j] (by rw [e]; exact List.getElem_mem _)
          omega)]
      · rw [cnd_f (b := ilt 57 (m[j].toNat : Int)) (decide_eq_false (by omega))]
        have htake : m.take (j + 1) = m.take j ++ [m[j]] := by rw [List.take_append_getElem hi]
        by_cases z : 0 < j ∧ n = 0
        · obtain ⟨z1, rfl⟩ := z
          rw [cnd_t (b := ilt 0 (j : Int)) (decide_eq_true (by omega)), cnd_t (b := ieq ((0 : Nat) : Int) 0) (decide_eq_true (by omega)), canon_no (fun v e => by
            have h1 : decDigits 0 = m.take j := by
              rcases hn with hn | hn
              · omega
              · simpa using hn
            rw [dig_big 0] at h1
            have h2 : m = 48 :: m.drop 1 := by
              cases m with
              | nil => simp at m0
              | cons c r =>
                cases j with
                | zero => omega
                | succ j =>
                  simp only [List.take_succ_cons] at h1
                  have := (List.cons.inj h1).1
                  simp
                  exact this.symm
            have h3 := dig_zero v (m.drop 1) (e.trans h2)
            have h4 := congrArg List.length h3
            simp at h4
            omega)]
        · have hb : n < 10 ^ 10 := by
            rcases hn with hn | hn
            · omega
            · exact dig_len10 n 10 (by rw [hn]; simp; omega)
          have hb' : n < 10000000000 := by simpa using hb
          have w1 : wrap .i64 (imul 10 (n : Int)) = 10 * (n : Int) := wrap_in (by show _ ≤ 10 * (n : Int); omega) (by show 10 * (n : Int) ≤ _; omega)
          have w2 : wrap .i64 (m[j].toNat : Int) = (m[j].toNat : Int) := wrap_in (by omega) (by omega)
          have w3 : wrap .i64 (iadd (10 * (n : Int)) (m[j].toNat : Int)) = 10 * (n : Int) + m[j].toNat := wrap_in (by show _ ≤ 10 * (n : Int) + (m[j].toNat : Int); omega) (by show 10 * (n : Int) + (m[j].toNat : Int) ≤ _; omega)
          have w4 : wrap .i64 (isub (10 * (n : Int) + m[j].toNat) 48) = ((10 * n + (m[j].toNat - 48) : Nat) : Int) := by
            rw [show isub (10 * (n : Int) + m[j].toNat) 48 = ((10 * n + (m[j].toNat - 48) : Nat) : Int) by show 10 * (n : Int) + m[j].toNat - 48 = _; omega]
            exact wrap_in (by omega) (by omega)
          have w5 : wrap .i64 (iadd (j : Int) 1) = ((j + 1 : Nat) : Int) := wrap_in (n := (j : Int) + 1) (by omega) (by omega)
          have hnext := hr ((m, (((10 * n + (m[j].toNat - 48) : Nat) : Int), (((j + 1 : Nat) : Int), ()))), ()) ⟨by simp; omega, by simp; omega, m0, m1, _, rfl, .inr (by
            have e8 := u8_dig m[j] (by omega) (by omega)
            show decDigits (10 * n + (m[j].toNat - 48)) = m.take (((j + 1 : Nat) : Int)).toNat
            rw [Int.toNat_natCast, htake]
            by_cases hz : n = 0
            · subst hz
              have hj : j = 0 := by omega
              subst hj
              rw [dig_big, if_pos (by omega), show 10 * 0 + (m[0].toNat - 48) = m[0].toNat - 48 by omega, e8]
              rfl
            · rw [dig_step n _ (by omega) (by omega), e8]
              rcases hn with hn | hn
              · omega
              · rw [hn]; simp)⟩ (by simp; omega)
          rw [w1, w2, w3, w4, w5, hnext]
          by_cases z1 : 0 < j
          · rw [cnd_t (b := ilt 0 (j : Int)) (decide_eq_true (by omega)), cnd_f (b := ieq (n : Int) 0) (decide_eq_false (by omega))]
          · rw [cnd_f (b := ilt 0 (j : Int)) (decide_eq_false (by omega))]
  · rw [cnd_f (b := ilt (j : Int) (ilen m)) (decide_eq_false (by rw [ilen_eq]; omega))]
    have e : decDigits n = m := by
      rcases hn with hn | hn
      · omega
      · rw [hn, Int.toNat_natCast, List.take_of_length_le (by omega)]
    rw [← e, canon_dig]
theorem rnumber_spec (s : Str) : rnumberF s = some (numL s) := by
  unfold rnumberF numL
  by_cases h0 : s.length = 0
  · rw [cnd_t (b := ieq (ilen s) 0) (decide_eq_true (by rw [ilen_eq]; omega)), canon_no (fun v e => by
      obtain ⟨c, r, e', _⟩ := digits_head v
      rw [← e, e'] at h0
      simp at h0)]
  · rw [cnd_f (b := ieq (ilen s) 0) (decide_eq_false (by rw [ilen_eq]; omega))]
    by_cases h1 : 10 < s.length
    · rw [cnd_t (b := ilt 10 (ilen s)) (decide_eq_true (by rw [ilen_eq]; omega))]
      cases hc : canon s with
      | none => rfl
      | some v =>
        have e := canon_some hc
        have h2 : ¬ v ≤ 1073741824 := fun h => by
          have h3 := nDigits_le v 9 (by omega)
          rw [← Lib.decDigits_length, e] at h3
          omega
        simp [h2]
    · rw [cnd_f (b := ilt 10 (ilen s)) (decide_eq_false (by rw [ilen_eq]; omega)), rnumber_loop s (by omega) (by omega)]
      cases hc : canon s with
      | none => rfl
      | some v =>
        show (cnd (ilt 1073741824 (v : Int)) _ _) = _
        by_cases h2 : v ≤ 1073741824
        · rw [cnd_f (b := ilt 1073741824 (v : Int)) (decide_eq_false (by omega))]
          simp [h2]
        · rw [cnd_t (b := ilt 1073741824 (v : Int)) (decide_eq_true (by omega))]
          simp [h2]
theorem irem_nat (x y : Nat) : irem (x : Int) (y : Int) = ((x % y : Nat) : Int) := rfl
theorem numL_word {s : Str} (h : (numL s).2 = true) : ∃ v : Nat, v ≤ 1073741824 ∧ s = decDigits v ∧ (numL s).1 = (v : Int) := by
  unfold numL at h ⊢
  cases hc : canon s with
  | none => rw [hc] at h; cases h
  | some v =>
    rw [hc] at h
    by_cases hv : v ≤ 1073741824
    · exact ⟨v, hv, (canon_some hc).symm, by simp [hv]⟩
    · simp [hv] at h
theorem numL_dig (v : Nat) (hv : v ≤ 1073741824) : numL (decDigits v) = ((v : Int), true) := by
  unfold numL
  rw [canon_dig]
  simp [hv]
theorem words_sp (r : Str) : wordsL (32 :: r) = wordsL r := by
  unfold wordsL
  rw [pieces_cons, if_pos rfl]
  simp
theorem open_word : ∀ (w acc : Str), (∀ c ∈ w, c ≠ 32) → openP acc w = ([], acc ++ w)
  | [], acc, _ => by simp [openP]
  | c :: r, acc, h => by
    unfold openP
    rw [if_neg (h c (by simp)), open_word r _ (fun d hd => h d (List.mem_cons_of_mem _ hd))]
    simp
theorem words_word (w rest : Str) (h0 : w ≠ []) (h : ∀ c ∈ w, c ≠ 32) (hr : rest = [] ∨ ∃ r, rest = 32 :: r) : wordsL (w ++ rest) = w :: wordsL rest := by
  have e : piecesL [] (w ++ rest) = piecesL w rest := by
    rw [pieces_open, open_word w [] h]
    rfl
  rcases hr with rfl | ⟨r, rfl⟩
  · unfold wordsL
    rw [e]
    simp [piecesL, h0]
  · rw [words_sp]
    unfold wordsL
    rw [e, pieces_cons, if_pos rfl]
    simp [h0]
theorem rcut_inner (s : Str) (i : Int) (out : List Str) (k : Nat) (hs : s.length ≤ 1000000) (hk : k ≤ s.length) : iter rcut.lr7.T bigL (((s, (i, ((k : Int), ()))), (out, ()))) =
    some (((s, (i, (((k + ((s.drop k).takeWhile (· ≠ 32)).length : Nat) : Int), ()))), (out, ()))) := by
  rw [iter_big (fun x => (x.1.1.length - x.1.2.2.1).toNat) (fun x => (0 : Int) ≤ x.1.2.2.1 ∧ x.1.1.length ≤ 1000000)
    (fun x => some (((x.1.1, (x.1.2.1, ((((x.1.2.2.1 : Int).toNat + ((x.1.1.drop (x.1.2.2.1 : Int).toNat).takeWhile (· ≠ 32)).length : Nat) : Int), ()))), (x.2.1, ())))) ?_ ⟨by show (0 : Int) ≤ (k : Int); omega, hs⟩ (by simp; omega)]
  · simp only [Int.toNat_natCast]
  · rintro ⟨⟨m, a, i, _⟩, o, _⟩ rec ⟨h0, h1⟩ hr
    simp only at h0 h1 ⊢
    unfold rcut.lr7.T
    obtain ⟨j, rfl⟩ := Int.eq_ofNat_of_zero_le h0
    simp only [Int.toNat_natCast]
    by_cases hi : j < m.length
    · simp only [lget_in h0 (show (j : Int) < m.length by omega), Int.toNat_natCast, obind, Option.bind_some]
      have hu : u8i m[j] = (m[j].toNat : Int) := rfl
      have hw : wrap .i64 (iadd (j : Int) 1) = ((j + 1 : Nat) : Int) := wrap_in (n := (j : Int) + 1) (by omega) (by omega)
      have hn := hr ((m, a, ((j + 1 : Nat) : Int), ()), o, ()) ⟨by show (0 : Int) ≤ ((j + 1 : Nat) : Int); omega, h1⟩ (by simp; omega)
      simp only [Int.toNat_natCast] at hn
      rw [hu, hw, hn, cnd_t (b := ilt (j : Int) (ilen m)) (decide_eq_true (by rw [ilen_eq]; omega)), List.drop_eq_getElem_cons hi]
      by_cases c : m[j] = 32
      · rw [cnd_f (b := bnot (ieq (m[j].toNat : Int) 32)) (by rw [c]; rfl)]
        simp [c]
      · have c' : ¬ m[j].toNat = 32 := fun e => c (by apply UInt8.toNat_inj.1; simpa using e)
        rw [cnd_t (b := bnot (ieq (m[j].toNat : Int) 32)) (by simp; omega)]
        simp only [List.takeWhile_cons, c, ne_eq, not_false_eq_true, decide_true, if_true, List.length_cons]
        congr 5
        omega
    · rw [cnd_f (b := ilt (j : Int) (ilen m)) (decide_eq_false (by rw [ilen_eq]; omega)), List.drop_eq_nil_of_le (by omega)]
      rfl
theorem drop_while (l : Str) : l.dropWhile (· ≠ 32) = [] ∨ ∃ r, l.dropWhile (· ≠ 32) = 32 :: r := by
  induction l with
  | nil => exact .inl rfl
  | cons c r ih =>
    by_cases h : c = 32
    · right
      subst h
      exact ⟨r, by simp⟩
    · simp only [List.dropWhile_cons, h, ne_eq, not_false_eq_true, decide_true, if_true]
      exact ih
theorem take_while (l : Str) : ∀ d ∈ l.takeWhile (· ≠ 32), d ≠ 32 := by
  induction l with
  | nil => intro d hd; cases hd
  | cons c r ih =>
    intro d hd
    by_cases h : c = 32
    · simp [h] at hd
    · simp only [List.takeWhile_cons, h, ne_eq, not_false_eq_true, decide_true, if_true] at hd
      rcases List.mem_cons.1 hd with rfl | hd
      · exact h
      · exact ih d hd
theorem rcut_eq (s : Str) (hs : s.length ≤ 1000000) : rcutF s = some (wordsL s) := by
  unfold rcutF
  rw [iter_big (fun x => (x.1.1.length - x.1.2.1).toNat) (fun x => (0 : Int) ≤ x.1.2.1 ∧ (x.1.2.1 : Int) ≤ (x.1.1.length : Int) ∧ x.1.1.length ≤ 1000000 ∧ (x.2.1.length : Int) ≤ x.1.2.1)
    (fun x => some ((), (x.2.1 ++ wordsL (x.1.1.drop (x.1.2.1 : Int).toNat), ()))) ?_ ⟨Int.le_refl _, by simp, hs, by simp⟩ (by simp; omega)]
  · rw [obind_some]
    simp
  · rintro ⟨⟨m, i, _⟩, o, _⟩ rec ⟨h0, h1, h2, h3⟩ hr
    simp only at h0 h1 h2 h3 ⊢
    unfold rcut.lr3.T
    obtain ⟨j, rfl⟩ := Int.eq_ofNat_of_zero_le h0
    simp only [Int.toNat_natCast]
    by_cases hi : j < m.length
    · simp only [lget_in h0 (show (j : Int) < m.length by omega), Int.toNat_natCast]
      rw [obind_some, cnd_t (b := ilt (j : Int) (ilen m)) (decide_eq_true (by rw [ilen_eq]; omega))]
      have hu : u8i m[j] = (m[j].toNat : Int) := rfl
      rw [hu]
      by_cases c : m[j] = 32
      · have hw : wrap .i64 (iadd (j : Int) 1) = ((j + 1 : Nat) : Int) := wrap_in (n := (j : Int) + 1) (by omega) (by omega)
        have hn := hr ((m, ((j + 1 : Nat) : Int), ()), o, ()) ⟨by show (0 : Int) ≤ ((j + 1 : Nat) : Int); omega, by show ((j + 1 : Nat) : Int) ≤ (m.length : Int); omega, h2, by show (o.length : Int) ≤ ((j + 1 : Nat) : Int); omega⟩ (by simp; omega)
        simp only [Int.toNat_natCast] at hn
        rw [cnd_t (b := ieq (m[j].toNat : Int) 32) (by rw [c]; rfl), hw, hn, List.drop_eq_getElem_cons hi, c, words_sp]
      · have c' : ¬ m[j].toNat = 32 := fun e => c (by apply UInt8.toNat_inj.1; simpa using e)
        rw [cnd_f (b := ieq (m[j].toNat : Int) 32) (decide_eq_false (by omega)), rcut_inner m (j : Int) o j h2 (by omega), obind_some]
        obtain ⟨tw, htw⟩ : ∃ tw, (m.drop j).takeWhile (· ≠ 32) = tw := ⟨_, rfl⟩
        obtain ⟨dw, hdw⟩ : ∃ dw, (m.drop j).dropWhile (· ≠ 32) = dw := ⟨_, rfl⟩
        have hsplit : m.drop j = tw ++ dw := by rw [← htw, ← hdw, List.takeWhile_append_dropWhile]
        have hlen : tw.length + dw.length = m.length - j := by
          have := congrArg List.length hsplit
          simp at this
          omega
        have hne : tw ≠ [] := by
          rw [← htw, List.drop_eq_getElem_cons hi]
          simp only [List.takeWhile_cons, c, ne_eq, not_false_eq_true, decide_true, if_true]
          exact List.cons_ne_nil _ _
        have hpos : 0 < tw.length := List.length_pos_iff.2 hne
        have hall : ∀ d ∈ tw, d ≠ 32 := fun d hd => by
          rw [← htw] at hd
          exact take_while _ d hd
        have hdr := drop_while (m.drop j)
        rw [hdw] at hdr
        rw [htw]
        have hword : ldrop (ltake m ((j + tw.length : Nat) : Int)) (j : Int) = tw := by
          show (m.take ((j + tw.length : Nat) : Int).toNat).drop ((j : Int)).toNat = tw
          rw [Int.toNat_natCast, Int.toNat_natCast, List.drop_take, hsplit, show j + tw.length - j = tw.length by omega, List.take_left]
        have hrest : m.drop (j + tw.length) = dw := by
          rw [← List.drop_drop, hsplit, List.drop_left]
        have hn := hr ((m, ((j + tw.length : Nat) : Int), ()), lapp o [tw], ()) ⟨by show (0 : Int) ≤ ((j + tw.length : Nat) : Int); omega, by show ((j + tw.length : Nat) : Int) ≤ (m.length : Int); omega, h2, by show ((o ++ [tw]).length : Int) ≤ ((j + tw.length : Nat) : Int); rw [List.length_append]; simp; omega⟩ (by simp; omega)
        simp only [Int.toNat_natCast] at hn
        have p1 : imul (iadd (ilen o) 1) 16 < 1000000000000 := by
          rw [ilen_eq]
          show ((o.length : Int) + 1) * 16 < 1000000000000
          omega
        show cnd (ile 0 (j : Int)) (cnd (ile (j : Int) ((j + tw.length : Nat) : Int)) (cnd (ile ((j + tw.length : Nat) : Int) (ilen m)) (cnd (ilt (imul (iadd (ilen o) 1) 16) 140737488355329) (rec ((m, (((j + tw.length : Nat) : Int), ())), (lapp o ([ldrop (ltake m ((j + tw.length : Nat) : Int)) (j : Int)]), ()))) none) none) none) none = _
        rw [cnd_t (b := ile 0 (j : Int)) (decide_eq_true (by omega)), cnd_t (b := ile (j : Int) ((j + tw.length : Nat) : Int)) (decide_eq_true (by omega)), cnd_t (b := ile ((j + tw.length : Nat) : Int) (ilen m)) (decide_eq_true (by rw [ilen_eq]; omega)), lt_ok16 p1, hword, hn, hrest, hsplit, words_word tw dw hne hall hdr]
        simp
    · rw [cnd_f (b := ilt (j : Int) (ilen m)) (decide_eq_false (by rw [ilen_eq]; omega)), List.drop_eq_nil_of_le (by omega)]
      simp [wordsL, piecesL]
def Plain (w : Str) : Prop := w ≠ [] ∧ ∀ c ∈ w, c ≠ 32
theorem pieces_plain (s : Str) : ∀ acc : Str, (∀ c ∈ acc, c ≠ 32) → ∀ w ∈ piecesL acc s, ∀ c ∈ w, c ≠ 32 := by
  induction s with
  | nil =>
    intro acc h w hw
    simp [piecesL] at hw
    subst hw
    exact h
  | cons c r ih =>
    intro acc h w hw
    rw [pieces_cons] at hw
    split at hw
    · rcases List.mem_cons.1 hw with rfl | hw
      · exact h
      · exact ih [] (by simp) w hw
    · rename_i hc
      exact ih (acc ++ [c]) (fun d hd => by
        rcases List.mem_append.1 hd with hd | hd
        · exact h d hd
        · simp at hd
          subst hd
          exact hc) w hw
theorem words_plain (s : Str) : ∀ w ∈ wordsL s, Plain w := by
  intro w hw
  unfold wordsL at hw
  obtain ⟨h1, h2⟩ := List.mem_filter.1 hw
  exact ⟨by simpa using h2, pieces_plain s [] (by simp) w h1⟩
theorem words_nil : wordsL [] = [] := rfl
theorem words_join : ∀ l : List Str, (∀ w ∈ l, Plain w) → wordsL (Lib.join l [32]) = l
  | [], _ => rfl
  | [w], h => by
    have hw := h w (by simp)
    rw [Lib.join_one]
    have := words_word w [] hw.1 hw.2 (.inl rfl)
    simpa [words_nil] using this
  | w :: v :: r, h => by
    have hw := h w (by simp)
    have e : Lib.join (w :: v :: r) [32] = w ++ (32 :: Lib.join (v :: r) [32]) := by simp [Lib.join, List.intercalate]
    rw [e, words_word w _ hw.1 hw.2 (.inr ⟨_, rfl⟩), words_sp, words_join (v :: r) (fun x hx => h x (List.mem_cons_of_mem _ hx))]
theorem join_len (B : Nat) : ∀ l : List Str, (∀ w ∈ l, w.length ≤ B) → (Lib.join l [32]).length ≤ l.length * (B + 1)
  | [], _ => by simp [Lib.join_nil]
  | [w], h => by
    have := h w (by simp)
    rw [Lib.join_one]
    simp
    omega
  | w :: v :: r, h => by
    have hw := h w (by simp)
    have e : Lib.join (w :: v :: r) [32] = w ++ (32 :: Lib.join (v :: r) [32]) := by simp [Lib.join, List.intercalate]
    have ih := join_len B (v :: r) (fun x hx => h x (List.mem_cons_of_mem _ hx))
    rw [e]
    simp only [List.length_append, List.length_cons] at ih ⊢
    have : (r.length + 1 + 1) * (B + 1) = (r.length + 1) * (B + 1) + (B + 1) := Nat.succ_mul _ _
    omega
/-- All words' bytes, and one more for each. -/
def sumL : List Str → Nat
  | [] => 0
  | w :: r => w.length + 1 + sumL r
theorem join_sum : ∀ l : List Str, (Lib.join l [32]).length ≤ sumL l
  | [] => by simp [Lib.join_nil]
  | [w] => by rw [Lib.join_one]; simp [sumL]
  | w :: v :: r => by
    have e : Lib.join (w :: v :: r) [32] = w ++ (32 :: Lib.join (v :: r) [32]) := by simp [Lib.join, List.intercalate]
    have ih := join_sum (v :: r)
    rw [e]
    simp only [List.length_append, List.length_cons, sumL] at ih ⊢
    omega
/-- What is still to be written behind what is there. -/
def tailJ : List Str → Str
  | [] => []
  | w :: r => 32 :: w ++ tailJ r
theorem join_tail (w : Str) : ∀ r : List Str, Lib.join (w :: r) [32] = w ++ tailJ r := by
  intro r
  induction r generalizing w with
  | nil => rw [Lib.join_one]; simp [tailJ]
  | cons v r ih =>
    have e : Lib.join (w :: v :: r) [32] = w ++ (32 :: Lib.join (v :: r) [32]) := by simp [Lib.join, List.intercalate]
    rw [e, ih v]
    simp [tailJ]
theorem lt_okj {α : Type} {n : Int} {A B : α} (h : n < 1000000000000000) : cnd (ilt n 4611686018427387904) A B = A := cnd_t (decide_eq_true (by omega))
theorem rjoin_eq (l : List Str) (hl : l.length ≤ 1000000) (hs : sumL l ≤ 140737488355328) : rjoinF l = some (Lib.join l [32]) := by
  unfold rjoinF
  rw [iter_big (fun x => (x.1.1.length - x.1.2.2.1).toNat) (fun x => (0 : Int) ≤ x.1.2.2.1 ∧ x.1.1.length ≤ 1000000 ∧ x.1.2.1.length + sumL (x.1.1.drop (x.1.2.2.1 : Int).toNat) ≤ 140737488355328 ∧ ((x.1.2.2.1 : Int) = 0 → x.1.2.1 = []))
    (fun x => some (((if (x.1.2.2.1 : Int) = 0 then Lib.join x.1.1 [32] else x.1.2.1 ++ tailJ (x.1.1.drop (x.1.2.2.1 : Int).toNat)), ()), ())) ?_ ⟨Int.le_refl _, hl, by simpa using hs, fun _ => rfl⟩ (by simp; omega)]
  · rw [obind_some]
    simp
  · rintro ⟨⟨m, t, i, _⟩, _⟩ rec ⟨h0, h1, h2, h3⟩ hr
    simp only at h0 h1 h2 h3 ⊢
    unfold rjoin.lr3.T
    obtain ⟨j, rfl⟩ := Int.eq_ofNat_of_zero_le h0
    simp only [Int.toNat_natCast] at h2 ⊢
    by_cases hi : j < m.length
    · have hg1 := lget_in (l := m) h0 (show (j : Int) < m.length by omega)
      simp only [Int.toNat_natCast] at hg1
      have hw1 : wrap .i64 (iadd (j : Int) 1) = ((j + 1 : Nat) : Int) := wrap_in (n := (j : Int) + 1) (by omega) (by omega)
      rw [List.drop_eq_getElem_cons hi] at h2
      simp only [sumL] at h2
      rw [cnd_t (b := ilt (j : Int) (ilen m)) (decide_eq_true (by rw [ilen_eq]; omega))]
      by_cases z : j = 0
      · subst z
        have ht := h3 rfl
        subst ht
        have hn := hr ((m, m[0], ((1 : Nat) : Int), ()), ()) ⟨by show (0 : Int) ≤ ((1 : Nat) : Int); omega, h1, by show m[0].length + sumL (m.drop 1) ≤ _; simp only [List.length_nil, Nat.zero_add] at h2; omega, fun h => by simp at h⟩ (by simp; omega)
        have q1 : iadd (ilen ([] : Str)) (ilen m[0]) < 1000000000000000 := by
          rw [ilen_eq, ilen_eq]
          show ((0 : Nat) : Int) + (m[0].length : Int) < _
          omega
        rw [cnd_f (b := ilt 0 ((0 : Nat) : Int)) (decide_eq_false (by omega)), hg1, obind_some, lt_okj q1, hw1, show lapp ([] : Str) m[0] = m[0] from rfl, hn]
        have hm : m = m[0] :: m.drop 1 := by
          have := List.drop_eq_getElem_cons hi
          simpa using this
        have hj := join_tail m[0] (m.drop 1)
        rw [← hm] at hj
        simp [hj]
      · have q0 : iadd (ilen t) 1 < 1000000000000000 := by
          rw [ilen_eq]
          show (t.length : Int) + 1 < _
          omega
        have q1 : iadd (ilen (lapp t [32])) (ilen m[j]) < 1000000000000000 := by
          have e : (lapp t [32]).length = t.length + 1 := by simp
          rw [ilen_eq, ilen_eq, e]
          show ((t.length + 1 : Nat) : Int) + (m[j].length : Int) < 1000000000000000
          omega
        have hn := hr ((m, t ++ [32] ++ m[j], ((j + 1 : Nat) : Int), ()), ()) ⟨by show (0 : Int) ≤ ((j + 1 : Nat) : Int); omega, h1, by show (t ++ [32] ++ m[j]).length + sumL (m.drop (((j + 1 : Nat) : Int)).toNat) ≤ _; rw [Int.toNat_natCast, List.length_append, List.length_append, show ([32] : Str).length = 1 from rfl]; omega, fun h => by have h' : ((j + 1 : Nat) : Int) = 0 := h; omega⟩ (by simp; omega)
        rw [cnd_t (b := ilt 0 (j : Int)) (decide_eq_true (by omega)), lt_okj q0, hg1, obind_some, lt_okj q1, hw1, show lapp (lapp t [32]) m[j] = t ++ [32] ++ m[j] from rfl, hn]
        rw [if_neg (show ¬ ((j + 1 : Nat) : Int) = 0 by omega), if_neg (show ¬ (j : Int) = 0 by omega), List.drop_eq_getElem_cons hi, Int.toNat_natCast]
        simp only [tailJ, List.append_assoc, List.cons_append, List.nil_append]
    · rw [cnd_f (b := ilt (j : Int) (ilen m)) (decide_eq_false (by rw [ilen_eq]; omega)), List.drop_eq_nil_of_le (by omega)]
      by_cases z : j = 0
      · subst z
        have hm : m = [] := List.eq_nil_of_length_eq_zero (by omega)
        subst hm
        simp [h3, Lib.join_nil]
      · rw [if_neg (by omega)]
        simp [tailJ]
end Go.Sx
