/-
  Answers: words, sames (printed by wip/dev/mkRc.py).
-/
import Derived.Test.YtcpildkbkjeijaaDoorRyTb
set_option linter.unusedVariables false
set_option linter.unusedSimpArgs false
namespace Go.Sx
open Go Go.Proofs
open Go.Lib (decDigits nDigits)
def numsP (l : List Int) : List Str := l.map Lib.itoa
theorem rword_fit {n : Int} (h : FitC n) : rwordF n = some (Lib.itoa n) := by
  obtain ⟨h0, h1⟩ := h
  unfold rwordF rwOf
  rw [cnd_t (b := ile 0 n) (decide_eq_true h0), cnd_t (b := ilt n _) (decide_eq_true (by omega))]
theorem word_fit {n : Int} (h : FitC n) : wordF n = some (Lib.itoa n) := by
  obtain ⟨h0, h1⟩ := h
  obtain ⟨u, rfl⟩ := Int.eq_ofNat_of_zero_le h0
  rw [word_nat u (by omega), itoa_nat]
theorem numL_itoa {n : Int} (h : FitC n) : numL (Lib.itoa n) = (n, true) := by
  obtain ⟨h0, h1⟩ := h
  obtain ⟨u, rfl⟩ := Int.eq_ofNat_of_zero_le h0
  rw [itoa_nat, numL_dig u (by omega)]
theorem numL_inv {s : Str} (h : (numL s).2 = true) : FitC (numL s).1 ∧ s = Lib.itoa (numL s).1 := by
  obtain ⟨v, hv, hs, e⟩ := numL_word h
  rw [e]
  exact ⟨⟨by omega, by omega⟩, by rw [itoa_nat]; exact hs⟩
theorem numL_no {s : Str} (h : (numL s).2 = false) : (numL s).1 = 0 := by
  unfold numL at h ⊢
  split at h
  · split at h
    · cases h
    · rename_i a b
      simp [b]
  · rfl
theorem lt16_len {α β : Type} {l : List β} {n : Int} {A B : α} (h : (l.length : Int) + n ≤ 1000000000) : cnd (ilt (imul (iadd (ilen l) n) 16) 140737488355329) A B = A := lt_ok16 (by
  rw [ilen_eq]
  show ((l.length : Int) + n) * 16 < 1000000000000
  omega)
theorem lt8_len {α β : Type} {l : List β} {n : Int} {A B : α} (h : (l.length : Int) + n ≤ 1000000000) : cnd (ilt (imul (iadd (ilen l) n) 8) 140737488355329) A B = A := lt_ok16 (by
  rw [ilen_eq]
  show ((l.length : Int) + n) * 8 < 1000000000000
  omega)
theorem itoa_plain {n : Int} (h : FitC n) : Plain (Lib.itoa n) ∧ (Lib.itoa n).length ≤ 18 := by
  obtain ⟨h0, h1⟩ := h
  obtain ⟨u, rfl⟩ := Int.eq_ofNat_of_zero_le h0
  rw [itoa_nat]
  refine ⟨⟨?_, fun c hc e => ?_⟩, dig_len u (by omega)⟩
  · obtain ⟨c, r, e, _⟩ := digits_head u
    rw [e]
    simp
  · have := dig_mem u c hc
    rw [e] at this
    simp at this
theorem name_plain {k : Int} (h : 1 ≤ k ∧ k ≤ 10) : Plain (nameP k) ∧ (nameP k).length ≤ 18 := by
  obtain rfl | rfl | rfl | rfl | rfl | rfl | rfl | rfl | rfl | rfl := ten h.1 h.2 <;> exact ⟨by unfold Plain; decide, by decide⟩
theorem lit_plain {w : Str} (h : w ≠ [] ∧ w.all (fun c => !decide (c = 32)) = true ∧ w.length ≤ 18) : Plain w ∧ w.length ≤ 18 :=
  ⟨⟨h.1, fun c hc e => by
    have := List.all_eq_true.1 h.2.1 c hc
    rw [e] at this
    simp at this⟩, h.2.2⟩
theorem nums_plain {l : List Int} (h : ∀ n ∈ l, FitC n) : ∀ w ∈ numsP l, Plain w ∧ w.length ≤ 18 := by
  intro w hw
  obtain ⟨n, hn, rfl⟩ := List.mem_map.1 hw
  exact itoa_plain (h n hn)
/-! Sames. -/
theorem seen_eq (x y : Seen) : band (ieq x.item y.item) (band (ieq x.at_.kind y.at_.kind) (ieq x.at_.id y.at_.id)) = decide (x = y) := by
  obtain ⟨a, b, c⟩ := x
  obtain ⟨d, e, f⟩ := y
  simp

theorem eequal_eq (a b : List Seen) (ha : a.length ≤ 1000000000) : eequalF a b = some (decide (a = b)) := by
  unfold eequalF
  by_cases hl : a.length = b.length
  · rw [iter_big (fun x => (x.1.1.length - x.1.2.2.2.1).toNat) (fun x => (0 : Int) ≤ x.1.2.2.2.1 ∧ x.1.1.length ≤ 1000000000 ∧ x.1.1.length = x.1.2.1.length ∧ x.1.2.2.1 = (x.1.1.length : Int))
      (fun x => if x.1.1.drop (x.1.2.2.2.1 : Int).toNat = x.1.2.1.drop (x.1.2.2.2.1 : Int).toNat then some (.inr ((), ())) else some (.inl ((false, ()), ()))) ?_ ⟨Int.le_refl _, ha, hl, ilen_eq _⟩ (by simp; omega)]
    · by_cases h : a = b
      · simp [h]
      · simp [hl, h]
    · rintro ⟨⟨m, k, n, i, _⟩, _⟩ rec ⟨h0, h1, h2, h3⟩ hr
      simp only at h0 h1 h2 h3 ⊢
      subst h3
      unfold eequal.lr4.T
      by_cases hi : i < m.length
      · have hw : wrap .i64 (i + 1) = i + 1 := wrap_in (by omega) (by omega)
        have hn := hr ((m, k, (m.length : Int), i + 1, ()), ()) ⟨by show (0 : Int) ≤ i + 1; omega, h1, h2, rfl⟩ (by simp; omega)
        have hi' : i < k.length := by omega
        have hb : i.toNat < m.length := by omega
        have hb' : i.toNat < k.length := by omega
        simp only [lget_in h0 hi, lget_in h0 hi', seen_eq]
        rw [List.drop_eq_getElem_cons hb, List.drop_eq_getElem_cons hb', show i.toNat + 1 = (i + 1).toNat by omega]
        by_cases e : m[i.toNat] = k[i.toNat]
        · simp [hi, e, hw, hn]
        · simp [hi, e]
      · rw [drop_end hi, drop_end (l := k) (by omega)]
        simp [hi]
  · have h : a ≠ b := fun e => hl (by rw [e])
    rw [cnd_t (b := bnot (ieq (ilen a) (ilen b))) (by simp; omega), decide_eq_false h]
theorem r5seens_eq (a b : List Seen) (ha : a.length ≤ 1000000000) : r5seensF a b = some (decide (a = b)) := by
  unfold r5seensF
  by_cases hl : a.length = b.length
  · rw [iter_big (fun x => (x.1.1.length - x.1.2.2.1).toNat) (fun x => (0 : Int) ≤ x.1.2.2.1 ∧ x.1.1.length ≤ 1000000000 ∧ x.1.1.length = x.1.2.1.length)
      (fun x => if x.1.1.drop (x.1.2.2.1 : Int).toNat = x.1.2.1.drop (x.1.2.2.1 : Int).toNat then some (.inr ((), ())) else some (.inl ((false, ()), ()))) ?_ ⟨Int.le_refl _, ha, hl⟩ (by simp; omega)]
    · by_cases h : a = b
      · simp [h]
      · simp [hl, h]
    · rintro ⟨⟨m, k, i, _⟩, _⟩ rec ⟨h0, h1, h2⟩ hr
      simp only at h0 h1 h2 ⊢
      unfold r5seens.lr4.T
      by_cases hi : i < m.length
      · have hw : wrap .i64 (i + 1) = i + 1 := wrap_in (by omega) (by omega)
        have hn := hr ((m, k, i + 1, ()), ()) ⟨by show (0 : Int) ≤ i + 1; omega, h1, h2⟩ (by simp; omega)
        have hi' : i < k.length := by omega
        have hb : i.toNat < m.length := by omega
        have hb' : i.toNat < k.length := by omega
        simp only [lget_in h0 hi, lget_in h0 hi', seen_eq]
        rw [List.drop_eq_getElem_cons hb, List.drop_eq_getElem_cons hb', show i.toNat + 1 = (i + 1).toNat by omega]
        by_cases e : m[i.toNat] = k[i.toNat]
        · simp [hi, e, hw, hn]
        · simp [hi, e]
      · rw [drop_end hi, drop_end (l := k) (by omega)]
        simp [hi]
  · have h : a ≠ b := fun e => hl (by rw [e])
    rw [cnd_t (b := bnot (ieq (ilen a) (ilen b))) (by simp; omega), decide_eq_false h]
theorem reply_eq (a b : Reply) : a = b ↔ a.err = b.err ∧ a.kind = b.kind ∧ a.room = b.room ∧ a.coins = b.coins ∧ a.players = b.players ∧ a.items = b.items := by
  cases a; cases b; simp; grind
theorem rsame_eq (a b : Reply) (hp : a.players.length ≤ 1000000000) (hi : a.items.length ≤ 1000000000) : rsameF a b = some (decide (a = b)) := by
  unfold rsameF
  rw [iequal_eq _ _ hp, eequal_eq _ _ hi]
  simp only [obind_some]
  by_cases h : a.err = b.err ∧ a.kind = b.kind ∧ a.room = b.room ∧ a.coins = b.coins
  · obtain ⟨h1, h2, h3, h4⟩ := h
    rw [cnd_t (by simp [h1, h2, h3, h4])]
    by_cases h5 : a.players = b.players
    · rw [cnd_t (decide_eq_true h5)]
      congr 1
      simp [reply_eq, h1, h2, h3, h4, h5]
    · rw [cnd_f (decide_eq_false h5)]
      congr 1
      simp [reply_eq, h5]
  · rw [cnd_f (by
      simp only [Bool.and_eq_false_iff, decide_eq_false_iff_not]
      grind)]
    congr 1
    rw [decide_eq_false]
    rintro rfl
    exact h ⟨rfl, rfl, rfl, rfl⟩
theorem r5same_eq (a b : Reply) (hp : a.players.length ≤ 1000000000) (hi : a.items.length ≤ 1000000000) : r5sameF a b = some (decide (a = b)) := by
  unfold r5sameF
  rw [r3ints_eq _ _ hp, r5seens_eq _ _ hi]
  simp only [obind_some, cnd_and]
  congr 1
  rw [Bool.eq_iff_iff]
  simp [reply_eq]
/-! May. -/
def SeenOK (s : Seen) : Prop := FitC s.item ∧ FitC s.at_.id ∧ 0 ≤ s.at_.kind ∧ s.at_.kind < 3
instance (s : Seen) : Decidable (SeenOK s) := by unfold SeenOK; infer_instance
abbrev errR (e : Int) : Reply := ⟨e, 0, 0, [], [], 0⟩
abbrev zeroR : Reply := ⟨0, 0, 0, [], [], 0⟩
def MayR (r : Reply) : Prop :=
  (0 ≤ r.err ∧ r.err ≤ 13) ∧ (r.err ≠ 0 → r = errR r.err) ∧
  (r.err = 0 → (1 ≤ r.kind ∧ r.kind ≤ 10) ∧ FitC r.room ∧ FitC r.coins ∧ r.players.length ≤ 16 ∧ r.items.length ≤ 16 ∧ (∀ n ∈ r.players, FitC n) ∧ (∀ s ∈ r.items, SeenOK s) ∧
    ((r.kind = 1 ∨ r.kind = 2 ∨ r.kind = 9) ∨ r.room = 0) ∧ (r.kind = 9 ∨ r.players = []) ∧ (9 ≤ r.kind ∨ r.items = []) ∧ (r.kind = 10 ∨ r.coins = 0))
noncomputable instance (r : Reply) : Decidable (MayR r) := Classical.propDecidable _
noncomputable def mayR (r : Reply) : Bool := decide (MayR r)
theorem mayR_t {r : Reply} (h : MayR r) : mayR r = true := by unfold mayR; exact decide_eq_true h
theorem mayR_f {r : Reply} (h : ¬ MayR r) : mayR r = false := by unfold mayR; exact decide_eq_false h
theorem mayR_iff {r : Reply} : mayR r = true ↔ MayR r := by unfold mayR; exact decide_eq_true_iff
abbrev tupR (r : Reply) : Int × (Int × (Int × ((List Int) × ((List Seen) × (Int × Unit))))) := (r.err, (r.kind, (r.room, (r.players, (r.items, (r.coins, ()))))))
theorem rmay_players (r : Reply) (hl : r.players.length ≤ 1000000000) : iter rmay.lslicesIndexFuncr2.T bigL ((r.players, (ilen r.players, (0, ()))), (tupR r, ())) =
    match fb r.players 0 with
      | some k => some (.inl ((k, ()), (tupR r, ())))
      | none => some (.inr ((), (tupR r, ()))) := by
  rw [iter_big (fun x => (x.1.1.length - x.1.2.2.1).toNat) (fun x => (0 : Int) ≤ x.1.2.2.1 ∧ x.1.1.length ≤ 1000000000 ∧ x.1.2.1 = (x.1.1.length : Int))
      (fun x => match fb (x.1.1.drop (x.1.2.2.1 : Int).toNat) x.1.2.2.1 with
        | some k => some (.inl ((k, ()), x.2))
        | none => some (.inr ((), x.2))) ?_ ⟨Int.le_refl _, hl, ilen_eq _⟩ (by simp; omega)]
  · simp only [Int.toNat_zero, List.drop_zero]
  · rintro ⟨⟨m, n, i, _⟩, ⟨a, b, c, d, e, f, _⟩, _⟩ rec ⟨h0, h1, h2⟩ hr
    simp only at h0 h1 h2 ⊢
    subst h2
    unfold rmay.lslicesIndexFuncr2.T
    by_cases hi : i < m.length
    · have hw : wrap .i64 (i + 1) = i + 1 := wrap_in (by omega) (by omega)
      have hn := hr ((m, (m.length : Int), i + 1, ()), ((a, (b, (c, (d, (e, (f, ())))))), ())) ⟨by show (0 : Int) ≤ i + 1; omega, h1, rfl⟩ (by simp; omega)
      have hb : i.toNat < m.length := by omega
      simp only [lget_in h0 hi]
      rw [List.drop_eq_getElem_cons hb, show i.toNat + 1 = (i + 1).toNat by omega, fb]
      by_cases e : FitC m[i.toNat]
      · obtain ⟨e1, e2⟩ := e
        have e3 : ¬ 1073741824 < m[i.toNat] := Int.not_lt.2 e2
        simp [hi, FitC, e1, e2, e3, hw, hn]
      · rw [if_neg e]
        by_cases e1 : 0 ≤ m[i.toNat]
        · have e2 : 1073741824 < m[i.toNat] := Int.lt_of_not_ge fun h => e ⟨e1, h⟩
          simp [hi, e1, e2]
        · simp [hi, e1]
    · rw [drop_end hi]
      simp [hi, fb]
def okL : Bool → List Seen → Bool
  | g, [] => g
  | g, s :: r => okL (g && decide (SeenOK s)) r
theorem okL_f : ∀ l, okL false l = false
  | [] => rfl
  | s :: r => by rw [okL, Bool.false_and, okL_f r]
theorem okL_t : ∀ l g, okL g l = true ↔ g = true ∧ ∀ s ∈ l, SeenOK s
  | [], g => by simp [okL]
  | s :: r, g => by
    rw [okL, okL_t r]
    simp only [Bool.and_eq_true, decide_eq_true_eq, List.mem_cons, forall_eq_or_imp]
    exact ⟨fun h => ⟨h.1.1, h.1.2, h.2⟩, fun h => ⟨⟨h.1, h.2.1⟩, h.2.2⟩⟩
theorem rmay_items (g : Bool) (r : Reply) (hl : r.items.length ≤ 1000000000) : iter rmay.lr3.T bigL ((g, (r.items, (ilen r.items, (0, ())))), (tupR r, ())) = some ((okL g r.items, ()), (tupR r, ())) := by
  rw [iter_big (fun x => (x.1.2.1.length - x.1.2.2.2.1).toNat) (fun x => (0 : Int) ≤ x.1.2.2.2.1 ∧ x.1.2.1.length ≤ 1000000000 ∧ x.1.2.2.1 = (x.1.2.1.length : Int))
      (fun x => some ((okL x.1.1 (x.1.2.1.drop (x.1.2.2.2.1 : Int).toNat), ()), x.2)) ?_ ⟨Int.le_refl _, hl, ilen_eq _⟩ (by simp; omega)]
  · simp only [Int.toNat_zero, List.drop_zero]
  · rintro ⟨⟨g, m, n, i, _⟩, ⟨a, b, c, d, e, f, _⟩, _⟩ rec ⟨h0, h1, h2⟩ hr
    simp only at h0 h1 h2 ⊢
    subst h2
    unfold rmay.lr3.T
    by_cases hi : i < m.length
    · have hw : wrap .i64 (i + 1) = i + 1 := wrap_in (by omega) (by omega)
      have hn := fun g' => hr ((g', m, (m.length : Int), i + 1, ()), ((a, (b, (c, (d, (e, (f, ())))))), ())) ⟨by show (0 : Int) ≤ i + 1; omega, h1, rfl⟩ (by simp; omega)
      have hb : i.toNat < m.length := by omega
      simp only [lget_in h0 hi]
      rw [List.drop_eq_getElem_cons hb, show i.toNat + 1 = (i + 1).toNat by omega, okL]
      rw [cnd_t (b := ilt i (m.length : Int)) (decide_eq_true hi), obind_some]
      simp only [iadd, hw, hn]
      generalize m[i.toNat] = s
      cases g with
      | false => simp
      | true =>
        simp only [SeenOK, FitC, Bool.true_and]
        by_cases e1 : 0 ≤ s.item <;> by_cases e2 : s.item ≤ 1073741824 <;> by_cases e3 : 0 ≤ s.at_.id <;> by_cases e4 : s.at_.id ≤ 1073741824 <;> by_cases e5 : 0 ≤ s.at_.kind <;> by_cases e6 : s.at_.kind < 3 <;> simp [e1, e2, e3, e4, e5, e6]
    · rw [drop_end hi]
      simp [hi, okL]
end Go.Sx
