/-
  Answers: which may be.
-/
import Derived.Test.YtcpildkbkjeijaaDoorRyTc
set_option linter.unusedVariables false
set_option linter.unusedSimpArgs false
namespace Go.Sx
open Go Go.Proofs
open Go.Lib (decDigits nDigits)
theorem r5_players (r : Reply) (k : Int) (hl : r.players.length ≤ 1000000000) : iter r5may.lr9.T bigL ((k, (0, ())), (tupR r, ())) =
    match fb r.players 0 with
      | some _ => some (.inl ((false, ()), ()))
      | none => some (.inr ((k, ()), (tupR r, ()))) := by
  rw [iter_big (fun x => (x.2.1.2.2.2.1.length - x.1.2.1).toNat) (fun x => (0 : Int) ≤ x.1.2.1 ∧ x.2.1.2.2.2.1.length ≤ 1000000000)
      (fun x => match fb (x.2.1.2.2.2.1.drop (x.1.2.1 : Int).toNat) x.1.2.1 with
        | some k => some (.inl ((false, ()), ()))
        | none => some (.inr ((x.1.1, ()), x.2))) ?_ ⟨Int.le_refl _, hl⟩ (by simp; omega)]
  · simp only [Int.toNat_zero, List.drop_zero]
  · rintro ⟨⟨k, i, _⟩, ⟨a, b, c, m, e, f, _⟩, _⟩ rec ⟨h0, h1⟩ hr
    simp only at h0 h1 ⊢
    unfold r5may.lr9.T
    by_cases hi : i < m.length
    · have hw : wrap .i64 (i + 1) = i + 1 := wrap_in (by omega) (by omega)
      have hn := hr ((k, i + 1, ()), ((a, (b, (c, (m, (e, (f, ())))))), ())) ⟨by show (0 : Int) ≤ i + 1; omega, h1⟩ (by simp; omega)
      have hb : i.toNat < m.length := by omega
      simp only [lget_in h0 hi]
      rw [List.drop_eq_getElem_cons hb, show i.toNat + 1 = (i + 1).toNat by omega, fb]
      by_cases e : FitC m[i.toNat]
      · obtain ⟨e1, e2⟩ := e
        have e3 : ¬ 1073741824 < m[i.toNat] := Int.not_lt.2 e2
        simp [hi, FitC, e1, e2, e3, hw, hn]
      · rw [if_neg e]
        by_cases e1 : 0 ≤ m[i.toNat]
        · have e2 : 1073741824 < m[i.toNat] := Int.lt_of_not_ge fun h => e ⟨e1, h⟩
          simp [hi, e1, e2]
        · simp [hi, e1]
    · rw [drop_end hi]
      simp [hi, fb]
theorem r5_items (r : Reply) (k : Int) (hl : r.items.length ≤ 1000000000) : iter r5may.lr14.T bigL ((k, (0, ())), (tupR r, ())) =
    if okL true r.items = true then some (.inr ((k, ()), (tupR r, ()))) else some (.inl ((false, ()), ())) := by
  rw [iter_big (fun x => (x.2.1.2.2.2.2.1.length - x.1.2.1).toNat) (fun x => (0 : Int) ≤ x.1.2.1 ∧ x.2.1.2.2.2.2.1.length ≤ 1000000000)
      (fun x => if okL true (x.2.1.2.2.2.2.1.drop (x.1.2.1 : Int).toNat) = true then some (.inr ((x.1.1, ()), x.2)) else some (.inl ((false, ()), ()))) ?_ ⟨Int.le_refl _, hl⟩ (by simp; omega)]
  · simp only [Int.toNat_zero, List.drop_zero]
  · rintro ⟨⟨k, i, _⟩, ⟨a, b, c, d, m, f, _⟩, _⟩ rec ⟨h0, h1⟩ hr
    simp only at h0 h1 ⊢
    unfold r5may.lr14.T
    by_cases hi : i < m.length
    · have hw : wrap .i64 (i + 1) = i + 1 := wrap_in (by omega) (by omega)
      have hn := hr ((k, i + 1, ()), ((a, (b, (c, (d, (m, (f, ())))))), ())) ⟨by show (0 : Int) ≤ i + 1; omega, h1⟩ (by simp; omega)
      have hb : i.toNat < m.length := by omega
      simp only [lget_in h0 hi]
      rw [List.drop_eq_getElem_cons hb, show i.toNat + 1 = (i + 1).toNat by omega, okL]
      rw [cnd_t (b := ilt i (ilen m)) (decide_eq_true (by rw [ilen_eq]; exact hi)), obind_some]
      simp only [iadd, hw, hn]
      generalize m[i.toNat] = s
      by_cases h : SeenOK s
      · obtain ⟨⟨e1, e2⟩, ⟨e3, e4⟩, e5, e6⟩ := h
        have hk : s.at_.kind = 0 ∨ s.at_.kind = 1 ∨ s.at_.kind = 2 := by omega
        have hs : decide (SeenOK s) = true := decide_eq_true ⟨⟨e1, e2⟩, ⟨e3, e4⟩, e5, e6⟩
        rw [hs]
        rcases hk with hk | hk | hk <;> simp [e1, e2, e3, e4, hk]
      · rw [decide_eq_false h, Bool.and_false, okL_f]
        simp only [SeenOK, FitC] at h
        by_cases e1 : 0 ≤ s.item <;> by_cases e2 : s.item ≤ 1073741824 <;> by_cases e3 : 0 ≤ s.at_.id <;> by_cases e4 : s.at_.id ≤ 1073741824 <;> simp only [e1, e2, e3, e4, decide_true, decide_false, cnd, bnot, ile, ieq, cond_true, cond_false, Bool.not_true, Bool.not_false, reduceCtorEq, if_false, Bool.false_eq_true]
        have q0 : ¬ s.at_.kind = 0 := fun q => h ⟨⟨e1, e2⟩, ⟨e3, e4⟩, by omega, by omega⟩
        have q1 : ¬ s.at_.kind = 1 := fun q => h ⟨⟨e1, e2⟩, ⟨e3, e4⟩, by omega, by omega⟩
        have q2 : ¬ s.at_.kind = 2 := fun q => h ⟨⟨e1, e2⟩, ⟨e3, e4⟩, by omega, by omega⟩
        simp [q0, q1, q2]
    · rw [drop_end hi]
      simp [hi, okL, ilen_eq]
theorem scase_l {α β γ : Type} (x : α) (f : α → γ) (g : β → γ) : scase (.inl x) f g = f x := rfl
theorem scase_r {α β γ : Type} (x : β) (f : α → γ) (g : β → γ) : scase (.inr x) f g = g x := rfl
theorem cnd_it {α : Type} {p : Prop} [Decidable p] {x y : α} : cnd (decide p) x y = if p then x else y := by by_cases h : p <;> simp [h]
theorem bnot_d {p : Prop} [Decidable p] : bnot (decide p) = decide (¬ p) := by simp
theorem len_nil {α : Type} (l : List α) : ilen l = 0 ↔ l = [] := by rw [ilen_eq]; simp
theorem may_out {r : Reply} (h : r.err < 0 ∨ 13 < r.err) : mayR r = false := mayR_f fun m => by have := m.1; omega
theorem may_err {r : Reply} (h : 1 ≤ r.err ∧ r.err ≤ 13) : mayR r = decide (r = errR r.err) := by
  rw [Bool.eq_iff_iff, mayR_iff, decide_eq_true_iff]
  exact ⟨fun m => m.2.1 (by omega), fun e => ⟨by omega, fun _ => e, fun z => by omega⟩⟩
theorem r5may_eq (r : Reply) (hp : r.players.length ≤ 1000000000) (hi : r.items.length ≤ 1000000000) : r5mayF r = some (mayR r) := by
  unfold r5mayF
  by_cases h1 : r.err < 0
  · rw [cnd_t (decide_eq_true h1), may_out (.inl h1)]
  rw [cnd_f (decide_eq_false h1)]
  by_cases h2 : 13 < r.err
  · rw [cnd_t (decide_eq_true h2), may_out (.inr h2)]
  rw [cnd_f (decide_eq_false h2)]
  by_cases h3 : r.err = 0
  rotate_left
  · rw [cnd_t (by simp [h3]), show r5sameF _ _ = _ from r5same_eq r (errR r.err) hp hi, obind_some, may_err (by omega)]
  rw [cnd_f (by simp [h3])]
  have hpl := r5_players r r.kind hp
  have hit := r5_items r r.kind hi
  simp only [tupR] at hpl hit
  rw [hpl]
  cases hf : fb r.players 0 with
  | some k =>
    simp only [obind_some, scase]
    have hno : ¬ MayR r := fun m => by
      have := (fb_all r.players 0).2 (m.2.2 h3).2.2.2.2.2.1
      rw [hf] at this
      cases this
    rw [mayR_f hno]
    simp only [cnd_same]
  | none =>
    have hfit := (fb_all r.players 0).1 hf
    simp only [obind_some, scase, hit]
    by_cases ho : okL true r.items = true
    · have hok := ((okL_t r.items true).1 ho).2
      rw [if_pos ho]
      simp only [obind_some, scase, cnd_it, bnot_d, ilen_eq]
      have key : mayR r = decide ((1 ≤ r.kind ∧ r.kind ≤ 10) ∧ FitC r.room ∧ FitC r.coins ∧ r.players.length ≤ 16 ∧ r.items.length ≤ 16 ∧ ((r.kind = 1 ∨ r.kind = 2 ∨ r.kind = 9) ∨ r.room = 0) ∧ (r.kind = 9 ∨ r.players.length = 0) ∧ (9 ≤ r.kind ∨ r.items.length = 0) ∧ (r.kind = 10 ∨ r.coins = 0)) := by
        rw [Bool.eq_iff_iff, mayR_iff, decide_eq_true_iff]
        simp only [List.length_eq_zero_iff]
        constructor
        · intro m
          obtain ⟨a, b, c, d, e, f, g, h, i, j, k⟩ := m.2.2 h3
          exact ⟨a, b, c, d, e, h, i, j, k⟩
        · rintro ⟨a, b, c, d, e, h, i, j, k⟩
          exact ⟨by omega, fun z => absurd h3 z, fun _ => ⟨a, b, c, d, e, hfit, hok, h, i, j, k⟩⟩
      rw [key]
      clear key hfit hok ho hf hpl hit
      unfold FitC
      obtain ⟨err, kind, room, players, items, coins⟩ := r
      simp only at *
      generalize players.length = np at *
      generalize items.length = ni at *
      have no : ∀ {p : Prop} [Decidable p], ¬ p → some false = some (decide p) := fun h => by rw [decide_eq_false h]
      by_cases a1 : kind < 1
      · rw [if_pos a1]; exact no (by omega)
      rw [if_neg a1]
      by_cases a2 : 10 < kind
      · rw [if_pos a2]; exact no (by omega)
      rw [if_neg a2]
      by_cases a3 : 0 ≤ room
      · rw [if_pos a3]
        by_cases a4 : room ≤ 1073741824
        · rw [if_neg (not_not_intro a4)]
          by_cases a5 : 0 ≤ coins
          · rw [if_pos a5]
            by_cases a6 : coins ≤ 1073741824
            · rw [if_neg (not_not_intro a6)]
              by_cases a7 : 16 < (np : Int)
              · rw [if_pos a7]; exact no (by omega)
              rw [if_neg a7]
              by_cases a8 : 16 < (ni : Int)
              · rw [if_pos a8]; exact no (by omega)
              rw [if_neg a8]
              have b7 : np ≤ 16 := by omega
              have b8 : ni ≤ 16 := by omega
              have e1 : ((np : Int) = 0) = (np = 0) := propext ⟨fun h => by omega, fun h => by omega⟩
              have e2 : ((ni : Int) = 0) = (ni = 0) := propext ⟨fun h => by omega, fun h => by omega⟩
              simp only [e1, e2, a3, a4, a5, a6, b7, b8, true_and, and_self]
              have k1 : 1 ≤ kind := by omega
              have k2 : kind ≤ 10 := by omega
              obtain rfl | rfl | rfl | rfl | rfl | rfl | rfl | rfl | rfl | rfl := ten k1 k2 <;>
                (by_cases c1 : np = 0 <;> by_cases c2 : ni = 0 <;> by_cases c3 : room = 0 <;> by_cases c4 : coins = 0 <;> simp [c1, c2, c3, c4])
            · rw [if_pos a6]; exact no (by omega)
          · rw [if_neg a5]; exact no (by omega)
        · rw [if_pos a4]; exact no (by omega)
      · rw [if_neg a3]; exact no (by omega)
    · have hno : ¬ MayR r := fun m => ho ((okL_t r.items true).2 ⟨rfl, (m.2.2 h3).2.2.2.2.2.2.1⟩)
      rw [mayR_f hno, if_neg ho]
      simp only [obind_some, scase, cnd_same]
end Go.Sx
