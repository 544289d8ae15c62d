/-
  Locks: what their functions tell, in plain words.
-/
import Derived.Test.YtolhcodhgegaaaaSxPr1
set_option linter.unusedVariables false
set_option linter.unusedSimpArgs false
namespace Go.Sx
open Go
theorem with_eq (l : List Int) (p n : Int) (h0 : 0 ≤ p) (h1 : p < l.length) : (l.take p.toNat ++ [n]) ++ l.drop (p + 1).toNat = l.set p.toNat n := by
  rw [List.set_eq_take_append_cons_drop, if_pos (by omega), show (p + 1).toNat = p.toNat + 1 by omega]
  simp
theorem take_spec (l : List Int) (p w : Int) (hl : l.length ≤ 1000000) : takeF l p w = some (if isAt l p ∧ gi l p = 0 then (l.set p.toNat (wrap .i64 (w + 1)), true) else (l, false)) := by
  unfold takeF
  rw [holder_spec]
  by_cases hp : isAt l p
  · obtain ⟨h0, h1⟩ := hp
    have hp : isAt l p := ⟨h0, h1⟩
    have hw : wrap .i64 (p + 1) = p + 1 := wrap_in (by omega) (by omega)
    by_cases hz : gi l p = 0
    · have e := with_eq l p (wrap .i64 (w + 1)) h0 h1
      have b1 : (((l.take p.toNat).length : Int) + 1) * 8 < 140737488355329 := by simp; omega
      have b2 : ((((l.take p.toNat ++ [wrap .i64 (w + 1)]).length : Nat) : Int) + ((l.drop (p + 1).toNat).length : Nat)) * 8 < 140737488355329 := by simp; omega
      simp only [hp, hz, true_and, ne_eq, not_true_eq_false, if_false, if_true, obind, Option.bind_some, cnd, cond_false, ile, ilt, ieq, ilen_eq, ltake, ldrop, lapp, iadd, imul, hw, decide_eq_true h0, decide_eq_true h1, decide_eq_true (show p ≤ l.length by omega), decide_eq_true (show 0 ≤ p + 1 by omega), decide_eq_true (show p + 1 ≤ l.length by omega), decide_eq_true b1, decide_eq_true b2, bnot, Bool.not_true, cond_true, e]
      simp
    · simp [hp, hz]
  · by_cases h0 : 0 ≤ p
    · have h1 : ¬ p < l.length := fun h => hp ⟨h0, h⟩
      simp [hp, h0, h1]
    · simp [hp, h0]
theorem give_spec (l : List Int) (p w : Int) (hl : l.length ≤ 1000000) : giveF l p w = some (if isAt l p ∧ gi l p ≠ 0 ∧ wrap .i64 (gi l p - 1) = w then (l.set p.toNat 0, true) else (l, false)) := by
  unfold giveF
  rw [holder_spec]
  by_cases hp : isAt l p
  · obtain ⟨h0, h1⟩ := hp
    have hp : isAt l p := ⟨h0, h1⟩
    have hw : wrap .i64 (p + 1) = p + 1 := wrap_in (by omega) (by omega)
    by_cases hz : gi l p = 0
    · simp [hp, hz]
    · by_cases he : wrap .i64 (gi l p - 1) = w
      · have e := with_eq l p 0 h0 h1
        have b1 : (((l.take p.toNat).length : Int) + 1) * 8 < 140737488355329 := by simp; omega
        have b2 : ((((l.take p.toNat ++ [(0 : Int)]).length : Nat) : Int) + ((l.drop (p + 1).toNat).length : Nat)) * 8 < 140737488355329 := by simp; omega
        simp only [hp, hz, he, true_and, and_self, ne_eq, not_false_eq_true, if_true, obind, Option.bind_some, cnd, cond_false, ile, ilt, ieq, ilen_eq, ltake, ldrop, lapp, iadd, imul, hw, decide_eq_true h0, decide_eq_true h1, decide_eq_true (show p ≤ l.length by omega), decide_eq_true (show 0 ≤ p + 1 by omega), decide_eq_true (show p + 1 ≤ l.length by omega), decide_eq_true b1, decide_eq_true b2, bnot, Bool.not_true, cond_true, e]
        simp
      · simp [hp, hz, he]
  · simp [hp]
/-- The places of a number. -/
def placesL (n : Int) : Int → List Int → List Int
  | _, [] => []
  | i, a :: r => if a = n then i :: placesL n (i + 1) r else placesL n (i + 1) r
theorem placesL_len (n : Int) : ∀ (l : List Int) (i : Int), (placesL n i l).length ≤ l.length
  | [], _ => by simp [placesL]
  | a :: r, i => by
    have := placesL_len n r (i + 1)
    unfold placesL
    split <;> simp <;> omega
theorem held_spec (l : List Int) (w : Int) (hl : l.length ≤ 1000000) : heldF l w = some (placesL (wrap .i64 (w + 1)) 0 l) := by
  unfold heldF
  rw [iter_big (fun x => (x.1.2.1.length - x.1.2.2.2.1).toNat) (fun x => x.1.2.2.1 = (x.1.2.1.length : Int) ∧ 0 ≤ x.1.2.2.2.1 ∧ x.2.1.length + (x.1.2.1.length - x.1.2.2.2.1).toNat ≤ 1000000 ∧ x.1.2.1.length ≤ 1000000)
    (fun x => some ((), (x.2.1 ++ placesL (wrap .i64 (x.1.1 + 1)) x.1.2.2.2.1 (x.1.2.1.drop x.1.2.2.2.1.toNat), ()))) ?_ ⟨ilen_eq l, Int.le_refl _, by simp; omega, hl⟩ (by simp; omega)]
  · simp
  · rintro ⟨⟨w, m, n, i, _⟩, out, _⟩ rec ⟨h1, h2, h3, h4⟩ hr
    simp only at h1 h2 h3 h4 ⊢
    subst h1
    unfold held.l27r3.T
    by_cases hi : i < m.length
    · have hw : wrap .i64 (i + 1) = i + 1 := wrap_in (by omega) (by omega)
      have hb : ((out.length : Int) + 1) * 8 < 140737488355329 := by omega
      rw [drop_step h2 hi]
      by_cases e : gi m i = wrap .i64 (w + 1)
      · have hn := hr ((w, m, m.length, i + 1, ()), out ++ [i], ()) ⟨rfl, by simp; omega, by simp; omega, h4⟩ (by simp; omega)
        simp [hi, lget_ints h2 hi, e, hb, hw, hn, placesL]
      · have hn := hr ((w, m, m.length, i + 1, ()), out, ()) ⟨rfl, by simp; omega, by simp; omega, h4⟩ (by simp; omega)
        simp [hi, lget_ints h2 hi, e, hw, hn, placesL]
    · rw [drop_end hi]
      simp [hi, placesL]
theorem rheld_spec (l : List Int) (w : Int) (hl : l.length ≤ 1000000) : rheldF l w = some (placesL (wrap .i64 (w + 1)) 0 l) := by
  unfold rheldF
  rw [iter_big (fun x => (x.1.1.length - x.1.2.2.1).toNat) (fun x => 0 ≤ x.1.2.2.1 ∧ x.2.1.length + (x.1.1.length - x.1.2.2.1).toNat ≤ 1000000 ∧ x.1.1.length ≤ 1000000)
    (fun x => some ((), (x.2.1 ++ placesL (wrap .i64 (x.1.2.1 + 1)) x.1.2.2.1 (x.1.1.drop x.1.2.2.1.toNat), ()))) ?_ ⟨Int.le_refl _, by simp; omega, hl⟩ (by simp; omega)]
  · simp
  · rintro ⟨⟨m, w, i, _⟩, out, _⟩ rec ⟨h2, h3, h4⟩ hr
    simp only at h2 h3 h4 ⊢
    unfold rheld.l28r3.T
    by_cases hi : i < m.length
    · have hw : wrap .i64 (i + 1) = i + 1 := wrap_in (by omega) (by omega)
      have hb : ((out.length : Int) + 1) * 8 < 140737488355329 := by omega
      rw [drop_step h2 hi]
      by_cases e : gi m i = wrap .i64 (w + 1)
      · have hn := hr ((m, w, i + 1, ()), out ++ [i], ()) ⟨by simp; omega, by simp; omega, h4⟩ (by simp; omega)
        simp [hi, lget_ints h2 hi, e, hb, hw, hn, placesL]
      · have hn := hr ((m, w, i + 1, ()), out, ()) ⟨by simp; omega, by simp; omega, h4⟩ (by simp; omega)
        simp [hi, lget_ints h2 hi, e, hw, hn, placesL]
    · rw [drop_end hi]
      simp [hi, placesL]
theorem mmay_spec (l : List Int) (hl : l.length ≤ 1000000000000000000) : mmayF l = some (decide ((∀ n ∈ l, 0 ≤ n) ∧ l.length ≤ 100)) := by
  unfold mmayF
  rw [iter_big (fun x => (x.1.1.length - x.1.2.1).toNat) (fun x => 0 ≤ x.1.2.1 ∧ x.1.1.length ≤ 1000000000000000000)
    (fun x => if ∀ n ∈ x.1.1.drop x.1.2.1.toNat, 0 ≤ n then some (.inr ((x.1.1, ()), ())) else some (.inl ((false, ()), ()))) ?_ ⟨Int.le_refl _, hl⟩ (by simp; omega)]
  · simp only [Int.toNat_zero, List.drop_zero]
    by_cases h : ∀ n ∈ l, 0 ≤ n
    · rw [if_pos h]
      show some (ile (ilen l) 100) = _
      rw [ilen_eq]
      exact congrArg some (decide_eq_decide.2 ⟨fun hh => ⟨h, by omega⟩, fun hh => by have := hh.2; omega⟩)
    · rw [if_neg h]
      show some false = _
      exact congrArg some (decide_eq_false fun hh => h hh.1).symm
  · rintro ⟨⟨m, i, _⟩, _⟩ rec ⟨h0, h1⟩ hr
    simp only at h0 h1 ⊢
    unfold mmay.l21r2.T
    by_cases hi : i < m.length
    · have hw : wrap .i64 (i + 1) = i + 1 := wrap_in (by omega) (by omega)
      have hn := hr ((m, i + 1, ()), ()) ⟨by simp; omega, h1⟩ (by simp; omega)
      simp only [lget_ints h0 hi, drop_step h0 hi, List.forall_mem_cons]
      by_cases a : gi m i < 0
      · simp [hi, a, show ¬ 0 ≤ gi m i by omega]
      · simp [hi, a, hw, hn, show 0 ≤ gi m i by omega]
    · rw [drop_end hi]
      simp [hi]
theorem rtake_spec (l : List Int) (p w : Int) (hl : l.length ≤ 1000000) : rtakeF l p w = some (if isAt l p ∧ gi l p = 0 then (l.set p.toNat (wrap .i64 (w + 1)), true) else (l, false)) := by
  unfold rtakeF
  by_cases h0 : 0 ≤ p
  · by_cases h1 : p < l.length
    · have hp : isAt l p := ⟨h0, h1⟩
      by_cases e : gi l p = 0 <;> simp [hp, e, lget_ints h0 h1, rset_spec l p _ h0 hl, show ¬ p < 0 by omega, show ¬ (l.length : Int) ≤ p by omega]
    · have hp : ¬ isAt l p := fun h => h1 h.2
      simp [hp, show ¬ p < 0 by omega, show (l.length : Int) ≤ p by omega]
  · have hp : ¬ isAt l p := fun h => h0 h.1
    simp [hp, show p < 0 by omega]
theorem rgive_spec (l : List Int) (p w : Int) (hl : l.length ≤ 1000000) : rgiveF l p w = some (if isAt l p ∧ gi l p = wrap .i64 (w + 1) then (l.set p.toNat 0, true) else (l, false)) := by
  unfold rgiveF
  by_cases h0 : 0 ≤ p
  · by_cases h1 : p < l.length
    · have hp : isAt l p := ⟨h0, h1⟩
      by_cases e : gi l p = wrap .i64 (w + 1) <;> simp [hp, e, lget_ints h0 h1, rset_spec l p _ h0 hl, show ¬ p < 0 by omega, show ¬ (l.length : Int) ≤ p by omega]
    · have hp : ¬ isAt l p := fun h => h1 h.2
      simp [hp, show ¬ p < 0 by omega, show (l.length : Int) ≤ p by omega]
  · have hp : ¬ isAt l p := fun h => h0 h.1
    simp [hp, show p < 0 by omega]
theorem mawake_spec : mawakeF = some true := by
  have w5 : wrap .i64 (4 + 1) = 5 := wrap_in (by omega) (by omega)
  have w4 : wrap .i64 4 = 4 := wrap_in (by omega) (by omega)
  have h1 : takeF [0, 0] 1 4 = some ([0, 5], true) := by rw [take_spec _ _ _ (by simp), w5]; simp [isAt, gi]
  have h2 : takeF [0, 5] 1 4 = some ([0, 5], false) := by rw [take_spec _ _ _ (by simp), w5]; simp [isAt, gi]
  have h3 : giveF [0, 5] 1 3 = some ([0, 5], false) := by rw [give_spec _ _ _ (by simp)]; simp [isAt, gi, w4]
  have h4 : giveF [0, 5] 1 4 = some ([0, 0], true) := by rw [give_spec _ _ _ (by simp)]; simp [isAt, gi, w4]
  have h5 : holderF [0, 5] 1 = some (4, true) := by rw [holder_spec]; simp [isAt, gi, w4]
  have h6 : holderF [0, 5] 0 = some (0, false) := by rw [holder_spec]; simp [isAt, gi]
  have h7 : heldF [0, 5] 4 = some [1] := by rw [held_spec _ _ (by simp), w5]; simp [placesL]
  unfold mawakeF
  simp only [h1, h2, h3, h4, h5, h6, h7, obind, Option.bind_some, ints_spec [0, 5] [0, 5] (by simp), ints_spec [0, 0] [0, 0] (by simp), ints_spec [1] [1] (by simp)]
  simp
theorem give_same (l : List Int) (p w : Int) (hl : l.length ≤ 1000000) (hb : ∀ n ∈ l, 0 ≤ n ∧ n ≤ 9223372036854775807) (hw : 0 ≤ w ∧ w ≤ 1073741824) : rgiveF l p w = giveF l p w := by
  rw [give_spec l p w hl, rgive_spec l p w hl]
  have hww : wrap .i64 (w + 1) = w + 1 := wrap_in (by omega) (by omega)
  have e : (isAt l p ∧ gi l p = wrap .i64 (w + 1)) ↔ (isAt l p ∧ gi l p ≠ 0 ∧ wrap .i64 (gi l p - 1) = w) := by
    rw [hww]
    constructor
    · rintro ⟨h1, h2⟩
      have := hb _ (gi_mem h1.1 h1.2)
      exact ⟨h1, by omega, by rw [wrap_in (by omega) (by omega)]; omega⟩
    · rintro ⟨h1, h2, h3⟩
      have := hb _ (gi_mem h1.1 h1.2)
      rw [wrap_in (by omega) (by omega)] at h3
      exact ⟨h1, by omega⟩
  simp only [e]
theorem may_false {l : List Int} (h : ¬ ((∀ n ∈ l, 0 ≤ n) ∧ l.length ≤ 100)) : decide ((∀ n ∈ l, 0 ≤ n) ∧ l.length ≤ 100) = false := decide_eq_false h
theorem set_cases (l m : List Int) (c : Prop) [Decidable c] (h : m.length = l.length) : (if c then (m, true) else (l, false)).1.length = l.length := by split <;> simp [h]
theorem mutexDoes_true (l : List Int) (p w : Int) (hl : l.length ≤ 1000000000000000000) (hb : ∀ n ∈ l, -9223372036854775808 ≤ n ∧ n ≤ 9223372036854775807) (hw : 0 ≤ w ∧ w ≤ 4294967295) : mutexDoesF l p w = some true := by
  unfold mutexDoesF
  simp only [mawake_spec, mmay_spec l hl, obind, Option.bind_some, bnot, Bool.not_true, cnd, cond_false, cond_true]
  by_cases hm : (∀ n ∈ l, 0 ≤ n) ∧ l.length ≤ 100
  · by_cases hw2 : 1073741824 < w
    · simp only [decide_eq_true hm, Bool.not_true, cond_false, ilt, decide_eq_true hw2, cond_true]
    · have hww : wrap .i64 w = w := wrap_in (by omega) (by omega)
      have h100 : l.length ≤ 1000000 := by have := hm.2; omega
      have hb2 : ∀ n ∈ l, 0 ≤ n ∧ n ≤ 9223372036854775807 := fun n hn => ⟨hm.1 n hn, (hb n hn).2⟩
      simp only [decide_eq_true hm, Bool.not_true, cond_false, ilt, decide_eq_false hw2, hww, rtake_spec l p w h100, ← take_spec l p w h100, give_same l p w h100 hb2 ⟨hw.1, by omega⟩, held_spec l w h100, rheld_spec l w h100, holder_spec l p, Option.bind_some, ints_spec _ _ (show (placesL (wrap .i64 (w + 1)) 0 l).length ≤ 1000000000 by have := placesL_len (wrap .i64 (w + 1)) l 0; omega)]
      rw [give_spec l p w h100, take_spec l p w h100]
      simp only [Option.bind_some]
      have l1 : ((if isAt l p ∧ gi l p = 0 then (l.set p.toNat (wrap .i64 (w + 1)), true) else (l, false)).1).length ≤ 1000000000 := by rw [set_cases _ _ _ (by simp)]; omega
      have l2 : ((if isAt l p ∧ gi l p ≠ 0 ∧ wrap .i64 (gi l p - 1) = w then (l.set p.toNat 0, true) else (l, false)).1).length ≤ 1000000000 := by rw [set_cases _ _ _ (by simp)]; omega
      simp only [ints_spec _ _ l1, ints_spec _ _ l2, decide_true, cond_true, Option.bind_some]
      by_cases h0 : 0 ≤ p
      · by_cases h1 : p < l.length
        · have hp : isAt l p := ⟨h0, h1⟩
          have hg := hb2 _ (gi_mem h0 h1)
          simp only [lget_ints h0 h1]
          by_cases hz : gi l p = 0
          · simp [hp, h0, h1, hz]
          · simp [hp, h0, h1, hz, show 0 < gi l p by omega, show ¬ gi l p ≤ 0 by omega]
        · have hp : ¬ isAt l p := fun h => h1 h.2
          simp [hp, h0, h1]
      · have hp : ¬ isAt l p := fun h => h0 h.1
        simp [hp, h0]
  · simp only [may_false hm, Bool.not_false, cond_true]
theorem mutexDoes_ok (xs : Lf [.sl (.int .i64), .int .i64, .int .u32]) (h : ∀ m, wfA m _ xs) : mutexDoesF xs.1 xs.2.1 xs.2.2.1 = some true := by
  obtain ⟨h1, h⟩ := wfA_cons h
  obtain ⟨h2, h⟩ := wfA_cons h
  obtain ⟨h3, h⟩ := wfA_cons h
  exact mutexDoes_true _ _ _ (by have := wf_len64 h1; omega) (fun n hn => wf_i64 (wf_mem h1 hn)) (wf_u32 h3)
end Go.Sx
