/-
  Versions and locks: what their functions tell, in plain words.
-/
import Derived.Test.YtolhcodhgegaaaaSxPl
import Derived.Test.YtolhcodhgegaaaaSxR1
set_option linter.unusedVariables false
set_option linter.unusedSimpArgs false
namespace Go.Sx
open Go
def isAt (l : List Int) (p : Int) : Prop := 0 ≤ p ∧ p < l.length
instance (l : List Int) (p : Int) : Decidable (isAt l p) := by unfold isAt; infer_instance
theorem copy_same (l : List Int) : lapp (ltake l (ilen (lrep (ilen l) (0 : Int)))) (ldrop (lrep (ilen l) (0 : Int)) (ilen l)) = l := by
  simp
theorem up_spec (l : List Int) (p : Int) (hl : l.length ≤ 1000000) : upF l p = some (if isAt l p then (l.set p.toNat (wrap .i64 (gi l p + 1)), true) else (l, false)) := by
  unfold upF isAt
  rw [copy_same]
  by_cases h0 : 0 ≤ p
  · by_cases h1 : p < l.length
    · rw [lget_ints h0 h1]
      simp [h0, h1, show (l.length : Int) * 8 < 281474976710657 by omega]
    · simp [h0, h1]
  · simp [h0]
theorem rd_spec (l : List Int) (p : Int) : rdF l p = some (if isAt l p then (gi l p, true) else (0, false)) := by
  unfold rdF isAt
  by_cases h0 : 0 ≤ p
  · by_cases h1 : p < l.length
    · rw [lget_ints h0 h1]; simp [h0, h1]
    · simp [h0, h1]
  · simp [h0]
theorem holder_spec (l : List Int) (p : Int) : holderF l p = some (if isAt l p ∧ gi l p ≠ 0 then (wrap .i64 (gi l p - 1), true) else (0, false)) := by
  unfold holderF isAt
  by_cases h0 : 0 ≤ p
  · by_cases h1 : p < l.length
    · rw [lget_ints h0 h1]
      by_cases h2 : gi l p = 0
      · simp [h0, h1, h2]
      · simp [h0, h1, h2]
    · simp [h0, h1]
  · simp [h0]
def okVer (n : Int) : Prop := 0 ≤ n ∧ n ≤ 1099511627776
instance (n : Int) : Decidable (okVer n) := by unfold okVer; infer_instance
theorem rmay_loop (l : List Int) (hl : l.length ≤ 1000000000000000000) : iter rmay.l12r2.T bigL (((l, (0, ())), ())) = if ∀ n ∈ l, okVer n then some (.inr ((l, ()), ())) else some (.inl ((false, ()), ())) := by
  rw [iter_big (fun x => (x.1.1.length - x.1.2.1).toNat) (fun x => 0 ≤ x.1.2.1 ∧ x.1.1.length ≤ 1000000000000000000)
    (fun x => if ∀ n ∈ x.1.1.drop x.1.2.1.toNat, okVer n then some (.inr ((x.1.1, ()), ())) else some (.inl ((false, ()), ()))) ?_ ⟨Int.le_refl _, hl⟩ (by simp; omega)]
  · simp
  · rintro ⟨⟨m, i, _⟩, _⟩ rec ⟨h0, h1⟩ hr
    simp only at h0 h1 ⊢
    unfold rmay.l12r2.T
    by_cases hi : i < m.length
    · have hw : wrap .i64 (i + 1) = i + 1 := wrap_in (by omega) (by omega)
      have hn := hr ((m, i + 1, ()), ()) ⟨by simp; omega, h1⟩ (by simp; omega)
      simp only [lget_ints h0 hi, drop_step h0 hi, List.forall_mem_cons]
      unfold okVer at hn ⊢
      by_cases a : gi m i < 0
      · simp [hi, a, show ¬ 0 ≤ gi m i by omega]
      · by_cases b : 1099511627776 < gi m i
        · simp [hi, a, b, show ¬ gi m i ≤ 1099511627776 by omega]
        · simp [hi, a, b, hw, hn, show 0 ≤ gi m i by omega, show gi m i ≤ 1099511627776 by omega]
    · rw [drop_end hi]
      simp [hi]
theorem rmay_spec (l : List Int) (hl : l.length ≤ 1000000000000000000) : rmayF l = some (decide ((∀ n ∈ l, okVer n) ∧ l.length ≤ 100)) := by
  unfold rmayF
  rw [rmay_loop l hl]
  by_cases h : ∀ n ∈ l, okVer n
  · rw [if_pos h]
    show some (ile (ilen l) 100) = _
    rw [ilen_eq]
    exact congrArg some (decide_eq_decide.2 ⟨fun hh => ⟨h, by omega⟩, fun hh => by have := hh.2; omega⟩)
  · rw [if_neg h]
    show some false = _
    exact congrArg some (decide_eq_false fun hh => h hh.1).symm

theorem rset_loop (l : List Int) (p n : Int) (h0 : 0 ≤ p) (hl : l.length ≤ 1000000) : iter rset.l30r3.T bigL (((l, (p, (n, (0, ())))), (([] : List Int), ()))) = some ((), (l.set p.toNat n, ())) := by
  rw [iter_big (fun x => (x.1.1.length - x.1.2.2.2.1).toNat) (fun x => 0 ≤ x.1.2.2.2.1 ∧ 0 ≤ x.1.2.1 ∧ x.2.1.length + (x.1.1.length - x.1.2.2.2.1).toNat ≤ 1000000 ∧ x.1.1.length ≤ 1000000)
    (fun x => some ((), (x.2.1 ++ (x.1.1.set x.1.2.1.toNat x.1.2.2.1).drop x.1.2.2.2.1.toNat, ()))) ?_ ⟨Int.le_refl _, h0, by simp; omega, hl⟩ (by simp; omega)]
  · simp
  · rintro ⟨⟨m, q, k, i, _⟩, out, _⟩ rec ⟨h1, h2, h3, h4⟩ hr
    simp only at h1 h2 h3 h4 ⊢
    unfold rset.l30r3.T
    by_cases hi : i < m.length
    · have hw : wrap .i64 (i + 1) = i + 1 := wrap_in (by omega) (by omega)
      have hb : ((out.length : Int) + 1) * 8 < 140737488355329 := by omega
      have hd := drop_step (l := m.set q.toNat k) h1 (by simpa using hi)
      by_cases e : i = q
      · have hn := hr ((m, q, k, i + 1, ()), out ++ [k], ()) ⟨by simp; omega, h2, by simp; omega, h4⟩ (by simp; omega)
        rw [gi_set h2 h1 (by omega), if_pos e] at hd
        subst e
        simp [hi, hd, hb, hw, hn]
      · have hn := hr ((m, q, k, i + 1, ()), out ++ [gi m i], ()) ⟨by simp; omega, h2, by simp; omega, h4⟩ (by simp; omega)
        by_cases hq : q < m.length
        · rw [gi_set h2 h1 hq, if_neg e] at hd
          simp [hi, e, hd, hb, hw, hn, lget_ints h1 hi]
        · have e2 : m.set q.toNat k = m := List.set_eq_of_length_le (by omega)
          rw [e2] at hd hn ⊢
          simp [hi, e, hd, hb, hw, hn, lget_ints h1 hi]
    · rw [drop_end (by simpa using hi)]
      simp [hi]
theorem rset_spec (l : List Int) (p n : Int) (h0 : 0 ≤ p) (hl : l.length ≤ 1000000) : rsetF l p n = some (l.set p.toNat n) := by
  unfold rsetF
  rw [rset_loop l p n h0 hl]
  rfl
theorem rup_spec (l : List Int) (p : Int) (hl : l.length ≤ 1000000) : rupF l p = some (if isAt l p then (l.set p.toNat (wrap .i64 (gi l p + 1)), true) else (l, false)) := by
  unfold rupF isAt
  by_cases h0 : 0 ≤ p
  · by_cases h1 : p < l.length
    · simp [h0, h1, lget_ints h0 h1, rset_spec l p _ h0 hl, show ¬ p < 0 by omega, show ¬ (l.length : Int) ≤ p by omega]
    · simp [h0, h1, show ¬ p < 0 by omega, show (l.length : Int) ≤ p by omega]
  · simp [h0, show p < 0 by omega]
theorem odd_spec (v : Int) : oddF v = some (decide (¬ v.tmod 2 = 0)) := by simp [oddF]
theorem calm_spec (a b : Int) : calmF a b = some (decide (a = b ∧ b.tmod 2 = 0)) := by
  unfold calmF
  by_cases h : a = b <;> simp [h]
theorem rcalm_spec (a b : Int) : rcalmF a b = some (decide (a = b ∧ b.tmod 2 = 0)) := by
  unfold rcalmF
  by_cases h : a = b <;> simp [h]
theorem ints_loop (l w : List Int) (hl : l.length ≤ 1000000000) (hw : w.length = l.length) : iter ints.l16r4.T bigL (((l, (w, (0, ()))), ())) = if l = w then some (.inr ((), ())) else some (.inl ((false, ()), ())) := by
  rw [iter_big (fun x => (x.1.1.length - x.1.2.2.1).toNat) (fun x => 0 ≤ x.1.2.2.1 ∧ x.1.1.length ≤ 1000000000 ∧ x.1.2.1.length = x.1.1.length)
    (fun x => if x.1.1.drop x.1.2.2.1.toNat = x.1.2.1.drop x.1.2.2.1.toNat then some (.inr ((), ())) else some (.inl ((false, ()), ()))) ?_ ⟨Int.le_refl _, hl, hw⟩ (by simp; omega)]
  · simp
  · rintro ⟨⟨m, q, i, _⟩, _⟩ rec ⟨h1, h2, h3⟩ hr
    simp only at h1 h2 h3 ⊢
    unfold ints.l16r4.T
    by_cases hi : i < m.length
    · have hw : wrap .i64 (i + 1) = i + 1 := wrap_in (by omega) (by omega)
      have hn := hr ((m, q, i + 1, ()), ()) ⟨by simp; omega, h2, h3⟩ (by simp; omega)
      simp only [drop_step h1 hi, drop_step (l := q) h1 (by omega), List.cons.injEq]
      by_cases e : gi m i = gi q i
      · simp [hi, lget_ints h1 hi, lget_ints (l := q) h1 (by omega), e, hw, hn]
      · simp [hi, lget_ints h1 hi, lget_ints (l := q) h1 (by omega), e]
    · rw [drop_end hi, drop_end (l := q) (by omega)]
      simp [hi]
theorem ints_spec (l w : List Int) (hl : l.length ≤ 1000000000) : intsF l w = some (decide (l = w)) := by
  unfold intsF
  by_cases h : w.length = l.length
  · rw [ints_loop l w hl h]
    by_cases e : l = w
    · simp [e]
    · simp [e, h]
  · have : ¬ l = w := fun e => h (by rw [e])
    simp [this, show ¬ (l.length : Int) = w.length by omega]

/-! The laws of versions. -/
theorem vawake_spec : vawakeF = some true := by
  have h1 : upF [0, 4] 0 = some ([1, 4], true) := by rw [up_spec _ _ (by simp)]; simp [isAt, gi, wrap_in]
  have h2 : upF [1, 4] 0 = some ([2, 4], true) := by rw [up_spec _ _ (by simp)]; simp [isAt, gi, wrap_in]
  have h3 : upF [1, 4] 2 = some ([1, 4], false) := by rw [up_spec _ _ (by simp)]; simp [isAt]
  have h4 : rdF [2, 4] 0 = some (2, true) := by rw [rd_spec]; simp [isAt, gi]
  have h5 : rdF [2, 4] (-1) = some (0, false) := by rw [rd_spec]; simp [isAt]
  unfold vawakeF
  simp only [h1, h2, h3, h4, h5, obind, Option.bind_some, ints_spec [1, 4] [1, 4] (by simp), ints_spec [2, 4] [2, 4] (by simp), odd_spec, calm_spec]
  simp
theorem verDoes_true (l : List Int) (p a b : Int) (hl : l.length ≤ 1000000000000000000) (ha : 0 ≤ a ∧ a ≤ 4294967295) (hb : 0 ≤ b ∧ b ≤ 4294967295) : verDoesF l p a b = some true := by
  unfold verDoesF
  have wa : wrap .i64 a = a := wrap_in (by omega) (by omega)
  have wb : wrap .i64 b = b := wrap_in (by omega) (by omega)
  have ma : a.tmod 2 = 0 ∨ a.tmod 2 = 1 := by rw [Int.tmod_eq_emod_of_nonneg ha.1]; omega
  simp only [vawake_spec, rmay_spec l hl, obind, Option.bind_some, bnot, Bool.not_true, cnd, cond_false, cond_true]
  by_cases hm : (∀ n ∈ l, okVer n) ∧ l.length ≤ 100
  · have h100 : l.length ≤ 1000000 := by have := hm.2; omega
    have fin : (some (!decide (a.tmod 2 = 0) == decide (a.tmod 2 = 1))) = some true := by
      rcases ma with m | m <;> simp [m]
    simp only [decide_eq_true hm, Bool.not_true, cond_false, up_spec l p h100, rup_spec l p h100, rd_spec, Option.bind_some]
    by_cases hp : isAt l p
    · obtain ⟨h0, h1⟩ := hp
      have hp : isAt l p := ⟨h0, h1⟩
      simp [hp, h0, h1, lget_ints h0 h1, ints_spec _ _ (show (l.set p.toNat (wrap .i64 (gi l p + 1))).length ≤ 1000000000 by simp; omega), odd_spec, calm_spec, rcalm_spec, wa, wb]
      rcases ma with m | m <;> simp [m]
    · have hn : ¬ (0 ≤ p ∧ p < l.length) := hp
      by_cases h0 : 0 ≤ p
      · have h1 : ¬ p < l.length := fun h => hn ⟨h0, h⟩
        simp [hp, h0, h1, ints_spec l l (by omega), odd_spec, calm_spec, rcalm_spec, wa, wb]
        rcases ma with m | m <;> simp [m]
      · simp [hp, h0, ints_spec l l (by omega), odd_spec, calm_spec, rcalm_spec, wa, wb]
        rcases ma with m | m <;> simp [m]
  · simp [hm]
theorem verDoes_ok (xs : Lf [.sl (.int .i64), .int .i64, .int .u32, .int .u32]) (h : ∀ m, wfA m _ xs) : verDoesF xs.1 xs.2.1 xs.2.2.1 xs.2.2.2.1 = some true := by
  obtain ⟨h1, h⟩ := wfA_cons h
  obtain ⟨h2, h⟩ := wfA_cons h
  obtain ⟨h3, h⟩ := wfA_cons h
  obtain ⟨h4, h⟩ := wfA_cons h
  exact verDoes_true _ _ _ _ (by have := wf_len64 h1; omega) (wf_u32 h3) (wf_u32 h4)
end Go.Sx
