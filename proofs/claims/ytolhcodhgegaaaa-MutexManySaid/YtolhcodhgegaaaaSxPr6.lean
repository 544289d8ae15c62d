/-
  The law of many deeds, in plain words.
-/
import Derived.Test.YtolhcodhgegaaaaSxPr4
set_option linter.unusedVariables false
set_option linter.unusedSimpArgs false
namespace Go.Sx
open Go
theorem gi_take {l : List Int} {n : Int} {p : Int} (h0 : 0 ≤ p) (h : p < n) : gi (l.take n.toNat) p = gi l p := by
  unfold gi
  simp only [List.getD_eq_getElem?_getD, List.getElem?_take]
  rw [if_pos (by omega)]
theorem take_set {l : List Int} {n p : Int} (x : Int) (h0 : 0 ≤ p) (h : p < n) : (l.set p.toNat x).take n.toNat = (l.take n.toNat).set p.toNat x := by
  rw [List.take_set]
theorem mutexMany_loop (d : List Int) (n : Int) (hn : 0 ≤ n ∧ n < 20) (hd : d.length ≤ 200) (hd16 : ∀ x ∈ d, 0 ≤ x ∧ x ≤ 65535) :
    iter mutexMany.l10r7.T bigL (((d, (n, (List.replicate n.toNat 0, (0, ())))), (([0, 0, 0, 0, 0, 0, 0, 0, 0, 0, 0, 0, 0, 0, 0, 0, 0, 0, 0, 0] : List Int), ()))) = some (.inr ((), ())) := by
  rw [iter_big (fun x => (x.1.1.length - x.1.2.2.2.1).toNat)
    (fun x => x.1.1 = d ∧ x.1.2.1 = n ∧ 0 ≤ x.1.2.2.2.1 ∧ x.2.1.length = 20 ∧ x.1.2.2.1 = x.2.1.take n.toNat ∧ ∀ y ∈ x.2.1, 0 ≤ y ∧ y ≤ 5)
    (fun _ => some (.inr ((), ()))) ?_ ⟨rfl, rfl, Int.le_refl _, rfl, ?_, by simp⟩ (by simp; omega)]
  rotate_left
  · show List.replicate n.toNat (0 : Int) = (List.replicate 20 0).take n.toNat
    rw [List.take_replicate]
    congr 1
    omega
  rintro ⟨⟨d', n', l, i, _⟩, has, _⟩ rec ⟨e1, e2, h1, h2, h3, h4⟩ hr
  simp only at e1 e2 h1 h2 h3 h4
  subst e1 e2
  unfold mutexMany.l10r7.T
  by_cases hi : i < d'.length
  · have hw : wrap .i64 (i + 1) = i + 1 := wrap_in (by omega) (by omega)
    have hx := hd16 _ (gi_mem h1 hi)
    have hll : l.length = n'.toNat := by rw [h3]; simp; omega
    simp only [lget_ints h1 hi]
    generalize hX : gi d' i = X at hx
    have m21 : X.tmod 21 = X % 21 := Int.tmod_eq_emod_of_nonneg hx.1
    have w21 : wrap .i64 (X % 21) = X % 21 := wrap_in (by omega) (by omega)
    have q21 : wrap .u16 (X.tdiv 21) = X / 21 := by
      rw [Int.tdiv_eq_ediv_of_nonneg hx.1]
      exact IntWalk.u16_in _ (by omega)
    have wq : wrap .i64 (X / 21) = X / 21 := wrap_in (by omega) (by omega)
    have m5 : (X / 21).tmod 5 = X / 21 % 5 := Int.tmod_eq_emod_of_nonneg (by omega)
    have q128 : wrap .u16 (X.tdiv 128) = X / 128 := by
      rw [Int.tdiv_eq_ediv_of_nonneg hx.1]
      exact IntWalk.u16_in _ (by omega)
    have m2 : (X / 128).tmod 2 = X / 128 % 2 := Int.tmod_eq_emod_of_nonneg (by omega)
    have hP : 0 ≤ X % 21 ∧ X % 21 < 21 := by omega
    have hS : 0 ≤ X / 21 % 5 ∧ X / 21 % 5 < 5 := by omega
    generalize hp : X % 21 = P at hP m21 w21
    generalize hs : X / 21 % 5 = S at hS m5
    have mP : P.tmod 20 = P % 20 := Int.tmod_eq_emod_of_nonneg hP.1
    have wS : wrap .i64 (S + 1) = S + 1 := wrap_in (by omega) (by omega)
    have tk := take_spec l P S (by omega)
    have gv := give_spec l P S (by omega)
    rw [wS] at tk
    have ln : (l.length : Int) = n' := by omega
    have iat : isAt l P ↔ P < n' := by unfold isAt; rw [ln]; omega
    have i20 : lget has (P % 20) = some (gi has (P % 20)) := lget_ints (by omega) (by omega)
    have hat : P < n' → gi l P = gi has P ∧ P % 20 = P := fun h => ⟨by rw [h3]; exact gi_take hP.1 h, by omega⟩
    have key : ∀ (l2 has2 : List Int), has2.length = 20 → l2 = has2.take n'.toNat → (∀ y ∈ has2, 0 ≤ y ∧ y ≤ 5) → rec ((d', n', l2, i + 1, ()), has2, ()) = some (.inr ((), ())) := fun l2 has2 a b c =>
      hr _ ⟨rfl, rfl, by simp; omega, a, b, c⟩ (by simp; omega)
    have ints2 : ∀ (has2 : List Int), has2.length = 20 → intsF (has2.take n'.toNat) (has2.take n'.toNat) = some true := fun has2 h => by
      rw [ints_spec _ _ (by simp; omega)]; simp
    have intsl : intsF l (has.take n'.toNat) = some true := by rw [h3]; exact ints2 has h2
    have rest : ∀ (has2 : List Int), has2.length = 20 → decide (n' ≤ (has2.length : Int)) = true := fun has2 h => by rw [h]; simp; omega
    have n0 : decide ((0 : Int) ≤ n') = true := by simpa using hn.1
    have hi0 : decide (i < (d'.length : Int)) = true := by simpa using hi
    have p0 : decide (0 ≤ P) = true := by simpa using hP.1
    have p1 : decide (0 ≤ P % 20) = true := by simp; omega
    have p2 : decide (P % 20 < (has.length : Int)) = true := by simp; omega
    simp only [ilt, ile, ieq, iquo, irem, ilen_eq, hi0, cnd, cond_true, obind, Option.bind_some, m21, w21, q21, wq, m5, q128, m2, mP]
    by_cases hb : X / 128 % 2 = 0
    · have b0 : decide (X / 128 % 2 = 0) = true := by simpa using hb
      by_cases hPn : P < n'
      · have b1 : decide (P < n') = true := by simpa using hPn
        obtain ⟨g1, g2⟩ := hat hPn
        have p3 : decide (P < (has.length : Int)) = true := by simp; omega
        have i20' : lget has P = some (gi has P) := by rw [← g2]; exact i20
        by_cases hz : gi has P = 0
        · have ih : isAt l P ∧ gi l P = 0 := ⟨iat.2 hPn, by rw [g1]; exact hz⟩
          have e2 : l.set P.toNat (S + 1) = (has.set P.toNat (S + 1)).take n'.toNat := by rw [take_set _ hP.1 hPn, ← h3]
          have hl2 : (has.set P.toNat (S + 1)).length = 20 := by simp [h2]
          have hk := key _ (has.set P.toNat (S + 1)) hl2 e2 (fun y hy => by
            rcases List.mem_or_eq_of_mem_set hy with h | h
            · exact h4 y h
            · omega)
          rw [e2] at hk
          rw [if_pos ih] at tk
          simp only [b0, cond_true, tk, b1, p0, g2, p3, i20', hz, cond_true, Option.bind_some, decide_true, beq', bnot, lset, iadd, wS, scase, BEq.rfl, Bool.not_true, cond_false, n0, rest _ hl2, e2, ltake, ints2 _ hl2, hw]
          exact hk
        · have ih : ¬ (isAt l P ∧ gi l P = 0) := fun h => hz (by rw [← g1]; exact h.2)
          have hk := key l has h2 h3 h4
          have z1 : decide (gi has P = 0) = false := by simpa using hz
          rw [if_neg ih] at tk
          simp only [b0, cond_true, tk, b1, p0, g2, p3, i20', z1, cond_true, Option.bind_some, beq', bnot, BEq.rfl, Bool.not_true, cond_false, scase, n0, rest _ h2, ltake, intsl, iadd, hw]
          exact hk
      · have b1 : decide (P < n') = false := by simpa using hPn
        have ih : ¬ (isAt l P ∧ gi l P = 0) := fun h => hPn (iat.1 h.1)
        have hk := key l has h2 h3 h4
        rw [if_neg ih] at tk
        simp only [b0, cond_true, tk, b1, cond_false, Option.bind_some, beq', bnot, BEq.rfl, Bool.not_true, cond_true, scase, n0, rest _ h2, ltake, intsl, iadd, hw]
        exact hk
    · have b0 : decide (X / 128 % 2 = 0) = false := by simpa using hb
      by_cases hPn : P < n'
      · have b1 : decide (P < n') = true := by simpa using hPn
        obtain ⟨g1, g2⟩ := hat hPn
        have p3 : decide (P < (has.length : Int)) = true := by simp; omega
        have i20' : lget has P = some (gi has P) := by rw [← g2]; exact i20
        have hy := h4 _ (gi_mem hP.1 (show P < (has.length : Int) by omega))
        by_cases hz : gi has P = S + 1
        · have ih : isAt l P ∧ gi l P ≠ 0 ∧ wrap .i64 (gi l P - 1) = S := ⟨iat.2 hPn, by omega, by rw [g1, wrap_in (by omega) (by omega)]; omega⟩
          have e2 : l.set P.toNat 0 = (has.set P.toNat 0).take n'.toNat := by rw [take_set _ hP.1 hPn, ← h3]
          have hl2 : (has.set P.toNat 0).length = 20 := by simp [h2]
          have hk := key _ (has.set P.toNat 0) hl2 e2 (fun y hy => by
            rcases List.mem_or_eq_of_mem_set hy with h | h
            · exact h4 y h
            · omega)
          rw [e2] at hk
          rw [if_pos ih] at gv
          simp only [b0, cond_false, gv, b1, p0, g2, p3, i20', hz, cond_true, Option.bind_some, decide_true, beq', bnot, lset, iadd, wS, scase, BEq.rfl, Bool.not_true, cond_false, n0, rest _ hl2, e2, ltake, ints2 _ hl2, hw]
          exact hk
        · have ih : ¬ (isAt l P ∧ gi l P ≠ 0 ∧ wrap .i64 (gi l P - 1) = S) := fun h => hz (by have := h.2.2; rw [g1, wrap_in (by omega) (by omega)] at this; omega)
          have hk := key l has h2 h3 h4
          have z1 : decide (gi has P = S + 1) = false := by simpa using hz
          rw [if_neg ih] at gv
          simp only [b0, cond_false, gv, b1, p0, g2, p3, i20', iadd, wS, z1, cond_true, Option.bind_some, beq', bnot, BEq.rfl, Bool.not_true, cond_false, scase, n0, rest _ h2, ltake, intsl, hw]
          exact hk
      · have b1 : decide (P < n') = false := by simpa using hPn
        have ih : ¬ (isAt l P ∧ gi l P ≠ 0 ∧ wrap .i64 (gi l P - 1) = S) := fun h => hPn (iat.1 h.1)
        have hk := key l has h2 h3 h4
        rw [if_neg ih] at gv
        simp only [b0, cond_false, gv, b1, cond_false, Option.bind_some, beq', bnot, BEq.rfl, Bool.not_true, cond_true, scase, n0, rest _ h2, ltake, intsl, iadd, hw]
        exact hk
  · simp [hi]
theorem mutexMany_true (m : Int) (d : List Int) (hm : 0 ≤ m ∧ m ≤ 255) (hd16 : ∀ x ∈ d, 0 ≤ x ∧ x ≤ 65535) : mutexManyF m d = some true := by
  unfold mutexManyF
  have wm : wrap .i64 m = m := wrap_in (by omega) (by omega)
  have m20 : m.tmod 20 = m % 20 := Int.tmod_eq_emod_of_nonneg hm.1
  by_cases hd : d.length ≤ 200
  · have d0 : decide ((200 : Int) < d.length) = false := decide_eq_false (by omega)
    have c1 : decide (0 ≤ m % 20) = true := decide_eq_true (by omega)
    have c2 : decide (m % 20 * 8 < 281474976710657) = true := decide_eq_true (by omega)
    have hl := mutexMany_loop d (m % 20) (by omega) hd hd16
    simp only [mawake_spec, obind, Option.bind_some, bnot, Bool.not_true, cnd, cond_false, cond_true, ilt, ile, imul, ilen_eq, d0, irem, wm, m20, c1, c2, Int.le_refl, decide_true, lrep, hl, scase]
  · have d0 : decide ((200 : Int) < d.length) = true := decide_eq_true (by omega)
    simp only [mawake_spec, obind, Option.bind_some, bnot, Bool.not_true, cnd, cond_false, cond_true, ilt, ilen_eq, d0]
theorem mutexMany_ok (xs : Lf [.int .u8, .sl (.int .u16)]) (h : ∀ m, wfA m _ xs) : mutexManyF xs.1 xs.2.1 = some true := by
  obtain ⟨h1, h⟩ := wfA_cons h
  obtain ⟨h2, h⟩ := wfA_cons h
  exact mutexMany_true _ _ (wf_u8 h1) (fun n hn => wf_u16 (wf_mem h2 hn))
end Go.Sx
