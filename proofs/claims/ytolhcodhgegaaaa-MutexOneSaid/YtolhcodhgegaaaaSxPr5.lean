/-
  The laws of locks, in plain words.
-/
import Derived.Test.YtolhcodhgegaaaaSxPr4
set_option linter.unusedVariables false
set_option linter.unusedSimpArgs false
namespace Go.Sx
open Go
theorem places_count (n : Int) : ∀ (l : List Int) (i : Int), (placesL n i l).length = l.count n
  | [], _ => rfl
  | a :: r, i => by
    have := places_count n r (i + 1)
    unfold placesL
    by_cases e : a = n <;> simp [e, this]
theorem list_set_same (l : List Int) (i : Nat) (x : Int) (h : l[i]? = some x) : l.set i x = l := by
  apply List.ext_getElem?
  intro j
  rw [List.getElem?_set]
  by_cases e : i = j
  · subst e
    have := (List.getElem?_eq_some_iff.1 h).1
    rw [if_pos rfl, if_pos this, h]
  · simp [e]
theorem set_back {l : List Int} {p n : Int} (hp : isAt l p) (hz : gi l p = 0) : (l.set p.toNat n).set p.toNat 0 = l := by
  rw [List.set_set]
  refine list_set_same _ _ _ ?_
  unfold gi at hz
  have h2 : p.toNat < l.length := by have := hp.1; have := hp.2; omega
  rw [List.getElem?_eq_getElem h2]
  simpa [List.getD, List.getElem?_eq_getElem h2] using hz
theorem mutexOne_loop (l a : List Int) (p w : Int) (hla : a.length = l.length) (hl : l.length ≤ 1000000) (hs : ∀ q, isAt l q → q ≠ p → gi a q = gi l q) :
    iter mutexOne.l8r16.T bigL (((l, (p, (w, (a, (0, ()))))), ())) = some (.inr ((l, (w, (a, ()))), ())) := by
  rw [iter_big (fun x => (x.1.1.length - x.1.2.2.2.2.1).toNat) (fun x => x.1.1 = l ∧ x.1.2.1 = p ∧ x.1.2.2.1 = w ∧ x.1.2.2.2.1 = a ∧ 0 ≤ x.1.2.2.2.2.1)
    (fun x => some (.inr ((l, (w, (a, ()))), ()))) ?_ ⟨rfl, rfl, rfl, rfl, Int.le_refl _⟩ (by simp; omega)]
  rintro ⟨⟨l', p', w', a', i, _⟩, _⟩ rec ⟨e1, e2, e3, e4, h1⟩ hr
  simp only at e1 e2 e3 e4 h1
  subst e1 e2 e3 e4
  unfold mutexOne.l8r16.T
  by_cases hi : i < l'.length
  · have hw : wrap .i64 (i + 1) = i + 1 := wrap_in (by omega) (by omega)
    have hn := hr ((l', p', w', a', i + 1, ()), ()) ⟨rfl, rfl, rfl, rfl, by simp; omega⟩ (by simp; omega)
    by_cases e : i = p'
    · have b1 : decide (i = p') = true := by simpa using e
      have b0 : decide (i < (l'.length : Int)) = true := by simpa using hi
      simp only [ilt, ieq, ilen_eq, b0, b1, cnd, cond_true, bnot, Bool.not_true, cond_false, iadd, hw]
      exact hn
    · simp [hi, e, lget_ints h1 hi, lget_ints (l := a') h1 (by omega), hs i ⟨h1, hi⟩ e, hw, hn]
  · simp [hi]
theorem mutexOne_true (l : List Int) (p w o : Int) (hl : l.length ≤ 1000000000000000000) (hp : 0 ≤ p ∧ p ≤ 255) (hw : 0 ≤ w ∧ w ≤ 255) (ho : 0 ≤ o ∧ o ≤ 255) : mutexOneF l p w o = some true := by
  unfold mutexOneF
  simp only [mawake_spec, mmay_spec l hl, obind, Option.bind_some, bnot, Bool.not_true, cnd, cond_false, cond_true]
  by_cases hm : (∀ n ∈ l, 0 ≤ n) ∧ l.length ≤ 100
  · by_cases hl0 : (l.length : Int) = 0
    · simp only [decide_eq_true hm, Bool.not_true, cond_false, ieq, ilen_eq, decide_eq_true hl0, cond_true]
    · have wp : wrap .i64 p = p := wrap_in (by omega) (by omega)
      have ww : wrap .i64 w = w := wrap_in (by omega) (by omega)
      have wo : wrap .i64 o = o := wrap_in (by omega) (by omega)
      have ww1 : wrap .i64 (w + 1) = w + 1 := wrap_in (by omega) (by omega)
      have ww2 : wrap .i64 (w + 1 - 1) = w := by rw [wrap_in (by omega) (by omega)]; omega
      have mp : p.tmod l.length = p % l.length := Int.tmod_eq_emod_of_nonneg hp.1
      have bp : isAt l (p % l.length) := ⟨Int.emod_nonneg _ hl0, Int.emod_lt_of_pos _ (by omega)⟩
      generalize hq : p % (l.length : Int) = q at bp mp
      have h100 : l.length ≤ 1000000 := by have := hm.2; omega
      simp only [decide_eq_true hm, Bool.not_true, cond_false, ieq, ilen_eq, decide_eq_false hl0, irem, wp, ww, wo, mp, take_spec l q w h100, holder_spec l q, Option.bind_some]
      by_cases hz : gi l q = 0
      · let a := l.set q.toNat (w + 1)
        have ha : a.length = l.length := by simp [a]
        have hat : isAt a q := by unfold isAt; rw [ha]; exact bp
        have hg : gi a q = w + 1 := by
          show gi (l.set q.toNat (w + 1)) q = _
          rw [gi_set bp.1 bp.1 bp.2, if_pos rfl]
        have hloop := mutexOne_loop l a q w ha h100 (fun r hr hne => by
          show gi (l.set q.toNat (w + 1)) r = _
          rw [gi_set bp.1 hr.1 bp.2, if_neg hne])
        have t1 := take_spec a q o (by omega)
        rw [if_neg (by rw [hg]; omega)] at t1
        have t2 := give_spec a q o (by omega)
        have t3 := give_spec a q w (by omega)
        rw [hg, ww2] at t2 t3
        rw [if_pos ⟨hat, by omega, rfl⟩] at t3
        obtain ⟨x2, t2⟩ : ∃ x, giveF a q o = some (x, decide (w = o)) := by
          by_cases e : w = o
          · exact ⟨a.set q.toNat 0, by rw [t2, if_pos ⟨hat, by omega, e⟩]; simp [e]⟩
          · exact ⟨a, by rw [t2, if_neg fun h => e h.2.2]; simp [e]⟩
        have t4 := holder_spec a q
        rw [hg, ww2, if_pos ⟨hat, by omega⟩] at t4
        have hback : a.set q.toNat 0 = l := set_back bp hz
        rw [hback] at t3
        have hh1 := held_spec a w (by omega)
        have hh2 := held_spec l w (by omega)
        rw [ww1] at hh1 hh2
        have hc : (placesL (w + 1) 0 a).length = (placesL (w + 1) 0 l).length + 1 := by
          rw [places_count, places_count]
          have h2 : q.toNat < l.length := by have := bp.1; have := bp.2; omega
          have hz2 : l[q.toNat] = 0 := by
            have := hz
            simpa [gi, List.getD, List.getElem?_eq_getElem h2] using this
          show (l.set q.toNat (w + 1)).count (w + 1) = _
          rw [List.count_set h2, hz2]
          have : ((0 : Int) == w + 1) = false := by simp; omega
          simp [this]
        have hpl := placesL_len (w + 1) l 0
        have wc : wrap .i64 (((placesL (w + 1) 0 l).length : Int) + 1) = (placesL (w + 1) 0 l).length + 1 := wrap_in (by omega) (by omega)
        rw [if_pos ⟨bp, hz⟩]
        simp only [ww1]
        rw [show l.set q.toNat (w + 1) = a from rfl]
        simp only [Bool.not_true, cond_false, t4, t1, t2, t3, Option.bind_some, decide_true, hloop, scase, hh1, hh2, iadd, ilen_eq, wc, hc, ints_spec l l (by omega)]
        simp [ieq, hc, wc]
      · simp [bp, hz, ints_spec l l (by omega)]
  · simp only [may_false hm, Bool.not_false, cond_true]
theorem mutexOne_ok (xs : Lf [.sl (.int .i64), .int .u8, .int .u8, .int .u8]) (h : ∀ m, wfA m _ xs) : mutexOneF xs.1 xs.2.1 xs.2.2.1 xs.2.2.2.1 = some true := by
  obtain ⟨h1, h⟩ := wfA_cons h
  obtain ⟨h2, h⟩ := wfA_cons h
  obtain ⟨h3, h⟩ := wfA_cons h
  obtain ⟨h4, h⟩ := wfA_cons h
  exact mutexOne_true _ _ _ _ (by have := wf_len64 h1; omega) (wf_u8 h2) (wf_u8 h3) (wf_u8 h4)
theorem mutexKeeps_loop1 (w : Int) (l own sv : List Int) (hl : l.length ≤ 1000000) :
    iter mutexKeeps.l27r3.T bigL (((w, (l, ((l.length : Int), (0, ())))), (own, (sv, (([] : List Int), ()))))) = some ((), (own, (sv, (placesL (wrap .i64 (w + 1)) 0 l, ())))) := by
  rw [iter_big (fun x => (x.1.2.1.length - x.1.2.2.2.1).toNat) (fun x => x.1.1 = w ∧ x.1.2.1 = l ∧ x.1.2.2.1 = (l.length : Int) ∧ x.2.1 = own ∧ x.2.2.1 = sv ∧ 0 ≤ x.1.2.2.2.1 ∧ x.2.2.2.1.length + ((l.length : Int) - x.1.2.2.2.1).toNat ≤ 1000000)
    (fun x => some ((), (own, (sv, (x.2.2.2.1 ++ placesL (wrap .i64 (w + 1)) x.1.2.2.2.1 (l.drop x.1.2.2.2.1.toNat), ()))))) ?_ ⟨rfl, rfl, rfl, rfl, rfl, Int.le_refl _, by simp; omega⟩ (by simp; omega)]
  · simp
  · rintro ⟨⟨w', m, n, i, _⟩, ow, s, out, _⟩ rec ⟨e1, e2, e3, e4, e5, h2, h3⟩ hr
    simp only at e1 e2 e3 e4 e5 h2 h3 ⊢
    subst e1 e2 e3 e4 e5
    unfold mutexKeeps.l27r3.T
    by_cases hi : i < m.length
    · have hw : wrap .i64 (i + 1) = i + 1 := wrap_in (by omega) (by omega)
      have hb : ((out.length : Int) + 1) * 8 < 140737488355329 := by omega
      rw [drop_step h2 hi]
      by_cases e : gi m i = wrap .i64 (w' + 1)
      · have hn := hr ((w', m, m.length, i + 1, ()), ow, s, out ++ [i], ()) ⟨rfl, rfl, rfl, rfl, rfl, by simp; omega, by simp; omega⟩ (by simp; omega)
        simp [hi, lget_ints h2 hi, e, hb, hw, hn, placesL]
      · have hn := hr ((w', m, m.length, i + 1, ()), ow, s, out, ()) ⟨rfl, rfl, rfl, rfl, rfl, by simp; omega, by simp; omega⟩ (by simp; omega)
        simp [hi, lget_ints h2 hi, e, hw, hn, placesL]
    · rw [drop_end hi]
      simp [hi, placesL]
theorem mutexKeeps_loop2 (l w v : List Int) (hv : v.length ≤ 1000000) : iter mutexKeeps.l9r8.T bigL (((l, (0, ())), (w, (v, ())))) = some ((l, ()), (w, ())) := by
  rw [iter_big (fun x => (x.2.2.1.length - x.1.2.1).toNat) (fun x => 0 ≤ x.1.2.1 ∧ x.2.2.1.length ≤ 1000000) (fun x => some ((x.1.1, ()), (x.2.1, ()))) ?_ ⟨Int.le_refl _, hv⟩ (by simp; omega)]
  rintro ⟨⟨m, i, _⟩, q, r, _⟩ rec ⟨h1, h2⟩ hr
  simp only at h1 h2 ⊢
  unfold mutexKeeps.l9r8.T
  by_cases hi : i < r.length
  · have hw : wrap .i64 (i + 1) = i + 1 := wrap_in (by omega) (by omega)
    have hn := hr ((m, i + 1, ()), q, r.set i.toNat 99, ()) ⟨by simp; omega, by simp; omega⟩ (by simp; omega)
    simp [hi, h1, lget_ints h1 hi, hw, hn]
  · simp [hi]
theorem mutexKeeps_true (l : List Int) (p w : Int) (hl : l.length ≤ 1000000000000000000) (hw : 0 ≤ w ∧ w ≤ 255) : mutexKeepsF l p w = some true := by
  unfold mutexKeepsF
  simp only [mawake_spec, mmay_spec l hl, obind, Option.bind_some, bnot, Bool.not_true, cnd, cond_false, cond_true]
  by_cases hm : (∀ n ∈ l, 0 ≤ n) ∧ l.length ≤ 100
  · have h100 : l.length ≤ 1000000 := by have := hm.2; omega
    have ww : wrap .i64 w = w := wrap_in (by omega) (by omega)
    have wl : wrap .i64 ((l.length : Int) + 1) = l.length + 1 := wrap_in (by omega) (by omega)
    have e1 : (0 + (l.length : Int)) * 8 < 140737488355329 := by omega
    have e2 : ((l.length : Int) + 2) * 8 < 140737488355329 := by omega
    have e3 : (l ++ [77, 77]).take ((l.length : Int)).toNat = l := by simp
    have g1 : lget (l ++ [(77 : Int), 77]) (l.length : Int) = some 77 := by rw [lget_nat (by simp)]; simp
    have g2 : lget (l ++ [(77 : Int), 77]) ((l.length : Int) + 1) = some 77 := by
      rw [show ((l.length : Int) + 1) = ((l.length + 1 : Nat) : Int) by omega, lget_nat (by simp)]; simp
    have hpl := placesL_len (wrap .i64 (w + 1)) l 0
    simp only [decide_eq_true hm, Bool.not_true, cond_false, ilt, ile, imul, iadd, ilen_eq, decide_eq_true e1, decide_eq_true e2, cond_true, ltake, lapp, e3, ww, take_spec l p w h100, give_spec l p w h100, Option.bind_some, mutexKeeps_loop1 w l _ _ h100, mutexKeeps_loop2 _ _ _ (show (placesL (wrap .i64 (w + 1)) 0 l).length ≤ 1000000 by omega), ints_spec l l (by omega), g1, g2, wl, ieq]
    simp
    omega
  · simp only [may_false hm, Bool.not_false, cond_true]
theorem mutexKeeps_ok (xs : Lf [.sl (.int .i64), .int .i64, .int .u8]) (h : ∀ m, wfA m _ xs) : mutexKeepsF xs.1 xs.2.1 xs.2.2.1 = some true := by
  obtain ⟨h1, h⟩ := wfA_cons h
  obtain ⟨h2, h⟩ := wfA_cons h
  obtain ⟨h3, h⟩ := wfA_cons h
  exact mutexKeeps_true _ _ _ (by have := wf_len64 h1; omega) (wf_u8 h3)
end Go.Sx
