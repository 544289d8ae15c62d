/-
  What versions tell, in plain words.
-/
import Derived.Test.YtolhcodhgegaaaaSxPr2
set_option linter.unusedVariables false
set_option linter.unusedSimpArgs false
namespace Go.Sx
open Go
def mods (l u : List Int) : List Int := u.map (· % (l.length : Int))
theorem mods_len (l u : List Int) : (mods l u).length = u.length := by simp [mods]
theorem mods_gi (l u : List Int) {i : Int} (h0 : 0 ≤ i) (h : i < u.length) : gi (mods l u) i = gi u i % l.length := by
  simp [gi, mods, List.getD, List.getElem?_eq_getElem (show i.toNat < u.length by omega)]
def cnt (m : List Int) (p n : Int) : Int := ((m.take n.toNat).count p : Nat)
theorem cnt_zero (m : List Int) (p : Int) : cnt m p 0 = 0 := by simp [cnt]
theorem cnt_step {m : List Int} {p n : Int} (h0 : 0 ≤ n) (h : n < m.length) : cnt m p (n + 1) = cnt m p n + if gi m n = p then 1 else 0 := by
  unfold cnt
  rw [take_snoc h0 h, List.count_append]
  by_cases e : gi m n = p <;> simp [e]
theorem cnt_le (m : List Int) (p n : Int) : 0 ≤ cnt m p n ∧ cnt m p n ≤ m.length := by
  unfold cnt
  have := List.count_le_length (a := p) (l := m.take n.toNat)
  have h2 : (m.take n.toNat).length ≤ m.length := by simp; omega
  omega
theorem cnt_mono (m : List Int) (p : Int) {i k : Int} (h : i ≤ k) : cnt m p i ≤ cnt m p k := by
  unfold cnt
  have : (m.take i.toNat).Sublist (m.take k.toNat) := by
    have e : m.take i.toNat = (m.take k.toNat).take i.toNat := by rw [List.take_take]; congr 1; omega
    rw [e]
    exact List.take_sublist _ _
  have := this.count_le p
  omega
def btw (m : List Int) (p i k n : Int) : Int := if n ≤ i then 0 else if n ≤ k then cnt m p n - cnt m p i else cnt m p k - cnt m p i
theorem btw_step {m : List Int} {p i k n : Int} (h0 : 0 ≤ n) (h : n < m.length) (hik : i ≤ k) : btw m p i k (n + 1) = btw m p i k n + if gi m n = p ∧ i ≤ n ∧ n < k then 1 else 0 := by
  have hs := cnt_step (p := p) h0 h
  have t1 : n ≠ i ∨ cnt m p n = cnt m p i := by by_cases h : n = i <;> simp [h]
  have t2 : n ≠ k ∨ cnt m p n = cnt m p k := by by_cases h : n = k <;> simp [h]
  have t3 : i ≠ k ∨ cnt m p i = cnt m p k := by by_cases h : i = k <;> simp [h]
  have t4 : n + 1 ≠ k ∨ cnt m p (n + 1) = cnt m p k := by by_cases h : n + 1 = k <;> simp [h]
  unfold btw
  by_cases e : gi m n = p
  · rw [if_pos e] at hs
    simp only [e, true_and]
    repeat' split
    all_goals omega
  · rw [if_neg e] at hs
    simp only [e, false_and, if_false]
    repeat' split
    all_goals omega
theorem verTells_loop (l u : List Int) (p i k : Int) (hb : bnd l 1099511627776) (hl : l.length ≤ 100) (hu : u.length ≤ 100) (hu8 : ∀ n ∈ u, 0 ≤ n ∧ n ≤ 255) (hp : isAt l p) (hi0 : 0 ≤ i) (hik : i ≤ k) (hk : k ≤ u.length) :
    iter verTells.l4r11.T bigL (((l, (u, (p, (i, (k, (l, (0, (0, (0, (0, ())))))))))), ())) = some (.inl ((gi l p + cnt (mods l u) p i, (gi l p + cnt (mods l u) p k, (cnt (mods l u) p k - cnt (mods l u) p i, ()))), ())) := by
  rw [iter_big (fun x => (x.1.2.1.length + 1 - x.1.2.2.2.2.2.2.2.2.2.1).toNat)
    (fun x => x.1.1 = l ∧ x.1.2.1 = u ∧ x.1.2.2.1 = p ∧ x.1.2.2.2.1 = i ∧ x.1.2.2.2.2.1 = k ∧ x.1.2.2.2.2.2.1 = upAll l ((mods l u).take x.1.2.2.2.2.2.2.2.2.2.1.toNat) ∧
      x.1.2.2.2.2.2.2.1 = (if x.1.2.2.2.2.2.2.2.2.2.1 ≤ i then 0 else gi l p + cnt (mods l u) p i) ∧ x.1.2.2.2.2.2.2.2.1 = (if x.1.2.2.2.2.2.2.2.2.2.1 ≤ k then 0 else gi l p + cnt (mods l u) p k) ∧
      x.1.2.2.2.2.2.2.2.2.1 = btw (mods l u) p i k x.1.2.2.2.2.2.2.2.2.2.1 ∧ 0 ≤ x.1.2.2.2.2.2.2.2.2.2.1 ∧ x.1.2.2.2.2.2.2.2.2.2.1 ≤ (u.length : Int))
    (fun _ => some (.inl ((gi l p + cnt (mods l u) p i, (gi l p + cnt (mods l u) p k, (cnt (mods l u) p k - cnt (mods l u) p i, ()))), ()))) ?_
    ⟨rfl, rfl, rfl, rfl, rfl, by simp [upAll], by simp [hi0], by simp; omega, by simp [btw, hi0], Int.le_refl _, by simp⟩ (by simp; omega)]
  rintro ⟨⟨l', u', p', i', k', now, fi, la, be, n, _⟩, _⟩ rec ⟨e1, e2, e3, e4, e5, hnow, hfi, hla, hbe, h1, h2⟩ hr
  simp only at e1 e2 e3 e4 e5 hnow hfi hla hbe h1 h2
  subst e1 e2 e3 e4 e5
  have hml := mods_len l' u'
  have hlen : now.length = l'.length := by rw [hnow, upAll_len]
  have hpn : isAt now p' := by unfold isAt; rw [hlen]; exact hp
  have hg : ∀ j : Int, n = j → gi now p' = gi l' p' + cnt (mods l' u') p' j := by
    intro j e
    subst e
    rw [hnow, gi_upAll _ hb (by simp; omega) hp]
    rfl
  unfold verTells.l4r11.T
  simp only [rd_spec, hpn, if_true, obind, Option.bind_some, ilen_eq]
  -- what the two places are behind this round's look
  have hf2 : (if n = i' then gi now p' else fi) = if n + 1 ≤ i' then 0 else gi l' p' + cnt (mods l' u') p' i' := by
    by_cases e : n = i'
    · rw [if_pos e, if_neg (by omega), hg i' e]
    · rw [if_neg e, hfi]
      by_cases f : n ≤ i'
      · rw [if_pos f, if_pos (by omega)]
      · rw [if_neg f, if_neg (by omega)]
  have hl2 : (if n = k' then gi now p' else la) = if n + 1 ≤ k' then 0 else gi l' p' + cnt (mods l' u') p' k' := by
    by_cases e : n = k'
    · rw [if_pos e, if_neg (by omega), hg k' e]
    · rw [if_neg e, hla]
      by_cases f : n ≤ k'
      · rw [if_pos f, if_pos (by omega)]
      · rw [if_neg f, if_neg (by omega)]
  generalize hF : (if n = i' then gi now p' else fi) = F at hf2
  generalize hL : (if n = k' then gi now p' else la) = L at hl2
  have k1 : (decide (n = i') = true ∧ F = gi now p') ∨ (decide (n = i') = false ∧ F = fi) := by
    rw [← hF]
    by_cases e : n = i' <;> simp [e]
  have k2 : (decide (n = k') = true ∧ L = gi now p') ∨ (decide (n = k') = false ∧ L = la) := by
    rw [← hL]
    by_cases e : n = k' <;> simp [e]
  by_cases hn : n = u'.length
  · have r1 : F = gi l' p' + cnt (mods l' u') p' i' := by rw [hf2, if_neg (by omega)]
    have r2 : L = gi l' p' + cnt (mods l' u') p' k' := by rw [hl2, if_neg (by omega)]
    have r3 : be = cnt (mods l' u') p' k' - cnt (mods l' u') p' i' := by
      rw [hbe]
      unfold btw
      by_cases a : n ≤ i'
      · rw [if_pos a, show i' = k' by omega]; omega
      · rw [if_neg a]
        by_cases b : n ≤ k'
        · rw [if_pos b, show n = k' by omega]
        · rw [if_neg b]
    rw [← r1, ← r2, ← r3]
    have x0 : decide (n ≤ (u'.length : Int)) = true := by simpa using h2
    have x3 : decide (n = (u'.length : Int)) = true := by simpa using hn
    rcases k1 with ⟨x1, rfl⟩ | ⟨x1, rfl⟩ <;> rcases k2 with ⟨x2, rfl⟩ | ⟨x2, rfl⟩ <;>
      simp only [rd_spec, hpn, if_true, x0, x1, x2, x3, ieq, ile, cnd, cond_true, cond_false, Option.bind_some]
  · have hnu : n < u'.length := by omega
    have hx := hu8 _ (gi_mem h1 hnu)
    have hwx : wrap .i64 (gi u' n) = gi u' n := wrap_in (by omega) (by omega)
    have hlp : (0 : Int) < l'.length := by have := hp.1; have := hp.2; omega
    have hmod : (gi u' n).tmod l'.length = gi (mods l' u') n := by rw [mods_gi l' u' h1 hnu, Int.tmod_eq_emod_of_nonneg hx.1]
    have hat : isAt now (gi (mods l' u') n) := by
      unfold isAt
      rw [hlen, mods_gi l' u' h1 hnu]
      exact ⟨Int.emod_nonneg _ (by omega), Int.emod_lt_of_pos _ hlp⟩
    have hw : wrap .i64 (n + 1) = n + 1 := wrap_in (by omega) (by omega)
    have hbs := btw_step (p := p') (i := i') (k := k') (m := mods l' u') h1 (by omega) hik
    have hcb : 0 ≤ be ∧ be ≤ 100 := by
      have c1 := cnt_le (mods l' u') p' n
      have c2 := cnt_le (mods l' u') p' i'
      have c3 := cnt_le (mods l' u') p' k'
      have c4 := cnt_mono (mods l' u') p' hik
      rw [hbe]
      unfold btw
      split
      · omega
      · have c5 := cnt_mono (mods l' u') p' (i := i') (k := n) (by omega)
        split <;> omega
    have hwb : wrap .i64 (be + 1) = be + 1 := wrap_in (by omega) (by omega)
    have hrec : ∀ be', be' = btw (mods l' u') p' i' k' (n + 1) → rec ((l', u', p', i', k', upL now (gi (mods l' u') n), F, L, be', n + 1, ()), ()) = some (.inl ((gi l' p' + cnt (mods l' u') p' i', (gi l' p' + cnt (mods l' u') p' k', (cnt (mods l' u') p' k' - cnt (mods l' u') p' i', ()))), ())) := by
      intro be' hbe'
      exact hr _ ⟨rfl, rfl, rfl, rfl, rfl, by simp only; rw [take_snoc h1 (by omega), upAll_snoc, hnow], hf2, hl2, hbe', by simp; omega, by simp; omega⟩ (by simp; omega)
    rw [← hbe] at hbs
    have hl0 : decide ((l'.length : Int) = 0) = false := by simp; intro e; rw [e] at hlp; simp at hlp
    have x0 : decide (n ≤ (u'.length : Int)) = true := by simpa using h2
    have x3 : decide (n = (u'.length : Int)) = false := by simpa using hn
    have hup := upF_upL now (gi (mods l' u') n) (by omega)
    have hul : ((upL now (gi (mods l' u') n)).length : Int) = l'.length := by rw [upL_len, hlen]
    have dat : decide (isAt now (gi (mods l' u') n)) = true := by simpa using hat
    have dul : decide (((upL now (gi (mods l' u') n)).length : Int) = (l'.length : Int)) = true := by simpa using hul
    obtain ⟨be', h, hc⟩ : ∃ be', rec ((l', u', p', i', k', upL now (gi (mods l' u') n), F, L, be', n + 1, ()), ()) = some (.inl ((gi l' p' + cnt (mods l' u') p' i', (gi l' p' + cnt (mods l' u') p' k', (cnt (mods l' u') p' k' - cnt (mods l' u') p' i', ()))), ())) ∧
        ((gi (mods l' u') n = p' ∧ i' ≤ n ∧ n < k') ∧ be' = be + 1 ∨ ¬ (gi (mods l' u') n = p' ∧ i' ≤ n ∧ n < k') ∧ be' = be) := by
      by_cases hc : gi (mods l' u') n = p' ∧ i' ≤ n ∧ n < k'
      · rw [if_pos hc] at hbs
        exact ⟨be + 1, hrec _ hbs.symm, .inl ⟨hc, rfl⟩⟩
      · rw [if_neg hc] at hbs
        exact ⟨be, hrec _ (by omega), .inr ⟨hc, rfl⟩⟩
    rcases hc with ⟨⟨y1, y2, y3⟩, rfl⟩ | ⟨hc, rfl⟩
    · have z1 : decide (gi (mods l' u') n = p') = true := by simpa using y1
      have z2 : decide (i' ≤ n) = true := by simpa using y2
      have z3 : decide (n < k') = true := by simpa using y3
      rcases k1 with ⟨x1, rfl⟩ | ⟨x1, rfl⟩ <;> rcases k2 with ⟨x2, rfl⟩ | ⟨x2, rfl⟩ <;>
        (simp only [rd_spec, hpn, if_true, x0, x1, x2, x3, z1, z2, z3, hl0, lget_ints h1 hnu, hwx, irem, hmod, hup, dat, dul, hwb, hw, iadd, bnot, Bool.not_true, Bool.not_false, ieq, ile, ilt, ilen_eq, cnd, cond_true, cond_false, Option.bind_some]; exact h)
    · by_cases y1 : gi (mods l' u') n = p'
      · have z1 : decide (gi (mods l' u') n = p') = true := by simpa using y1
        by_cases y2 : i' ≤ n
        · have z2 : decide (i' ≤ n) = true := by simpa using y2
          have z3 : decide (n < k') = false := by simpa using fun h => hc ⟨y1, y2, h⟩
          rcases k1 with ⟨x1, rfl⟩ | ⟨x1, rfl⟩ <;> rcases k2 with ⟨x2, rfl⟩ | ⟨x2, rfl⟩ <;>
            (simp only [rd_spec, hpn, if_true, x0, x1, x2, x3, z1, z2, z3, hl0, lget_ints h1 hnu, hwx, irem, hmod, hup, dat, dul, hwb, hw, iadd, bnot, Bool.not_true, Bool.not_false, ieq, ile, ilt, ilen_eq, cnd, cond_true, cond_false, Option.bind_some]; exact h)
        · have z2 : decide (i' ≤ n) = false := by simpa using y2
          rcases k1 with ⟨x1, rfl⟩ | ⟨x1, rfl⟩ <;> rcases k2 with ⟨x2, rfl⟩ | ⟨x2, rfl⟩ <;>
            (simp only [rd_spec, hpn, if_true, x0, x1, x2, x3, z1, z2, hl0, lget_ints h1 hnu, hwx, irem, hmod, hup, dat, dul, hwb, hw, iadd, bnot, Bool.not_true, Bool.not_false, ieq, ile, ilt, ilen_eq, cnd, cond_true, cond_false, Option.bind_some]; exact h)
      · have z1 : decide (gi (mods l' u') n = p') = false := by simpa using y1
        rcases k1 with ⟨x1, rfl⟩ | ⟨x1, rfl⟩ <;> rcases k2 with ⟨x2, rfl⟩ | ⟨x2, rfl⟩ <;>
          (simp only [rd_spec, hpn, if_true, x0, x1, x2, x3, z1, hl0, lget_ints h1 hnu, hwx, irem, hmod, hup, dat, dul, hwb, hw, iadd, bnot, Bool.not_true, Bool.not_false, ieq, ile, ilt, ilen_eq, cnd, cond_true, cond_false, Option.bind_some]; exact h)
theorem verTells_true (l u : List Int) (p f t : Int) (hl : l.length ≤ 1000000000000000000) (hu8 : ∀ n ∈ u, 0 ≤ n ∧ n ≤ 255) (hp : 0 ≤ p ∧ p ≤ 255) (hf : 0 ≤ f ∧ f ≤ 255) (ht : 0 ≤ t ∧ t ≤ 255) : verTellsF l u p f t = some true := by
  unfold verTellsF
  simp only [vawake_spec, rmay_spec l hl, obind, Option.bind_some, bnot, Bool.not_true, cnd, cond_false, cond_true]
  by_cases hm : (∀ n ∈ l, okVer n) ∧ l.length ≤ 100
  · by_cases hl0 : (l.length : Int) = 0
    · simp only [decide_eq_true hm, Bool.not_true, cond_false, ieq, ilen_eq, decide_eq_true hl0, cond_true, Option.bind_some]
    · by_cases hu : u.length ≤ 100
      · have wp : wrap .i64 p = p := wrap_in (by omega) (by omega)
        have wf : wrap .i64 f = f := wrap_in (by omega) (by omega)
        have wt : wrap .i64 t = t := wrap_in (by omega) (by omega)
        have wu : wrap .i64 ((u.length : Int) + 1) = u.length + 1 := wrap_in (by omega) (by omega)
        have mp : p.tmod l.length = p % l.length := Int.tmod_eq_emod_of_nonneg hp.1
        have mf : f.tmod ((u.length : Int) + 1) = f % (u.length + 1) := Int.tmod_eq_emod_of_nonneg hf.1
        have bp : isAt l (p % l.length) := ⟨Int.emod_nonneg _ hl0, Int.emod_lt_of_pos _ (by omega)⟩
        have bf0 := Int.emod_nonneg f (b := (u.length : Int) + 1) (by omega)
        have bf1 := Int.emod_lt_of_pos f (b := (u.length : Int) + 1) (by omega)
        generalize hi : f % ((u.length : Int) + 1) = i at bf0 bf1 mf
        have wd : wrap .i64 ((u.length : Int) + 1 - i) = u.length + 1 - i := wrap_in (by omega) (by omega)
        have mt : t.tmod ((u.length : Int) + 1 - i) = t % (u.length + 1 - i) := Int.tmod_eq_emod_of_nonneg ht.1
        have bt0 := Int.emod_nonneg t (b := (u.length : Int) + 1 - i) (by omega)
        have bt1 := Int.emod_lt_of_pos t (b := (u.length : Int) + 1 - i) (by omega)
        generalize hk : t % ((u.length : Int) + 1 - i) = k at bt0 bt1 mt
        have wk : wrap .i64 (i + k) = i + k := wrap_in (by omega) (by omega)
        have c1 := cnt_le (mods l u) (p % l.length) i
        have c2 := cnt_le (mods l u) (p % l.length) (i + k)
        have c3 := mods_len l u
        have c4 := bnd_gi hm.1 bp
        have d0 : decide ((100 : Int) < u.length) = false := decide_eq_false (by omega)
        have d1 : decide ((l.length : Int) = 0) = false := decide_eq_false hl0
        have d2 : decide ((u.length : Int) + 1 = 0) = false := decide_eq_false (by omega)
        have d3 : decide ((u.length : Int) + 1 - i = 0) = false := decide_eq_false (by omega)
        have hloop := verTells_loop l u (p % l.length) i (i + k) hm.1 hm.2 hu hu8 bp bf0 (by omega) (by omega)
        simp only [decide_eq_true hm, Bool.not_true, cond_false, cond_true, Option.bind_some, ieq, ilt, ilen_eq, irem, iadd, isub, wp, wf, wt, wu, mp, mf, wd, mt, wk, d0, d1, d2, d3, hloop, scase, calm_spec, odd_spec]
        generalize hA : gi l (p % l.length) = A at c4
        generalize hB : cnt (mods l u) (p % l.length) i = B at c1
        generalize hC : cnt (mods l u) (p % l.length) (i + k) = C at c2
        have ws : wrap .i64 (A + B + (C - B)) = A + C := by rw [wrap_in (by omega) (by omega)]; omega
        simp only [ws]
        by_cases e : C - B = 0
        · have e2 : C = B := by omega
          subst e2
          simp
        · have e2 : ¬ A + B = A + C := by omega
          simp [e, e2]
      · have d0 : decide ((100 : Int) < u.length) = true := decide_eq_true (by omega)
        have d1 : decide ((l.length : Int) = 0) = false := decide_eq_false hl0
        simp only [decide_eq_true hm, Bool.not_true, cond_false, ieq, ilt, ilen_eq, d0, d1, cond_true, Option.bind_some]
  · simp only [may_true hm, Bool.not_false, cond_true, Option.bind_some]
theorem verTells_ok (xs : Lf [.sl (.int .i64), .sl (.int .u8), .int .u8, .int .u8, .int .u8]) (h : ∀ m, wfA m _ xs) : verTellsF xs.1 xs.2.1 xs.2.2.1 xs.2.2.2.1 xs.2.2.2.2.1 = some true := by
  obtain ⟨h1, h⟩ := wfA_cons h
  obtain ⟨h2, h⟩ := wfA_cons h
  obtain ⟨h3, h⟩ := wfA_cons h
  obtain ⟨h4, h⟩ := wfA_cons h
  obtain ⟨h5, h⟩ := wfA_cons h
  exact verTells_true _ _ _ _ _ (by have := wf_len64 h1; omega) (fun n hn => wf_u8 (wf_mem h2 hn)) (wf_u8 h3) (wf_u8 h4) (wf_u8 h5)
end Go.Sx
