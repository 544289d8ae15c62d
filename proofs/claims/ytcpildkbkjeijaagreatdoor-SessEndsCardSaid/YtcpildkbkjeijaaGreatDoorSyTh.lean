/-
  Sessions: the plain laws.
-/
import Derived.Test.YtcpildkbkjeijaaGreatDoorSyTg
set_option linter.unusedVariables false
set_option linter.unusedSimpArgs false
namespace Go.Sx
open Go Go.Proofs
open Go.Lib (decDigits nDigits)
theorem wf_script {c : Script} (h : ∀ m, wfL (wf m) (Kd.kdl (.st .script)) (Kd.flds (.st .script) c)) : ∀ w ∈ c.lines, w.length ≤ 140737488351232 := fun w hw => ((h 2).2.1.2 w hw).1
theorem wf_sess {c : Sess} (h : ∀ m, wfL (wf m) (Kd.kdl (.st .sess)) (Kd.flds (.st .sess) c)) : ∀ w ∈ c.lines, w.length ≤ 140737488351232 := fun w hw => ((h 2).2.1.2 w hw).1
theorem anew_law (s : Sess) (hs : ∀ w ∈ s.lines, w.length ≤ 140737488351232) : sessAnewF s = some true := by
  unfold sessAnewF
  rw [wawake_ok, obind_some, cnd_f (b := bnot true) rfl]
  obtain ⟨b, hb, hf⟩ := few_eq s hs
  rw [show r19fewF _ = _ from hb, obind_some]
  cases b with
  | false => rfl
  | true =>
    obtain ⟨f1, f2, f3, f4⟩ := hf rfl
    rw [cnd_f (b := bnot true) rfl]
    by_cases hn : s.next < 0
    · rw [cnd_t (b := ilt s.next 0) (decide_eq_true hn)]; rfl
    · have a1 : sanewF s = some (anewS s) := sanew_eq s
      have a2 : sanewF (anewS s) = some (anewS s) := sanew_eq _
      have s1 : ssameF (anewS s) (anewS s) = some true := ssame_self (anewS s) (by show s.lines.length ≤ _; omega) (by show s.cmd.gives.length ≤ _; omega) (by show s.cmd.wants.length ≤ _; omega) rfl rfl rfl rfl rfl
      have s2 : r3sameF (anewS s).cmd s.cmd = some true := r3same_refl s.cmd (by omega) (by omega)
      have s3 : r5sameF (anewS s).reply ⟨0, 0, 0, [], [], 0⟩ = some true := r5same_nil 0 0 0 0
      rw [cnd_f (b := ilt s.next 0) (decide_eq_false hn), show sanewF _ = _ from a1, obind_some, show sanewF _ = _ from a2, obind_some, show ssameF _ _ = _ from s1, obind_some, show r3sameF _ _ = _ from s2, obind_some, show r5sameF _ _ = _ from s3, obind_some]
      rw [cnd_t (b := true) rfl, cnd_t (b := ieq (anewS s).phase 1) rfl, cnd_t (b := true) rfl, cnd_t (b := ieq (anewS s).tries s.tries) (ieq_self _), cnd_t (b := ieq (anewS s).next s.next) (ieq_self _), cnd_t (b := ieq (anewS s).player s.player) (ieq_self _)]
      rfl
theorem sessAnew_ok : ∀ xs : Lf [.st .sess], (∀ m, wfA m _ xs) → sessAnewF xs.1 = some true := by
  rintro ⟨s, _⟩ hw
  obtain ⟨hs, _⟩ := wfA_cons hw
  exact anew_law s (wf_sess hs)
/-! Opened. -/
abbrev stB (pl : Int) (ln : List Str) (i : Int) : Sess := baseS pl ln i (phS ln i)
theorem opens_loop (k : Int) (pl : Int) (ln : List Str) (hk : 0 ≤ k ∧ k ≤ 255) (hl : ln.length ≤ 40) (h0 : 0 < ln.length) :
    iter sessOpens.lr5.T bigL (((k, (0, ())), ((pl, (ln, ())), (sT (stB pl ln 0), ())))) = some ((k, ()), ((pl, (ln, ())), (sT (stB pl ln (k % ln.length)), ()))) := by
  have hq0 : 0 ≤ k % (ln.length : Int) := Int.emod_nonneg _ (by omega)
  have hq1 : k % (ln.length : Int) < ln.length := Int.emod_lt_of_pos _ (by omega)
  have hrem : irem (wrap .i64 k) (ilen ln) = k % (ln.length : Int) := by
    rw [wrap_in (by omega) (by omega), ilen_eq]
    exact Int.tmod_eq_emod_of_nonneg hk.1
  refine iter_big (fun x => (40 - x.1.2.1 : Int).toNat) (fun x => ∃ i : Int, 0 ≤ i ∧ i ≤ k % (ln.length : Int) ∧ x = ((k, (i, ())), ((pl, (ln, ())), (sT (stB pl ln i), ())))) (fun x => some ((k, ()), ((pl, (ln, ())), (sT (stB pl ln (k % ln.length)), ())))) ?_ ⟨0, Int.le_refl _, hq0, rfl⟩ (by simp)
  rintro x rec ⟨i, i0, i1, rfl⟩ hr
  unfold sessOpens.lr5.T
  simp only
  rw [cnd_f (b := ieq (ilen ln) 0) (decide_eq_false (by rw [ilen_eq]; omega)), hrem]
  by_cases hi : i < k % (ln.length : Int)
  · have hw : wrap .i64 (iadd i 1) = i + 1 := wrap_in (n := i + 1) (by omega) (by omega)
    have hn := hr ((k, (i + 1, ())), ((pl, (ln, ())), (sT (stB pl ln (i + 1)), ()))) ⟨i + 1, by omega, by omega, rfl⟩ (by simp; omega)
    have hc : scloseF (stB pl ln i) = some (stB pl ln (i + 1)) := sclose_eq (stB pl ln i) i0 (by show i ≤ 1000000; omega)
    rw [cnd_t (b := ilt i _) (decide_eq_true hi), show scloseF _ = _ from hc, obind_some, hw]
    exact hn
  · obtain rfl : i = k % (ln.length : Int) := by omega
    rw [cnd_f (b := ilt _ _) (decide_eq_false hi)]
theorem opens_law (c : Script) (k : Int) (hs : ∀ w ∈ c.lines, w.length ≤ 140737488351232) (hk : 0 ≤ k ∧ k ≤ 255) : sessOpensF c k = some true := by
  obtain ⟨pl, ln⟩ := c
  unfold sessOpensF
  rw [wawake_ok, obind_some, cnd_f (b := bnot true) rfl]
  unfold wfewF
  obtain ⟨b, hb, hf⟩ := few_eq ⟨0, ln, 0, 0, 0, zeroC, [], 0, [], zeroR, false, 0, 0, 0, [], [], 0⟩ hs
  rw [show r19fewF _ = _ from hb, obind_some, obind_some]
  cases b with
  | false => rfl
  | true =>
    obtain ⟨f1, f2, f3, f4⟩ := hf rfl
    simp only at f1 f2
    rw [cnd_f (b := bnot true) rfl]
    by_cases h0 : ln.length = 0
    · rw [cnd_t (b := ieq (ilen ln) 0) (decide_eq_true (by rw [ilen_eq]; omega))]; rfl
    · have hq0 : 0 ≤ k % (ln.length : Int) := Int.emod_nonneg _ (by omega)
      have hq1 : k % (ln.length : Int) < ln.length := Int.emod_lt_of_pos _ (by omega)
      have hrem : irem (wrap .i64 k) (ilen ln) = k % (ln.length : Int) := by
        rw [wrap_in (by omega) (by omega), ilen_eq]
        exact Int.tmod_eq_emod_of_nonneg hk.1
      rw [cnd_f (b := ieq (ilen ln) 0) (decide_eq_false (by rw [ilen_eq]; omega)), snew_eq, obind_some]
      rw [show iter sessOpens.lr5.T bigL _ = _ from opens_loop k pl ln hk f1 (by omega), obind_some]
      obtain ⟨q, hq⟩ : ∃ q, k % (ln.length : Int) = q := ⟨_, rfl⟩
      rw [hq] at hq0 hq1 hrem ⊢
      have hlt : q.toNat < ln.length := by omega
      have hline : ln[q.toNat]? = some ln[q.toNat] := List.getElem?_eq_getElem _
      have hwl := f2 _ (List.getElem_mem hlt)
      have ho := sopen_eq (stB pl ln q) ln[q.toNat] hq0 hline (by omega)
      have hss : ssameF (stB pl ln q) (stB pl ln q) = some true := ssame_self (stB pl ln q) (by show ln.length ≤ _; omega) (by show (0 : Nat) ≤ 1000000000; decide) (by show (0 : Nat) ≤ 1000000000; decide) rfl rfl rfl rfl rfl
      have hph : (stB pl ln q).phase = 0 := by
        show phS ln q = 0
        unfold phS
        rw [if_neg (by omega)]
      simp only
      rw [show sopenF _ = _ from ho, obind_some]
      have hO : ∃ c p r, opS (stB pl ln q) (getL (wordsL ln[q.toNat])) = { stB pl ln q with cmd := c, phase := p, reply := r } ∧ ((c.kind = 0 ∧ p = 8) ∨ (c.kind = 9 ∧ p = 9) ∨ (c.kind = 10 ∧ p = 9) ∨ (1 ≤ c.kind ∧ c.kind ≤ 8 ∧ p = 1)) := by
        rcases getL_or (wordsL ln[q.toNat]) with e | ⟨c, hc, _, e⟩
        · rw [e]
          exact ⟨zeroC, 8, ⟨2, 0, 0, [], [], 0⟩, rfl, .inl ⟨rfl, rfl⟩⟩
        · rw [e]
          have hk := hc.1
          by_cases h9 : c.kind = 9
          · exact ⟨c, 9, zeroR, by unfold opS; rw [if_pos rfl, if_pos (.inl h9)]; rfl, .inr (.inl ⟨h9, rfl⟩)⟩
          · by_cases h10 : c.kind = 10
            · exact ⟨c, 9, zeroR, by unfold opS; rw [if_pos rfl, if_pos (.inr h10)]; rfl, .inr (.inr (.inl ⟨h10, rfl⟩))⟩
            · exact ⟨c, 1, zeroR, by unfold opS; rw [if_pos rfl, if_neg (by rintro (h | h); exact h9 h; exact h10 h)]; rfl, .inr (.inr (.inr ⟨hk.1, by omega, rfl⟩))⟩
      obtain ⟨c, p, r, e, hcases⟩ := hO
      rw [e]
      simp only
      rw [show ssameF _ _ = _ from hss, obind_some, cnd_t (b := true) rfl, hrem, cnd_f (b := ieq (ilen ln) 0) (decide_eq_false (by rw [ilen_eq]; omega)), show (stB pl ln q).next = q from rfl, ieq_self]
      generalize c.kind = kd at hcases
      clear e ho hss
      rcases hcases with ⟨rfl, rfl⟩ | ⟨rfl, rfl⟩ | ⟨rfl, rfl⟩ | ⟨k1, k2, rfl⟩
      · rfl
      · rfl
      · rfl
      · simp [show kd ≠ 9 by omega, show kd ≠ 10 by omega, show kd ≠ 0 by omega]
theorem sessOpens_ok : ∀ xs : Lf [.st .script, .int .u8], (∀ m, wfA m _ xs) → sessOpensF xs.1 xs.2.1 = some true := by
  rintro ⟨c, k, _⟩ hw
  obtain ⟨hc, hw⟩ := wfA_cons hw
  obtain ⟨hk, _⟩ := wfA_cons hw
  exact opens_law c k (wf_script hc) (wf_u8 hk)
/-! Ended. -/
theorem ends_loop (pl : Int) (ln : List Str) (hl : ln.length ≤ 40) (hs : ∀ w ∈ ln, w.length ≤ 20000) :
    iter sessEnds.lr5.T bigL (((0, ()), ((pl, (ln, ())), (sT (stB pl ln 0), ())))) = some (Sum.inr ((), ((pl, (ln, ())), (sT (stB pl ln ln.length), ())))) := by
  refine iter_big (T := sessEnds.lr5.T) (fun x => (ln.length - x.1.1 : Int).toNat) (fun x => ∃ i : Int, 0 ≤ i ∧ i ≤ ln.length ∧ x = ((i, ()), ((pl, (ln, ())), (sT (stB pl ln i), ())))) (fun x => some (Sum.inr ((), ((pl, (ln, ())), (sT (stB pl ln ln.length), ()))))) ?_ ⟨0, Int.le_refl _, by omega, rfl⟩ (by simp; omega)
  rintro x rec ⟨i, i0, i1, rfl⟩ hr
  unfold sessEnds.lr5.T
  simp only
  by_cases hi : i < ln.length
  · have hw : wrap .i64 (iadd i 1) = i + 1 := wrap_in (n := i + 1) (by omega) (by omega)
    have hn := hr ((i + 1, ()), ((pl, (ln, ())), (sT (stB pl ln (i + 1)), ()))) ⟨i + 1, by omega, by omega, rfl⟩ (by simp; omega)
    have hph : (stB pl ln i).phase = 0 := by
      show phS ln i = 0
      unfold phS
      rw [if_neg (by omega)]
    have hlt : i.toNat < ln.length := by omega
    have hline : ln[i.toNat]? = some ln[i.toNat] := List.getElem?_eq_getElem _
    have hwl := hs _ (List.getElem_mem hlt)
    have ho := sopen_eq (stB pl ln i) ln[i.toNat] i0 hline (by omega)
    have h4 := r4get_eq ln[i.toNat] (by omega)
    have hz3 : r3sameF zeroC zeroC = some true := r3same_refl zeroC (by decide) (by decide)
    have hz5 : r5sameF zeroR zeroR = some true := r5same_nil 0 0 0 0
    have hy3 : r3sameF (stB pl ln (i + 1)).cmd zeroC = some true := hz3
    have hy5 : r5sameF (stB pl ln (i + 1)).reply zeroR = some true := hz5
    have hx3 : r3sameF (opS (stB pl ln i) (zeroC, 2)).cmd zeroC = some true := hz3
    rw [cnd_t (b := ilt i (ilen ln)) (decide_eq_true (by rw [ilen_eq]; omega)), cnd_f (b := bnot (ieq (stB pl ln i).phase 0)) (by rw [hph]; rfl), cnd_f (b := bnot (ieq (stB pl ln i).next i)) (by show bnot (ieq i i) = false; simp), cnd_f (b := bnot (ieq (stB pl ln i).player pl)) (by show bnot (ieq pl pl) = false; simp)]
    rw [show sopenF _ = _ from ho, obind_some, lget_in i0 hi, obind_some, h4, obind_some]
    rcases getL_or (wordsL ln[i.toNat]) with e | ⟨c, hc, _, e⟩
    · have hcl : scloseF (opS (stB pl ln i) (zeroC, 2)) = some (stB pl ln (i + 1)) := sclose_eq _ i0 (by show i ≤ 1000000; omega)
      have h52 : r5sameF (opS (stB pl ln i) (zeroC, 2)).reply ⟨2, 0, 0, [], [], 0⟩ = some true := r5same_nil 2 0 0 0
      rw [e]
      simp only
      rw [show r3sameF _ _ = _ from hx3, obind_some, cnd_f (b := bnot true) rfl, cnd_f (b := bnot (beq' _ _)) rfl, cnd_t (b := bnot (ieq 2 0)) rfl, show r5sameF _ _ = _ from h52, obind_some, cnd_f (b := bnot true) rfl, show scloseF _ = _ from hcl, obind_some]
      rw [show r3sameF _ _ = _ from hy3, obind_some, cnd_f (b := bnot true) rfl, show r5sameF _ _ = _ from hy5, obind_some, cnd_f (b := bnot true) rfl, cnd_f (b := bnot (ieq _ 0)) rfl, cnd_f (b := bnot (ieq _ 0)) rfl, hw]
      exact hn
    · have hrow := may_rows hc
      have hk := hc.1
      have hcl : scloseF (opS (stB pl ln i) (c, 0)) = some (stB pl ln (i + 1)) := by
        have hop : (opS (stB pl ln i) (c, 0)).next = i := by unfold opS; rw [if_pos rfl]; rfl
        have hop2 : (opS (stB pl ln i) (c, 0)).player = pl := by unfold opS; rw [if_pos rfl]; rfl
        have hop3 : (opS (stB pl ln i) (c, 0)).lines = ln := by unfold opS; rw [if_pos rfl]; rfl
        rw [sclose_eq _ (by rw [hop]; exact i0) (by rw [hop]; omega), hop, hop2, hop3]
      have hcc : r3sameF (opS (stB pl ln i) (c, 0)).cmd c = some true := by
        have hop : (opS (stB pl ln i) (c, 0)).cmd = c := by unfold opS; rw [if_pos rfl]
        rw [hop]
        exact r3same_refl c (by omega) (by omega)
      have h8 : ieq (opS (stB pl ln i) (c, 0)).phase 8 = false := by
        unfold opS
        rw [if_pos rfl]
        simp only
        split <;> rfl
      rw [e]
      simp only
      rw [show r3sameF _ _ = _ from hcc, obind_some, cnd_f (b := bnot true) rfl, h8, cnd_f (b := bnot (beq' _ _)) rfl, cnd_f (b := bnot (ieq 0 0)) rfl, show scloseF _ = _ from hcl, obind_some]
      rw [show r3sameF _ _ = _ from hy3, obind_some, cnd_f (b := bnot true) rfl, show r5sameF _ _ = _ from hy5, obind_some, cnd_f (b := bnot true) rfl, cnd_f (b := bnot (ieq _ 0)) rfl, cnd_f (b := bnot (ieq _ 0)) rfl, hw]
      exact hn
  · obtain rfl : i = ln.length := by omega
    rw [cnd_f (b := ilt _ (ilen ln)) (decide_eq_false (by rw [ilen_eq]; exact hi))]
theorem ends_law (c : Script) (hs : ∀ w ∈ c.lines, w.length ≤ 140737488351232) : sessEndsF c = some true := by
  obtain ⟨pl, ln⟩ := c
  unfold sessEndsF
  rw [wawake_ok, obind_some, cnd_f (b := bnot true) rfl]
  unfold wfewF
  obtain ⟨b, hb, hf⟩ := few_eq ⟨0, ln, 0, 0, 0, zeroC, [], 0, [], zeroR, false, 0, 0, 0, [], [], 0⟩ hs
  rw [show r19fewF _ = _ from hb, obind_some, obind_some]
  cases b with
  | false => rfl
  | true =>
    obtain ⟨f1, f2, f3, f4⟩ := hf rfl
    simp only at f1 f2
    have hph : (stB pl ln ln.length).phase = 12 := by
      show phS ln ln.length = 12
      unfold phS
      rw [if_pos (Int.le_refl _)]
    rw [cnd_f (b := bnot true) rfl, snew_eq, obind_some]
    rw [show iter sessEnds.lr5.T bigL _ = _ from ends_loop pl ln f1 f2, obind_some]
    simp only [scase, hph]
    rw [cnd_t (b := ieq 12 12) rfl, show (stB pl ln ln.length).next = (ln.length : Int) from rfl, ilen_eq, ieq_self]
theorem sessEnds_ok : ∀ xs : Lf [.st .script], (∀ m, wfA m _ xs) → sessEndsF xs.1 = some true := by
  rintro ⟨c, _⟩ hw
  obtain ⟨hc, _⟩ := wfA_cons hw
  exact ends_law c (wf_script hc)
end Go.Sx
