/-
  Lines: what line.Get reads.
-/
import Derived.Test.YtcpildkbkjeijaaDoorSyTd
set_option linter.unusedVariables false
set_option linter.unusedSimpArgs false
namespace Go.Sx
open Go Go.Proofs
open Go.Lib (decDigits nDigits)
abbrev zeroC : Cmd := ⟨0, 0, 0, 0, 0, [], 0, [], 0⟩
theorem ld_cons {α : Type} (a : α) (r : List α) : ldrop (a :: r) 1 = r := rfl
theorem lg_cons {α : Type} (a : α) (r : List α) : lget (a :: r) 0 = some a := rfl
theorem z_cons {α : Type} (a : α) (r : List α) : ieq (ilen (a :: r)) 0 = false := decide_eq_false (by rw [ilen_eq]; simp; omega)
theorem zd_cons {α : Type} {a : α} {r : List α} {inst : Decidable (ilen (a :: r) = 0)} : @decide (ilen (a :: r) = 0) inst = false := decide_eq_false (by rw [ilen_eq]; simp; omega)
theorem ieq_ff {a b : Int} (h : ¬ a = b) : ieq a b = false := decide_eq_false h
theorem ieq_tt (a : Int) : ieq a a = true := decide_eq_true rfl
theorem z_nil {α : Type} : ieq (ilen ([] : List α)) 0 = true := rfl
theorem e_cons {α : Type} (a : α) (r : List α) : ile 1 (ilen (a :: r)) = true := decide_eq_true (by rw [ilen_eq]; simp; omega)
theorem t_cons {α : Type} (a : α) (r : List α) : ilt 0 (ilen (a :: r)) = true := decide_eq_true (by rw [ilen_eq]; simp)
theorem t_nil {α : Type} : ilt 0 (ilen ([] : List α)) = false := rfl
theorem kind_name {k : Int} (h : 1 ≤ k ∧ k ≤ 10) : kindP (nameP k) = (k, true) := by
  obtain rfl | rfl | rfl | rfl | rfl | rfl | rfl | rfl | rfl | rfl := ten h.1 h.2 <;> rfl
theorem dir_way {k : Int} (h : 0 ≤ k ∧ k ≤ 3) : dirP (wayP k) = (k, true) := by
  obtain rfl | rfl | rfl | rfl := four h.1 h.2 <;> rfl
theorem fi_inv : ∀ (l : List Str) (s : Str) (k j : Int), fi l s k = some j → ∃ i : Nat, i < l.length ∧ j = k + i ∧ l[i]? = some s
  | [], _, _, _, h => by simp [fi] at h
  | a :: r, s, k, j, h => by
    unfold fi at h
    split at h
    · rename_i e
      simp at h
      exact ⟨0, by simp, by omega, by simp [e]⟩
    · obtain ⟨i, h1, h2, h3⟩ := fi_inv r s _ _ h
      exact ⟨i + 1, by simp; omega, by omega, by simpa using h3⟩
theorem kind_inv {w : Str} {k : Int} (h : kindP w = (k, true)) : (1 ≤ k ∧ k ≤ 10) ∧ w = nameP k := by
  unfold kindP at h
  cases hf : fi kindsL.tail w 1 with
  | none => rw [hf] at h; simp at h
  | some j =>
    rw [hf] at h
    obtain rfl : j = k := by simpa using h
    obtain ⟨i, h1, h2, h3⟩ := fi_inv _ _ _ _ hf
    have h1' : i < 10 := h1
    have hk : 1 ≤ j ∧ j ≤ 10 := by omega
    refine ⟨hk, ?_⟩
    have : i = 0 ∨ i = 1 ∨ i = 2 ∨ i = 3 ∨ i = 4 ∨ i = 5 ∨ i = 6 ∨ i = 7 ∨ i = 8 ∨ i = 9 := by omega
    subst h2
    obtain rfl | rfl | rfl | rfl | rfl | rfl | rfl | rfl | rfl | rfl := this <;> exact (Option.some.inj h3).symm
theorem kind_no {w : Str} {k : Int} (h : kindP w = (k, false)) : k = 0 := by
  unfold kindP at h
  split at h
  · simp at h
  · simpa using h.symm
theorem dir_inv {w : Str} {k : Int} (h : dirP w = (k, true)) : (0 ≤ k ∧ k ≤ 3) ∧ w = wayP k := by
  unfold dirP at h
  cases hf : fi waysL w 0 with
  | none => rw [hf] at h; simp at h
  | some j =>
    rw [hf] at h
    obtain rfl : j = k := by simpa using h
    obtain ⟨i, h1, h2, h3⟩ := fi_inv _ _ _ _ hf
    have h1' : i < 4 := h1
    refine ⟨by omega, ?_⟩
    have : i = 0 ∨ i = 1 ∨ i = 2 ∨ i = 3 := by omega
    subst h2
    obtain rfl | rfl | rfl | rfl := this <;> exact (Option.some.inj h3).symm
theorem may_t {c : Cmd} (h : MayC c) : mayB c = true := decide_eq_true h
theorem may_f {c : Cmd} (h : ¬ MayC c) : mayB c = false := decide_eq_false h
theorem may_rows {c : Cmd} (h : MayC c) : c.gives.length ≤ 16 ∧ c.wants.length ≤ 16 := by
  obtain ⟨_, _, _, _, _, _, _, _, hg, hw⟩ := h
  by_cases k : c.kind = 8
  · exact ⟨(hg.1 k).1, (hw.1 k).1⟩
  · rw [hg.2 k, hw.2 k]; exact ⟨by simp, by simp⟩
theorem cmay_ok {c : Cmd} (h : MayC c) : cmayF c = some true := by
  have := may_rows h
  rw [cmay_eq c (by omega) (by omega), may_t h]
/-- Malformed, or the command of these words. -/
def Res (L : List Str) (F : Option (Cmd × Int)) : Prop := F = some (zeroC, 2) ∨ ∃ c, MayC c ∧ wordsP c = L ∧ F = some (c, 0)
theorem Res.zero {L : List Str} : Res L (some (zeroC, 2)) := .inl rfl
theorem Res.head {L r : List Str} {G : Str → Option (Cmd × Int)} (h : ∀ a q, r = a :: q → Res L (G a)) : Res L (cnd (ieq (ilen r) 0) (some (zeroC, 2)) (obind (lget r 0) G)) := by
  cases r with
  | nil => exact .zero
  | cons a q => rw [z_cons, cnd_ff, lg_cons, obind_some]; exact h a q rfl
theorem Res.num {L : List Str} {a : Str} {A : Int × Bool → Option (Cmd × Int)} (ha : a.length ≤ 1000000) (h : ∀ n, FitC n → a = Lib.itoa n → Res L (A (n, true))) : Res L (obind (numberF a) fun p => cnd p.2 (A p) (some (zeroC, 2))) := by
  rw [number_spec a ha, obind_some]
  cases hn : numL a with
  | mk n b =>
  cases b with
  | false => exact .zero
  | true =>
    have hf := numL_inv (s := a) (by rw [hn])
    rw [hn] at hf
    exact h n hf.1 hf.2
theorem Res.dir {L : List Str} {a : Str} {A : Int × Bool → Option (Cmd × Int)} (h : ∀ n, (0 ≤ n ∧ n ≤ 3) → a = wayP n → Res L (A (n, true))) : Res L (obind (cdirF a) fun p => cnd p.2 (A p) (some (zeroC, 2))) := by
  rw [cdir_eq a, obind_some]
  cases hn : dirP a with
  | mk n b =>
  cases b with
  | false => exact .zero
  | true => exact h n (dir_inv hn).1 (dir_inv hn).2
theorem Res.word {L : List Str} {a w : Str} {A : Option (Cmd × Int)} (h : a = w → Res L A) : Res L (cnd (bnot (seq a w)) (some (zeroC, 2)) A) := by
  by_cases e : a = w
  · rw [cnd_f (b := bnot (seq a w)) (by simp [seq, e])]; exact h e
  · rw [cnd_t (b := bnot (seq a w)) (by simp [seq, e])]; exact .zero
theorem Res.fin {L r : List Str} {A : Option (Cmd × Int)} (h : r = [] → Res L A) : Res L (cnd (ilt 0 (ilen r)) (some (zeroC, 2)) A) := by
  cases r with
  | nil => exact h rfl
  | cons a q => rw [t_cons, cnd_tt]; exact .zero
theorem Res.may {L : List Str} {X : Cmd} (hg : X.gives.length ≤ 1000000000) (hw : X.wants.length ≤ 1000000000) (h : MayC X → wordsP X = L) : Res L (obind (cmayF X) fun x => cnd (bnot x) (some (zeroC, 2)) (some (X, 0))) := by
  rw [cmay_eq X hg hw]
  by_cases m : MayC X
  · rw [may_t m]
    exact .inr ⟨X, m, h m, rfl⟩
  · rw [may_f m]
    exact .zero
theorem num_itoa {n : Int} (h : FitC n) : numberF (Lib.itoa n) = some (n, true) := by
  obtain ⟨h0, h1⟩ := h
  obtain ⟨u, rfl⟩ := Int.eq_ofNat_of_zero_le h0
  have := dig_len u (by omega)
  rw [number_spec _ (by rw [itoa_nat]; omega), numL_itoa ⟨h0, h1⟩]
theorem coins_no : (numL COINS).2 = false := by
  cases h : (numL COINS).2 with
  | false => rfl
  | true =>
    obtain ⟨v, _, e, _⟩ := numL_word h
    have := dig_mem v 99 (by rw [← e]; simp)
    simp at this
theorem pieces_each (s : Str) : ∀ (acc w : Str), w ∈ piecesL acc s → w.length ≤ acc.length + s.length := by
  induction s with
  | nil =>
    intro acc w hw
    simp [piecesL] at hw
    subst hw
    simp
  | cons c r ih =>
    intro acc w hw
    rw [pieces_cons] at hw
    split at hw
    · rcases List.mem_cons.1 hw with rfl | hw
      · simp
      · have := ih _ _ hw
        simp at this ⊢
        omega
    · have := ih _ _ hw
      simp at this ⊢
      omega
theorem words_each (s : Str) : ∀ w ∈ wordsL s, w.length ≤ s.length := fun w hw => by
  have := pieces_each s [] w (List.mem_filter.1 hw).1
  simpa using this
theorem lget_sound (s : Str) (hs : s.length ≤ 1000000) : Res (wordsL s) (lgetF s) := by
  have hL : (wordsL s).length ≤ 1000001 := by have := words_len s; omega
  have hW : ∀ w ∈ wordsL s, w.length ≤ 1000000 := fun w hw => by have := words_each s w hw; omega
  unfold lgetF
  rw [cut_eq s (by omega), obind_some]
  generalize wordsL s = l at hW hL ⊢
  cases l with
  | nil => exact .zero
  | cons w r =>
    simp only [z_cons, cnd_ff, lg_cons, obind_some, ckind_eq, e_cons, cnd_tt, ld_cons]
    cases hk : kindP w with
    | mk k b =>
    cases b with
    | false => simp only [cnd_ff, cnd_same]; exact .zero
    | true =>
      obtain ⟨hk1, rfl⟩ := kind_inv hk
      clear hk
      have hW' : ∀ w ∈ r, w.length ≤ 1000000 := fun w h => hW w (List.mem_cons_of_mem _ h)
      simp only [List.length_cons] at hL
      simp only [cnd_tt]
      obtain rfl | rfl | rfl | rfl | rfl | rfl | rfl | rfl | rfl | rfl := ten hk1.1 hk1.2 <;> simp only [ieq, Int.reduceEq, decide_true, decide_false, cnd_tt, cnd_ff] <;> clear hk1 hW
      · refine .head fun a r e => ?_
        subst e
        simp only [e_cons, cnd_tt, ld_cons]
        refine .dir fun d hd e => ?_
        subst e
        dsimp only
        refine .fin fun e => ?_
        subst e
        exact .may (by simp) (by simp) (fun _ => by simp [wordsP])
      · refine .head fun a r e => ?_
        subst e
        simp only [e_cons, cnd_tt, ld_cons]
        refine .num (hW' a (by simp)) fun n hn e => ?_
        subst e
        dsimp only
        refine .head fun b r e => ?_
        subst e
        simp only [e_cons, cnd_tt, ld_cons]
        refine .dir fun d hd e => ?_
        subst e
        dsimp only
        refine .fin fun e => ?_
        subst e
        exact .may (by simp) (by simp) (fun _ => by simp [wordsP])
      · refine .head fun a r e => ?_
        subst e
        simp only [e_cons, cnd_tt, ld_cons]
        refine .num (hW' a (by simp)) fun n hn e => ?_
        subst e
        dsimp only
        refine .fin fun e => ?_
        subst e
        exact .may (by simp) (by simp) (fun _ => by simp [wordsP])
      · refine .head fun a r e => ?_
        subst e
        simp only [e_cons, cnd_tt, ld_cons]
        refine .num (hW' a (by simp)) fun n hn e => ?_
        subst e
        dsimp only
        refine .fin fun e => ?_
        subst e
        exact .may (by simp) (by simp) (fun _ => by simp [wordsP])
      · refine .head fun a r e => ?_
        subst e
        simp only [e_cons, cnd_tt, ld_cons]
        refine .num (hW' a (by simp)) fun n hn e => ?_
        subst e
        dsimp only
        refine .head fun b r e => ?_
        subst e
        simp only [e_cons, cnd_tt, ld_cons]
        refine .word fun e => ?_
        subst e
        refine .head fun b r e => ?_
        subst e
        simp only [e_cons, cnd_tt, ld_cons]
        refine .num (hW' b (by simp)) fun m hm e => ?_
        subst e
        dsimp only
        refine .fin fun e => ?_
        subst e
        exact .may (by simp) (by simp) (fun _ => by simp [wordsP])
      · refine .head fun a r e => ?_
        subst e
        simp only [e_cons, cnd_tt, ld_cons]
        refine .num (hW' a (by simp)) fun n hn e => ?_
        subst e
        dsimp only
        refine .head fun b r e => ?_
        subst e
        simp only [e_cons, cnd_tt, ld_cons]
        refine .word fun e => ?_
        subst e
        refine .head fun b r e => ?_
        subst e
        simp only [e_cons, cnd_tt, ld_cons]
        refine .num (hW' b (by simp)) fun m hm e => ?_
        subst e
        dsimp only
        refine .fin fun e => ?_
        subst e
        exact .may (by simp) (by simp) (fun _ => by simp [wordsP])
      · refine .head fun a r e => ?_
        subst e
        simp only [e_cons, cnd_tt, ld_cons]
        refine .num (hW' a (by simp)) fun n hn e => ?_
        subst e
        dsimp only
        refine .head fun b r e => ?_
        subst e
        simp only [e_cons, cnd_tt, ld_cons]
        refine .word fun e => ?_
        subst e
        refine .head fun b r e => ?_
        subst e
        simp only [e_cons, cnd_tt, ld_cons]
        refine .num (hW' b (by simp)) fun m hm e => ?_
        subst e
        dsimp only
        refine .fin fun e => ?_
        subst e
        exact .may (by simp) (by simp) (fun _ => by simp [wordsP])
      · refine .head fun a r e => ?_
        subst e
        simp only [e_cons, cnd_tt, ld_cons]
        refine .num (hW' a (by simp)) fun n hn e => ?_
        subst e
        dsimp only
        refine .head fun b r e => ?_
        subst e
        simp only [e_cons, cnd_tt, ld_cons]
        refine .word fun e => ?_
        subst e
        have hr : ∀ w ∈ r, w.length ≤ 1000000 := fun w h => hW' w (by simp [h])
        have hrl : r.length ≤ 1000001 := by simp at hL; omega
        rw [rowA_eq _ hr hrl (by simp), obind_some]
        dsimp only [rowA]
        have e1 := take_drop r
        have l1 := take_len r
        have l2 := drop_len r
        have m1 := drop_mem r
        generalize dropN r = q at e1 l2 m1 ⊢
        simp only [List.nil_append]
        generalize takeN r = g at e1 l1 ⊢
        subst e1
        refine .head fun a q e => ?_
        subst e
        simp only [e_cons, cnd_tt, ld_cons]
        refine .word fun e => ?_
        subst e
        refine .head fun b q e => ?_
        subst e
        simp only [e_cons, cnd_tt, ld_cons]
        refine .num (hr b (m1 b (by simp))) fun p hp e => ?_
        subst e
        dsimp only
        refine .head fun a q e => ?_
        subst e
        simp only [e_cons, cnd_tt, ld_cons]
        refine .word fun e => ?_
        subst e
        have hq : ∀ w ∈ q, w.length ≤ 1000000 := fun w h => hr w (m1 w (by simp [h]))
        have hql : q.length ≤ 1000001 := by simp only [List.length_append, List.length_cons] at hrl; omega
        rw [rowB_eq _ hq hql (by simp), obind_some]
        dsimp only [rowB]
        have e2 := take_drop q
        have l3 := take_len q
        have m2 := drop_mem q
        generalize dropN q = v at e2 m2 ⊢
        simp only [List.nil_append]
        generalize takeN q = u at e2 l3 ⊢
        subst e2
        refine .head fun a v e => ?_
        subst e
        simp only [e_cons, cnd_tt, ld_cons]
        refine .word fun e => ?_
        subst e
        refine .head fun b v e => ?_
        subst e
        simp only [e_cons, cnd_tt, ld_cons]
        refine .num (hq b (m2 b (by simp))) fun f hf e => ?_
        subst e
        dsimp only
        refine .fin fun e => ?_
        subst e
        exact .may (by simp only; omega) (by simp only; omega) (fun _ => by simp [wordsP])
      · refine .fin fun e => ?_
        subst e
        exact .may (by simp) (by simp) (fun _ => by simp [wordsP])
      · refine .fin fun e => ?_
        subst e
        exact .may (by simp) (by simp) (fun _ => by simp [wordsP])
theorem dir_ok {d : Int} (h : 0 ≤ d ∧ d ≤ 3) : cdirF (wayP d) = some (d, true) := by rw [cdir_eq, dir_way h]
theorem kind_ok {k : Int} (h : 1 ≤ k ∧ k ≤ 10) : ckindF (nameP k) = some (k, true) := by rw [ckind_eq, kind_name h]
theorem lget_of (s : Str) (c : Cmd) (hs : s.length ≤ 1000000) (h : MayC c) (e : wordsL s = wordsP c) : lgetF s = some (c, 0) := by
  have hm := cmay_ok h
  have hrow := may_rows h
  have hW : ∀ w ∈ wordsL s, w.length ≤ 1000000 := fun w hw => by have := words_each s w hw; omega
  unfold lgetF
  rw [cut_eq s (by omega), obind_some, e]
  rw [e] at hW
  obtain ⟨kind, dir, item, box, who, gives, pay, wants, fee⟩ := c
  obtain ⟨hk, hd, hz, hi, hb, hw, hp, hf, hg, hws⟩ := h
  simp only at hk hd hz hi hb hw hp hf hg hws hrow
  unfold wordsP at hW ⊢
  simp only [z_cons, cnd_ff, lg_cons, obind_some, kind_ok hk, e_cons, cnd_tt, ld_cons]
  obtain rfl | rfl | rfl | rfl | rfl | rfl | rfl | rfl | rfl | rfl := ten hk.1 hk.2 <;> simp only [ieq_ff, ieq_tt, not_false_eq_true, Int.reduceEq, cnd_tt, cnd_ff, if_true, if_false, reduceIte]
  · obtain rfl := hi.2 (by decide)
    obtain rfl := hb.2 (by decide)
    obtain rfl := hw.2 (by decide)
    obtain rfl := hp.2 (by decide)
    obtain rfl := hf.2 (by decide)
    obtain rfl := hg.2 (by decide)
    obtain rfl := hws.2 (by decide)
    simp only [z_cons, cnd_ff, lg_cons, obind_some, dir_ok hd, e_cons, cnd_tt, ld_cons, t_nil, hm]
    rfl
  · obtain rfl := hi.2 (by decide)
    obtain rfl := hb.2 (by decide)
    have hw1 := hw.1 (by decide)
    obtain rfl := hp.2 (by decide)
    obtain rfl := hf.2 (by decide)
    obtain rfl := hg.2 (by decide)
    obtain rfl := hws.2 (by decide)
    simp only [z_cons, cnd_ff, lg_cons, obind_some, num_itoa hw1, dir_ok hd, e_cons, cnd_tt, ld_cons, t_nil, hm]
    rfl
  · obtain rfl : dir = 0 := by omega
    have hi1 := hi.1 (by decide)
    obtain rfl := hb.2 (by decide)
    obtain rfl := hw.2 (by decide)
    obtain rfl := hp.2 (by decide)
    obtain rfl := hf.2 (by decide)
    obtain rfl := hg.2 (by decide)
    obtain rfl := hws.2 (by decide)
    simp only [z_cons, cnd_ff, lg_cons, obind_some, num_itoa hi1, e_cons, cnd_tt, ld_cons, t_nil, hm]
    rfl
  · obtain rfl : dir = 0 := by omega
    have hi1 := hi.1 (by decide)
    obtain rfl := hb.2 (by decide)
    obtain rfl := hw.2 (by decide)
    obtain rfl := hp.2 (by decide)
    obtain rfl := hf.2 (by decide)
    obtain rfl := hg.2 (by decide)
    obtain rfl := hws.2 (by decide)
    simp only [z_cons, cnd_ff, lg_cons, obind_some, num_itoa hi1, e_cons, cnd_tt, ld_cons, t_nil, hm]
    rfl
  · obtain rfl : dir = 0 := by omega
    have hi1 := hi.1 (by decide)
    have hb1 := hb.1 (by decide)
    obtain rfl := hw.2 (by decide)
    obtain rfl := hp.2 (by decide)
    obtain rfl := hf.2 (by decide)
    obtain rfl := hg.2 (by decide)
    obtain rfl := hws.2 (by decide)
    simp only [z_cons, cnd_ff, lg_cons, obind_some, num_itoa hi1, num_itoa hb1, e_cons, cnd_tt, ld_cons, t_nil, hm, seq, bnot, decide_true, Bool.not_true]
  · obtain rfl : dir = 0 := by omega
    have hi1 := hi.1 (by decide)
    have hb1 := hb.1 (by decide)
    obtain rfl := hw.2 (by decide)
    obtain rfl := hp.2 (by decide)
    obtain rfl := hf.2 (by decide)
    obtain rfl := hg.2 (by decide)
    obtain rfl := hws.2 (by decide)
    simp only [z_cons, cnd_ff, lg_cons, obind_some, num_itoa hi1, num_itoa hb1, e_cons, cnd_tt, ld_cons, t_nil, hm, seq, bnot, decide_true, Bool.not_true]
  · obtain rfl : dir = 0 := by omega
    have hi1 := hi.1 (by decide)
    obtain rfl := hb.2 (by decide)
    have hw1 := hw.1 (by decide)
    obtain rfl := hp.2 (by decide)
    obtain rfl := hf.2 (by decide)
    obtain rfl := hg.2 (by decide)
    obtain rfl := hws.2 (by decide)
    simp only [z_cons, cnd_ff, lg_cons, obind_some, num_itoa hi1, num_itoa hw1, e_cons, cnd_tt, ld_cons, t_nil, hm, seq, bnot, decide_true, Bool.not_true]
  · obtain rfl : dir = 0 := by omega
    obtain rfl := hi.2 (by decide)
    obtain rfl := hb.2 (by decide)
    have hw1 := hw.1 (by decide)
    have hp1 := hp.1 (by decide)
    have hf1 := hf.1 (by decide)
    have hg1 := hg.1 rfl
    have hws1 := hws.1 rfl
    simp only [reduceIte, Int.reduceEq] at hW
    have w1 : ∀ w ∈ numsP gives ++ (COINS :: Lib.itoa pay :: FOR :: (numsP wants ++ [COINS, Lib.itoa fee])), w.length ≤ 1000000 := fun w h => hW w (by simp only [List.mem_cons]; exact .inr (.inr (.inr h)))
    have w2 : ∀ w ∈ numsP wants ++ [COINS, Lib.itoa fee], w.length ≤ 1000000 := fun w h => w1 w (by rw [List.mem_append]; right; simp only [List.mem_cons]; exact .inr (.inr (.inr h)))
    simp only [z_cons, zd_cons, cnd_ff, lg_cons, obind_some, num_itoa hw1, e_cons, cnd_tt, ld_cons, seq, bnot, decide_true, Bool.not_true]
    rw [rowA_eq _ w1 (by simp [numsP]; omega) (by simp), obind_some]
    dsimp only [rowA]
    rw [take_nums _ hg1.2 _ _ coins_no, drop_nums _ hg1.2 _ _ coins_no]
    simp only [z_cons, zd_cons, cnd_ff, lg_cons, obind_some, num_itoa hp1, e_cons, cnd_tt, ld_cons, decide_true, Bool.not_true]
    rw [rowB_eq _ w2 (by simp [numsP]; omega) (by simp), obind_some]
    dsimp only [rowB]
    rw [take_nums _ hws1.2 _ _ coins_no, drop_nums _ hws1.2 _ _ coins_no]
    simp only [z_cons, zd_cons, cnd_ff, lg_cons, obind_some, num_itoa hf1, e_cons, cnd_tt, ld_cons, decide_true, Bool.not_true, t_nil, List.nil_append, hm]
  · obtain rfl : dir = 0 := by omega
    obtain rfl := hi.2 (by decide)
    obtain rfl := hb.2 (by decide)
    obtain rfl := hw.2 (by decide)
    obtain rfl := hp.2 (by decide)
    obtain rfl := hf.2 (by decide)
    obtain rfl := hg.2 (by decide)
    obtain rfl := hws.2 (by decide)
    simp only [t_nil, cnd_ff, hm, obind_some]
    rfl
  · obtain rfl : dir = 0 := by omega
    obtain rfl := hi.2 (by decide)
    obtain rfl := hb.2 (by decide)
    obtain rfl := hw.2 (by decide)
    obtain rfl := hp.2 (by decide)
    obtain rfl := hf.2 (by decide)
    obtain rfl := hg.2 (by decide)
    obtain rfl := hws.2 (by decide)
    simp only [t_nil, cnd_ff, hm, obind_some]
    rfl
open Classical in
/-- What a line reads as. -/
noncomputable def getL (l : List Str) : Cmd × Int := if h : ∃ c, MayC c ∧ wordsP c = l then (Classical.choose h, 0) else (zeroC, 2)
theorem lget_eq (s : Str) (hs : s.length ≤ 1000000) : lgetF s = some (getL (wordsL s)) := by
  unfold getL
  by_cases h : ∃ c, MayC c ∧ wordsP c = wordsL s
  · rw [dif_pos h]
    have := Classical.choose_spec h
    exact lget_of s _ hs this.1 this.2.symm
  · rw [dif_neg h]
    rcases lget_sound s hs with e | ⟨c, hc, hw, _⟩
    · exact e
    · exact absurd ⟨c, hc, hw⟩ h
end Go.Sx
