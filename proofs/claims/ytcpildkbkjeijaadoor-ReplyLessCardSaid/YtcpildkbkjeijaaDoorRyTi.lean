/-
  Answers: what the document's reading makes of a text.
-/
import Derived.Test.YtcpildkbkjeijaaDoorRyTh
set_option linter.unusedVariables false
set_option linter.unusedSimpArgs false
namespace Go.Sx
open Go Go.Proofs
open Go.Lib (decDigits nDigits)
noncomputable def candR (l : List Str) : Reply := match l with
  | [] => zeroR
  | w :: ws => if w = ERR then errR (hdN ws)
    else if (kindP w).1 = 1 ∨ (kindP w).1 = 2 then ⟨0, (kindP w).1, hdN ws, [], [], 0⟩
    else if (kindP w).1 = 9 then ⟨0, 9, hdN ws, (tkW (ws.drop 2)).map nmW, it5 ((ws.drop 2).drop ((tkW (ws.drop 2)).length + 1)), 0⟩
    else if (kindP w).1 = 10 then ⟨0, 10, 0, [], it5 (ws.drop 2), hdN ws⟩
    else ⟨0, (kindP w).1, 0, [], [], 0⟩
noncomputable def finR (s : Str) (r : Reply) : Reply × Int := if mayR r = true ∧ textR r = s then (r, 0) else (zeroR, 2)
theorem fin_yes {s : Str} {r : Reply} (h : MayR r) (e : textR r = s) : finR s r = (r, 0) := if_pos ⟨mayR_t h, e⟩
theorem fin_or (s : Str) (r : Reply) : (finR s r = (zeroR, 2)) ∨ (MayR r ∧ textR r = s ∧ finR s r = (r, 0)) := by
  by_cases h : mayR r = true ∧ textR r = s
  · exact .inr ⟨mayR_iff.1 h.1, h.2, if_pos h⟩
  · exact .inl (if_neg h)
theorem leaf5 (s : Str) (r : Reply) (hp : r.players.length ≤ 1000000000) (hi : r.items.length ≤ 1000000000) :
    obind (r5putF r) (fun x => cnd (bnot (ieq x.2 0)) (some (zeroR, 2)) (cnd (bnot (seq x.1 s)) (some (zeroR, 2)) (some (r, 0)))) = some (finR s r) := by
  rw [r5put_eq r hp hi, obind_some]
  unfold finR
  by_cases hm : mayR r = true
  · by_cases e : textR r = s
    · simp [hm, e]
    · simp [hm, e]
  · simp [hm]
theorem leafR (s : Str) (r : Reply) (b : Bool) (hp : r.players.length ≤ 1000000000) (hi : r.items.length ≤ 1000000000) :
    obind (rputF r) (fun x => cnd b (some (zeroR, 2)) (cnd (bnot (ieq x.2 0)) (some (zeroR, 2)) (cnd (bnot (seq x.1 s)) (some (zeroR, 2)) (some (r, 0))))) = some (if b = true then (zeroR, 2) else finR s r) := by
  rw [rput_eq r hp hi, obind_some]
  unfold finR
  cases b with
  | true => rfl
  | false =>
    by_cases hm : mayR r = true
    · by_cases e : textR r = s
      · simp [hm, e]
      · simp [hm, e]
    · simp [hm]
theorem leafR0 (s : Str) (r : Reply) (hp : r.players.length ≤ 1000000000) (hi : r.items.length ≤ 1000000000) :
    obind (rputF r) (fun x => cnd (bnot (ieq x.2 0)) (some (zeroR, 2)) (cnd (bnot (seq x.1 s)) (some (zeroR, 2)) (some (r, 0)))) = some (finR s r) := by
  have := leafR s r false hp hi
  simpa using this
theorem leafZ (r : Reply) (hp : r.players.length ≤ 1000000000) (hi : r.items.length ≤ 1000000000) : obind (rputF r) (fun x => some (zeroR, (2 : Int))) = some (zeroR, 2) := by
  rw [rput_eq r hp hi, obind_some]
theorem fi_lt : ∀ (l : List Str) (s : Str) (k j : Int), fi l s k = some j → j < k + l.length
  | [], _, _, _, h => by simp [fi] at h
  | a :: r, s, k, j, h => by
    unfold fi at h
    split at h
    · simp at h ⊢; omega
    · have := fi_lt r s _ _ h; simp; omega
theorem kind_rng (w : Str) : 0 ≤ (kindP w).1 ∧ (kindP w).1 ≤ 10 := by
  unfold kindP
  cases h : fi kindsL.tail w 1 with
  | none => decide
  | some k =>
    have h1 := fi_ge _ _ _ _ h
    have h2 := fi_lt _ _ _ _ h
    rw [show kindsL.tail.length = 10 from rfl] at h2
    simp only
    omega
theorem lget0 {α : Type} (w : α) (l : List α) : lget (w :: l) 0 = some w := rfl
theorem ilt0c {α : Type} (w : α) (l : List α) : ilt 0 (ilen (w :: l)) = true := decide_eq_true (by rw [ilen_eq, List.length_cons]; omega)
theorem ilt0n {α : Type} : ilt 0 (ilen ([] : List α)) = false := rfl
theorem ile1c {α : Type} (w : α) (l : List α) : ile 1 (ilen (w :: l)) = true := decide_eq_true (by rw [ilen_eq, List.length_cons]; omega)
theorem ieq0c {α : Type} (w : α) (l : List α) : ieq (ilen (w :: l)) 0 = false := decide_eq_false (by rw [ilen_eq, List.length_cons]; omega)
theorem ieq0n {α : Type} : ieq (ilen ([] : List α)) 0 = true := rfl
theorem ldrop1 {α : Type} (w : α) (l : List α) : ldrop (w :: l) 1 = l := rfl
theorem r5get_eq (s : Str) (hs : s.length ≤ 1000000) : r5getF s = some (finR s (candR (wordsL s))) := by
  unfold r5getF
  have hl := words_len s
  rw [rcut_eq s hs, obind_some]
  generalize wordsL s = l at *
  cases l with
  | nil => exact leaf5 s zeroR (by simp) (by simp)
  | cons w ws =>
    have hl' : ws.length ≤ 1000000 := by simp at hl; omega
    have hnum : r5numF (w :: ws) 1 = some (hdN ws) := r5num_eq (w :: ws) (by decide)
    rw [lget0, cnd_t (ilt0c w ws), obind_some]
    by_cases hw : w = ERR
    · rw [cnd_t (decide_eq_true hw), hnum, obind_some]
      simp only [candR, if_pos hw]
      exact leaf5 s (errR (hdN ws)) (by simp) (by simp)
    rw [cnd_f (decide_eq_false hw)]
    simp only [candR, if_neg hw]
    rw [cnd_t (ilt0c w ws), obind_some, r3kind_eq, obind_some]
    have hk := kind_rng w
    generalize (kindP w) = kk at *
    obtain ⟨k, kb⟩ := kk
    simp only at hk ⊢
    by_cases k1 : k = 1
    · subst k1
      rw [cnd_t (b := ieq 1 1) rfl, hnum, obind_some, cnd_f (b := ieq 1 10) rfl, cnd_f (b := ieq 1 9) rfl, cnd_f (b := ile 9 1) rfl]
      exact leaf5 s ⟨0, 1, hdN ws, [], [], 0⟩ (by simp) (by simp)
    rw [cnd_f (ieq_f k1)]
    by_cases k2 : k = 2
    · subst k2
      rw [cnd_t (b := ieq 2 2) rfl, hnum, obind_some, cnd_f (b := ieq 2 10) rfl, cnd_f (b := ieq 2 9) rfl, cnd_f (b := ile 9 2) rfl]
      exact leaf5 s ⟨0, 2, hdN ws, [], [], 0⟩ (by simp) (by simp)
    rw [cnd_f (ieq_f k2), if_neg (by omega)]
    by_cases k9 : k = 9
    · subst k9
      rw [if_pos rfl, cnd_t (b := ieq 9 9) rfl, hnum, obind_some, cnd_f (b := ieq 9 10) rfl, cnd_t (b := ieq 9 9) rfl]
      rw [g5_loop1 s (w :: ws) 3 _ _ [] (by decide) (by simp; omega) (by simp), obind_some]
      have tl := tk_len (ws.drop 2)
      simp only [List.length_drop] at tl
      simp only [show (3 : Int).toNat = 3 from rfl, List.drop_succ_cons, List.nil_append]
      generalize hT : tkW (ws.drop 2) = T at *
      have hw : wrap .i64 (iadd (3 + (T.length : Int)) 1) = 3 + (T.length : Int) + 1 := wrap_in (n := 3 + (T.length : Int) + 1) (by omega) (by omega)
      rw [hw, cnd_t (b := ile 9 9) rfl, g5_loop2 s (w :: ws) (3 + (T.length : Int) + 1) _ _ _ [] (by omega) (by simp; omega) (by simp; omega), obind_some]
      simp only [List.nil_append]
      have e : (w :: ws).drop (3 + (T.length : Int) + 1).toNat = (ws.drop 2).drop (T.length + 1) := by
        rw [List.drop_drop, show (3 + (T.length : Int) + 1).toNat = (2 + (T.length + 1)) + 1 by omega, List.drop_succ_cons]
      rw [e]
      have il := it5_len _ ((ws.drop 2).drop (T.length + 1)) (Nat.le_refl _)
      simp only [List.length_drop] at il
      exact leaf5 s ⟨0, 9, hdN ws, T.map nmW, it5 ((ws.drop 2).drop (T.length + 1)), 0⟩ (by simp; omega) (by simp only; omega)
    rw [cnd_f (ieq_f k9), if_neg k9]
    by_cases k10 : k = 10
    · subst k10
      rw [if_pos rfl, cnd_t (b := ieq 10 10) rfl, hnum, obind_some]
      try rw [cnd_f (b := ieq 10 9) rfl]
      rw [cnd_t (b := ile 9 10) rfl]
      rw [g5_loop2 s (w :: ws) 3 _ _ _ [] (by omega) (by simp; omega) (by simp), obind_some]
      simp only [show (3 : Int).toNat = 3 from rfl, List.drop_succ_cons, List.nil_append]
      have il := it5_len _ (ws.drop 2) (Nat.le_refl _)
      simp only [List.length_drop] at il
      exact leaf5 s ⟨0, 10, 0, [], it5 (ws.drop 2), hdN ws⟩ (by simp) (by simp only; omega)
    rw [cnd_f (ieq_f k10), if_neg k10]
    try rw [cnd_f (ieq_f k9)]
    rw [cnd_f (ile_f (a := 9) (by omega))]
    exact leaf5 s ⟨0, k, 0, [], [], 0⟩ (by simp) (by simp)
end Go.Sx
