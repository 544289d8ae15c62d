/-
  Lines: kinds.
-/
import Derived.Test.YtcpildkbkjeijaaGreatDoorSyTj
set_option linter.unusedVariables false
set_option linter.unusedSimpArgs false
namespace Go.Sx
open Go Go.Proofs
open Go.Lib (decDigits nDigits)
/-- A loop that carries something along. -/
theorem iter_sim {X O X' O' : Type} {T : (X → Option O) → X → Option O} {T' : (X' → Option O') → X' → Option O'} (e : X → X') (f : O → O') (h : ∀ rec rec', (∀ x, rec' (e x) = (rec x).map f) → ∀ x, T' rec' (e x) = (T rec x).map f) : ∀ (L : Nat) (x : X), iter T' L (e x) = (iter T L x).map f
  | 0, x => rfl
  | L + 1, x => h (iter T L) (iter T' L) (iter_sim e f h L) x
abbrev CT : Type := (Int × (Int × (Int × (Int × (Int × ((List Int) × (Int × ((List Int) × (Int × Unit)))))))))
theorem cut_in (A : CT) : ∀ (L : Nat) (x : (((List UInt8) × (Int × (Int × Unit))) × ((List (List UInt8)) × Unit))), iter lineKinds.linnkeepref02Cutr7.T L (x.1, (A, x.2)) = (iter rcut.lr7.T L x).map fun o => (o.1, (A, o.2)) :=
  iter_sim (T := rcut.lr7.T) (T' := lineKinds.linnkeepref02Cutr7.T) (fun x => (x.1, (A, x.2))) (fun o => (o.1, (A, o.2))) fun rec rec' hr x => by
    obtain ⟨⟨s, i, j, _⟩, o, _⟩ := x
    unfold lineKinds.linnkeepref02Cutr7.T rcut.lr7.T
    simp only
    cases ilt j (ilen s) with
    | false => rfl
    | true =>
      cases lget s j with
      | none => rfl
      | some c =>
        show cnd (bnot (ieq (u8i c) 32)) _ _ = Option.map _ (cnd (bnot (ieq (u8i c) 32)) _ _)
        cases bnot (ieq (u8i c) 32) with
        | false => rfl
        | true => exact hr ((s, (i, (wrap .i64 (iadd j 1), ()))), (o, ()))
theorem cut_out (A : CT) : ∀ (L : Nat) (x : (((List UInt8) × (Int × Unit)) × ((List (List UInt8)) × Unit))), iter lineKinds.linnkeepref02Cutr3.T L (x.1, (A, x.2)) = (iter rcut.lr3.T L x).map fun o => (o.1, (A, o.2)) :=
  iter_sim (T := rcut.lr3.T) (T' := lineKinds.linnkeepref02Cutr3.T) (fun x => (x.1, (A, x.2))) (fun o => (o.1, (A, o.2))) fun rec rec' hr x => by
    obtain ⟨⟨s, i, _⟩, o, _⟩ := x
    have hin := cut_in A bigL ((s, (i, (i, ()))), (o, ()))
    unfold lineKinds.linnkeepref02Cutr3.T rcut.lr3.T
    simp only at hin ⊢
    cases ilt i (ilen s) with
    | false => rfl
    | true =>
      cases lget s i with
      | none => rfl
      | some c =>
        show cnd (ieq (u8i c) 32) _ _ = Option.map _ (cnd (ieq (u8i c) 32) _ _)
        cases ieq (u8i c) 32 with
        | true => exact hr ((s, (wrap .i64 (iadd i 1), ())), (o, ()))
        | false =>
          show obind (iter lineKinds.linnkeepref02Cutr7.T bigL ((s, (i, (i, ()))), (A, (o, ())))) _ = Option.map _ (obind (iter rcut.lr7.T bigL ((s, (i, (i, ()))), (o, ()))) _)
          rw [hin]
          cases iter rcut.lr7.T bigL ((s, (i, (i, ()))), (o, ())) with
          | none => rfl
          | some y =>
            obtain ⟨⟨s', i', j', _⟩, o', _⟩ := y
            show cnd (ile 0 i') _ _ = Option.map _ (cnd (ile 0 i') _ _)
            cases ile 0 i' with
            | false => rfl
            | true =>
              show cnd (ile i' j') _ _ = Option.map _ (cnd (ile i' j') _ _)
              cases ile i' j' with
              | false => rfl
              | true =>
                show cnd (ile j' (ilen s')) _ _ = Option.map _ (cnd (ile j' (ilen s')) _ _)
                cases ile j' (ilen s') with
                | false => rfl
                | true =>
                  show cnd (ilt (imul (iadd (ilen o') 1) 16) 140737488355329) _ _ = Option.map _ (cnd (ilt (imul (iadd (ilen o') 1) 16) 140737488355329) _ _)
                  cases ilt (imul (iadd (ilen o') 1) 16) 140737488355329 with
                  | false => rfl
                  | true => exact hr ((s', (j', ())), (lapp o' [ldrop (ltake s' j') i'], ()))
theorem cut_loop (s : Str) (hs : s.length ≤ 1000000) : iter rcut.lr3.T bigL ((s, (0, ())), ([], ())) = some ((), (wordsL s, ())) := by
  have h := rcut_eq s hs
  unfold rcutF at h
  cases hi : iter rcut.lr3.T bigL ((s, (0, ())), ([], ())) with
  | none => rw [hi] at h; cases h
  | some y =>
    rw [hi] at h
    obtain ⟨_, o, _⟩ := y
    cases h
    rfl
theorem cutK_eq (A : CT) (s : Str) (hs : s.length ≤ 1000000) : iter lineKinds.linnkeepref02Cutr3.T bigL ((s, (0, ())), (A, ([], ()))) = some ((), (A, (wordsL s, ()))) := by
  have h := cut_out A bigL ((s, (0, ())), ([], ()))
  rw [cut_loop s hs] at h
  exact h
theorem words_inj {c d : Cmd} (hc : MayC c) (hd : MayC d) (e : wordsP c = wordsP d) : c = d := by
  have h1 := getL_of (s := Lib.join (wordsP c) [32]) (c := c) (by have := join_short hc; omega) hc (words_of_join hc)
  have h2 := getL_of (s := Lib.join (wordsP c) [32]) (c := d) (by have := join_short hc; omega) hd (by rw [words_of_join hc, e])
  rw [h1] at h2
  cases h2
  rfl
theorem kinds_law (c : Cmd) (k : Int) (hk : 0 ≤ k ∧ k ≤ 255) : lineKindsF c k = some true := by
  unfold lineKindsF
  rw [qawake_ok, obind_some, cnd_f (b := bnot true) rfl]
  obtain ⟨b, hb, hf⟩ := few_cmd c
  rw [show r3fewF _ = _ from hb, obind_some]
  cases b with
  | false => rfl
  | true =>
    obtain ⟨f1, f2⟩ := hf rfl
    rw [cnd_f (b := bnot true) rfl, show r3mayF _ = _ from r3may_eq c (by omega) (by omega), obind_some]
    by_cases hm : MayC c
    · rw [may_t hm, cnd_f (b := bnot true) rfl, show lputF _ = _ from lput_eq c (by omega) (by omega), obind_some, may_t hm, if_pos rfl]
      simp only
      have hj := join_short hm
      rw [cutK_eq _ _ (by omega), obind_some, words_of_join hm]
      simp only
      have hq : irem k 10 = k % 10 := Int.tmod_eq_emod_of_nonneg hk.1
      have hk' : wrap .i64 (iadd 1 (wrap .i64 (irem k 10))) = 1 + k % 10 := by
        rw [hq, wrap_in (n := k % 10) (by omega) (by omega)]
        exact wrap_in (n := 1 + k % 10) (by omega) (by omega)
      rw [hk']
      obtain ⟨q, hqq⟩ : ∃ q, 1 + k % 10 = q := ⟨_, rfl⟩
      have hqr : 1 ≤ q ∧ q ≤ 10 := by omega
      rw [hqq]
      obtain ⟨r, hr⟩ : ∃ r, wordsP c = nameP c.kind :: r := ⟨_, rfl⟩
      have hcnt := words_cnt hm
      have hok := words_ok hm
      rw [hr] at hcnt hok ⊢
      simp only [z_cons, t_cons, lg_cons, cnd_ff, cnd_tt, obind_some, r3name_eq]
      rw [cnd_f (b := bnot (seq (nameP c.kind) (nameP c.kind))) (by simp)]
      have hset : lset (nameP c.kind :: r) 0 (nameP q) = nameP q :: r := rfl
      rw [hset]
      have hok2 : ∀ w ∈ nameP q :: r, Plain w ∧ w.length ≤ 18 := by
        intro w hw
        rcases List.mem_cons.1 hw with rfl | hw
        · exact name_plain hqr
        · exact hok w (List.mem_cons_of_mem _ hw)
      have hcnt2 : (nameP q :: r).length ≤ 40 := by simpa using hcnt
      have hjl := join_len 18 (nameP q :: r) (fun w hw => (hok2 w hw).2)
      have hjl2 : (nameP q :: r).length * (18 + 1) ≤ 40 * 19 := Nat.mul_le_mul_right _ hcnt2
      rw [rjoinF_eq _ (by omega) (fun w hw => by have := (hok2 w hw).2; omega), obind_some, lget_eq _ (by omega), obind_some, words_join _ (fun w hw => (hok2 w hw).1)]
      rcases getL_or (nameP q :: r) with e | ⟨c', h1, h2, e⟩
      · rw [e]; rfl
      · rw [e]
        simp only
        have hkk := kind_of_words h1 hqr h2
        have hrow := may_rows hm
        rw [cnd_f (b := bnot (ieq 0 0)) rfl, hkk, ieq_tt, cnd_tt]
        have hs : r3sameF c c' = some (decide (c = c')) := r3same_eq c c' (by omega) (by omega)
        rw [← hkk]
        rw [show r3sameF _ _ = _ from hs, obind_some]
        by_cases hqk : c'.kind = c.kind
        · have : c = c' := words_inj hm h1 (by rw [hr, h2, ← hkk, hqk])
          rw [decide_eq_true this, hqk, ieq_tt]
          rfl
        · have : c ≠ c' := fun e => hqk (by rw [e])
          rw [decide_eq_false this, ieq_ff hqk]
          rfl
    · rw [may_f hm]; rfl
theorem lineKinds_ok : ∀ xs : Lf [.st .cmd, .int .u8], (∀ m, wfA m _ xs) → lineKindsF xs.1 xs.2.1 = some true := by
  rintro ⟨c, k, _⟩ hw
  obtain ⟨_, hw⟩ := wfA_cons hw
  obtain ⟨hk, _⟩ := wfA_cons hw
  exact kinds_law c k (wf_u8 hk)
end Go.Sx
