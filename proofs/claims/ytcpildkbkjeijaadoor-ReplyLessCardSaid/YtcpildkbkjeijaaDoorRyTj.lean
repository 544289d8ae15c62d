/-
  Answers: the loops of reply.Get.
-/
import Derived.Test.YtcpildkbkjeijaaDoorRyTi
import Derived.Test.YtcpildkbkjeijaaDoorRyN
set_option linter.unusedVariables false
set_option linter.unusedSimpArgs false
namespace Go.Sx
open Go Go.Proofs
open Go.Lib (decDigits nDigits)
noncomputable def plR : List Str → Bool → List Str × (Bool × List Int)
  | [], b => ([], (b, []))
  | w :: r, b => bif b then (w :: r, (true, [])) else if w = ITEMS then (w :: r, (false, [])) else ((plR r (!(numL w).2)).1, ((plR r (!(numL w).2)).2.1, (numL w).1 :: (plR r (!(numL w).2)).2.2))
theorem pl_nil (b : Bool) : plR [] b = ([], (b, [])) := rfl
theorem pl_bad (w : Str) (r : List Str) : plR (w :: r) true = (w :: r, (true, [])) := rfl
theorem pl_end (r : List Str) : plR (ITEMS :: r) false = (ITEMS :: r, (false, [])) := by
  simp [plR]
theorem pl_go {w : Str} (h : w ≠ ITEMS) (r : List Str) : plR (w :: r) false = ((plR r (!(numL w).2)).1, ((plR r (!(numL w).2)).2.1, (numL w).1 :: (plR r (!(numL w).2)).2.2)) := by
  rw [plR]
  simp [h]
theorem pl_len : ∀ (l : List Str) (b : Bool), (plR l b).1.length + (plR l b).2.2.length ≤ l.length ∧ ∀ w ∈ (plR l b).1, w ∈ l
  | [], b => by simp [pl_nil]
  | w :: r, true => by simp [pl_bad]
  | w :: r, false => by
    by_cases h : w = ITEMS
    · subst h
      simp [pl_end]
    · have := pl_len r (!(numL w).2)
      rw [pl_go h]
      simp only [List.length_cons]
      exact ⟨by omega, fun u hu => List.mem_cons_of_mem _ (this.2 u hu)⟩
def ixW (b : Str) : Int := (fi placesL b 0).getD (-1)
theorem sindex_p (b : Str) : sindexF ([([105, 110] : List UInt8), ([119, 105, 116, 104] : List UInt8), ([98, 111, 120] : List UInt8)]) b = some (ixW b) := sindex_eq placesL b (by decide)
noncomputable def ilR : List Str → Bool → List Str × (Bool × List Seen)
  | [], b => ([], (b, []))
  | [a], b => bif b then ([a], (true, [])) else ([], (true, [⟨(numL a).1, ⟨ixW [], 0⟩⟩]))
  | [a, c], b => bif b then ([a, c], (true, [])) else ([], (true, [⟨(numL a).1, ⟨ixW c, 0⟩⟩]))
  | a :: c :: d :: r, b => bif b then (a :: c :: d :: r, (true, [])) else
    ((ilR r (!(numL a).2 || !(numL d).2)).1, ((ilR r (!(numL a).2 || !(numL d).2)).2.1, ⟨(numL a).1, ⟨ixW c, (numL d).1⟩⟩ :: (ilR r (!(numL a).2 || !(numL d).2)).2.2))
theorem il_bad (l : List Str) : ilR l true = (l, (true, [])) := by
  rcases l with _ | ⟨a, _ | ⟨c, _ | ⟨d, r⟩⟩⟩ <;> simp [ilR]
theorem il_len : ∀ (l : List Str) (b : Bool), (ilR l b).2.2.length ≤ l.length
  | [], b => by simp [ilR]
  | [a], b => by cases b <;> simp [ilR]
  | [a, c], b => by cases b <;> simp [ilR]
  | a :: c :: d :: r, true => by simp [ilR]
  | a :: c :: d :: r, false => by
    have := il_len r (!(numL a).2 || !(numL d).2)
    simp only [ilR, cond_false, List.length_cons]
    omega
abbrev I4 : Type := Int × (Int × (Int × (Int × Unit)))
theorem gr_loop1 (A B C : I4) (ws : List Str) (bad : Bool) (p : List Int) (hw : ∀ w ∈ ws, w.length ≤ 1000000) (hl : ws.length + p.length ≤ 3000000) :
    iter rget.lreplyreaderreadr13.T bigL ((), (A, ((ws, (bad, ())), (B, (C, (p, ())))))) = some ((), (A, (((plR ws bad).1, ((plR ws bad).2.1, ())), (B, (C, (p ++ (plR ws bad).2.2, ())))))) := by
  refine iter_big (T := rget.lreplyreaderreadr13.T) (x := ((), (A, ((ws, (bad, ())), (B, (C, (p, ()))))))) (fun x => x.2.2.1.1.length) (fun x => (∀ w ∈ x.2.2.1.1, w.length ≤ 1000000) ∧ x.2.2.1.1.length + x.2.2.2.2.2.1.length ≤ 3000000)
    (fun x => some ((), (x.2.1, (((plR x.2.2.1.1 x.2.2.1.2.1).1, ((plR x.2.2.1.1 x.2.2.1.2.1).2.1, ())), (x.2.2.2.1, (x.2.2.2.2.1, (x.2.2.2.2.2.1 ++ (plR x.2.2.1.1 x.2.2.1.2.1).2.2, ()))))))) ?_ ⟨hw, hl⟩ (by simp; omega)
  rintro ⟨_, ⟨a1, a2, a3, a4, _⟩, ⟨ws, bad, _⟩, ⟨b1, b2, b3, b4, _⟩, ⟨c1, c2, c3, c4, _⟩, p, _⟩ rec ⟨h1, h2⟩ hr
  simp only at h1 h2 ⊢
  unfold rget.lreplyreaderreadr13.T
  cases ws with
  | nil => simp [pl_nil]
  | cons w r =>
    cases bad with
    | true =>
      simp only [ilt0c, cnd_tt, bnot, Bool.not_true, cnd_ff, pl_bad, List.append_nil]
    | false =>
      have hN : numberF w = some (numL w) := number_spec w (h1 w (by simp))
      simp only [List.length_cons] at h2
      have hn := fun b v => hr ((), ((a1, (a2, (a3, (a4, ())))), ((r, (b, ())), ((b1, (b2, (b3, (b4, ())))), ((c1, (c2, (c3, (c4, ())))), (lapp p [v], ())))))) ⟨fun u hu => h1 u (List.mem_cons_of_mem _ hu), by show r.length + (p ++ [v]).length ≤ _; simp; omega⟩ (by simp)
      simp only [ilt0c, cnd_tt, bnot, Bool.not_false, lget0, obind_some, ieq0c, ile1c, cnd_ff, hN, ldrop1, lt8_len (l := p) (n := 1) (by omega), hn, same2_self]
      by_cases z : w = ITEMS
      · subst z
        simp [pl_end]
      · rw [cnd_t (by simp [z]), pl_go z]
        simp
theorem gr_loop2 (A B C : I4) (ws : List Str) (bad : Bool) (p : List Int) (o : List Seen) (hw : ∀ w ∈ ws, w.length ≤ 1000000) (hl : ws.length + o.length ≤ 3000000) :
    iter rget.lreplyreaderitemsr4.T bigL ((), (A, ((ws, (bad, ())), (B, (C, (p, (o, ()))))))) = some ((), (A, (((ilR ws bad).1, ((ilR ws bad).2.1, ())), (B, (C, (p, (o ++ (ilR ws bad).2.2, ()))))))) := by
  refine iter_big (T := rget.lreplyreaderitemsr4.T) (x := ((), (A, ((ws, (bad, ())), (B, (C, (p, (o, ())))))))) (fun x => x.2.2.1.1.length) (fun x => (∀ w ∈ x.2.2.1.1, w.length ≤ 1000000) ∧ x.2.2.1.1.length + x.2.2.2.2.2.2.1.length ≤ 3000000)
    (fun x => some ((), (x.2.1, (((ilR x.2.2.1.1 x.2.2.1.2.1).1, ((ilR x.2.2.1.1 x.2.2.1.2.1).2.1, ())), (x.2.2.2.1, (x.2.2.2.2.1, (x.2.2.2.2.2.1, (x.2.2.2.2.2.2.1 ++ (ilR x.2.2.1.1 x.2.2.1.2.1).2.2, ())))))))) ?_ ⟨hw, hl⟩ (by simp; omega)
  rintro ⟨_, ⟨a1, a2, a3, a4, _⟩, ⟨ws, bad, _⟩, ⟨b1, b2, b3, b4, _⟩, ⟨c1, c2, c3, c4, _⟩, p, o, _⟩ rec ⟨h1, h2⟩ hr
  simp only at h1 h2 ⊢
  unfold rget.lreplyreaderitemsr4.T
  cases ws with
  | nil => simp [ilR]
  | cons w r =>
    cases bad with
    | true =>
      simp only [ilt0c, cnd_tt, bnot, Bool.not_true, cnd_ff, il_bad, List.append_nil]
    | false =>
      have hN : numberF w = some (numL w) := number_spec w (h1 w (by simp))
      simp only [List.length_cons] at h2
      have hn := fun r' (hr1 : r'.length ≤ r.length) (hr2 : ∀ u ∈ r', u ∈ r) b v => hr ((), ((a1, (a2, (a3, (a4, ())))), ((r', (b, ())), ((b1, (b2, (b3, (b4, ())))), ((c1, (c2, (c3, (c4, ())))), (p, (lapp o [v], ()))))))) ⟨fun u hu => h1 u (List.mem_cons_of_mem _ (hr2 u hu)), by show r'.length + (o ++ [v]).length ≤ _; simp; omega⟩ (by simp; omega)
      rcases r with _ | ⟨c, _ | ⟨d, r⟩⟩
      · have hn0 := hn [] (Nat.le_refl _) (fun _ h => h)
        simp only [ilt0c, cnd_tt, bnot, Bool.not_false, lget0, obind_some, ieq0c, ieq0n, ile1c, cnd_ff, hN, n_none, sindex_p, ldrop1, lt24_len (l := o) (n := 1) (by omega), hn0, il_bad]
        simp [ilR]
      · have hn0 := hn [] (by simp) (fun _ h => by simp at h)
        have hN2 : numberF c = some (numL c) := number_spec c (h1 c (by simp))
        simp only [ilt0c, cnd_tt, bnot, Bool.not_false, lget0, obind_some, ieq0c, ieq0n, ile1c, cnd_ff, hN, hN2, n_none, sindex_p, ldrop1, lt24_len (l := o) (n := 1) (by omega), hn0, il_bad]
        simp [ilR]
      · have hn0 := hn r (by simp; omega) (fun u h => by simp [h])
        have hN2 : numberF d = some (numL d) := number_spec d (h1 d (by simp))
        simp only [ilt0c, cnd_tt, bnot, Bool.not_false, lget0, obind_some, ieq0c, ieq0n, ile1c, cnd_ff, hN, hN2, n_none, sindex_p, ldrop1, lt24_len (l := o) (n := 1) (by omega), hn0]
        simp only [ilR, cond_false]
        cases (numL w).2 <;> simp
theorem gr_loop3 (A B C : I4) (ws : List Str) (bad : Bool) (o : List Seen) (hw : ∀ w ∈ ws, w.length ≤ 1000000) (hl : ws.length + o.length ≤ 3000000) :
    iter rget.lreplyreaderitemsr4n1.T bigL ((), (A, ((ws, (bad, ())), (B, (C, (o, ())))))) = some ((), (A, (((ilR ws bad).1, ((ilR ws bad).2.1, ())), (B, (C, (o ++ (ilR ws bad).2.2, ())))))) := by
  refine iter_big (T := rget.lreplyreaderitemsr4n1.T) (x := ((), (A, ((ws, (bad, ())), (B, (C, (o, ()))))))) (fun x => x.2.2.1.1.length) (fun x => (∀ w ∈ x.2.2.1.1, w.length ≤ 1000000) ∧ x.2.2.1.1.length + x.2.2.2.2.2.1.length ≤ 3000000)
    (fun x => some ((), (x.2.1, (((ilR x.2.2.1.1 x.2.2.1.2.1).1, ((ilR x.2.2.1.1 x.2.2.1.2.1).2.1, ())), (x.2.2.2.1, (x.2.2.2.2.1, (x.2.2.2.2.2.1 ++ (ilR x.2.2.1.1 x.2.2.1.2.1).2.2, ()))))))) ?_ ⟨hw, hl⟩ (by simp; omega)
  rintro ⟨_, ⟨a1, a2, a3, a4, _⟩, ⟨ws, bad, _⟩, ⟨b1, b2, b3, b4, _⟩, ⟨c1, c2, c3, c4, _⟩, o, _⟩ rec ⟨h1, h2⟩ hr
  simp only at h1 h2 ⊢
  unfold rget.lreplyreaderitemsr4n1.T
  cases ws with
  | nil => simp [ilR]
  | cons w r =>
    cases bad with
    | true =>
      simp only [ilt0c, cnd_tt, bnot, Bool.not_true, cnd_ff, il_bad, List.append_nil]
    | false =>
      have hN : numberF w = some (numL w) := number_spec w (h1 w (by simp))
      simp only [List.length_cons] at h2
      have hn := fun r' (hr1 : r'.length ≤ r.length) (hr2 : ∀ u ∈ r', u ∈ r) b v => hr ((), ((a1, (a2, (a3, (a4, ())))), ((r', (b, ())), ((b1, (b2, (b3, (b4, ())))), ((c1, (c2, (c3, (c4, ())))), (lapp o [v], ())))))) ⟨fun u hu => h1 u (List.mem_cons_of_mem _ (hr2 u hu)), by show r'.length + (o ++ [v]).length ≤ _; simp; omega⟩ (by simp; omega)
      rcases r with _ | ⟨c, _ | ⟨d, r⟩⟩
      · have hn0 := hn [] (Nat.le_refl _) (fun _ h => h)
        simp only [ilt0c, cnd_tt, bnot, Bool.not_false, lget0, obind_some, ieq0c, ieq0n, ile1c, cnd_ff, hN, n_none, sindex_p, ldrop1, lt24_len (l := o) (n := 1) (by omega), hn0, il_bad]
        simp [ilR]
      · have hn0 := hn [] (by simp) (fun _ h => by simp at h)
        have hN2 : numberF c = some (numL c) := number_spec c (h1 c (by simp))
        simp only [ilt0c, cnd_tt, bnot, Bool.not_false, lget0, obind_some, ieq0c, ieq0n, ile1c, cnd_ff, hN, hN2, n_none, sindex_p, ldrop1, lt24_len (l := o) (n := 1) (by omega), hn0, il_bad]
        simp [ilR]
      · have hn0 := hn r (by simp; omega) (fun u h => by simp [h])
        have hN2 : numberF d = some (numL d) := number_spec d (h1 d (by simp))
        simp only [ilt0c, cnd_tt, bnot, Bool.not_false, lget0, obind_some, ieq0c, ieq0n, ile1c, cnd_ff, hN, hN2, n_none, sindex_p, ldrop1, lt24_len (l := o) (n := 1) (by omega), hn0]
        simp only [ilR, cond_false]
        cases (numL w).2 <;> simp
end Go.Sx
