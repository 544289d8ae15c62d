/-
  Lines: the loops of both readings (printed by wip/dev/mkTd.py)
-/
import Derived.Test.YtcpildkbkjeijaaDoorSyTc
set_option linter.unusedVariables false
set_option linter.unusedSimpArgs false
namespace Go.Sx
open Go Go.Proofs
open Go.Lib (decDigits nDigits)
noncomputable def takeN : List Str → List Int
  | [] => []
  | w :: r => bif (numL w).2 then (numL w).1 :: takeN r else []
noncomputable def dropN : List Str → List Str
  | [] => []
  | w :: r => bif (numL w).2 then dropN r else w :: r
theorem take_drop : ∀ l : List Str, l = numsP (takeN l) ++ dropN l
  | [] => rfl
  | w :: r => by
    unfold takeN dropN
    cases h : (numL w).2 with
    | false => rfl
    | true =>
      have e := (numL_inv h).2
      simp only [cond_true]
      rw [show numsP ((numL w).1 :: takeN r) = Lib.itoa (numL w).1 :: numsP (takeN r) from rfl, ← e, List.cons_append, ← take_drop r]
theorem take_fit : ∀ (l : List Str), ∀ n ∈ takeN l, FitC n
  | [], n, h => by simp [takeN] at h
  | w :: r, n, h => by
    unfold takeN at h
    cases hw : (numL w).2 with
    | false => rw [hw] at h; simp at h
    | true =>
      rw [hw] at h
      simp only [cond_true, List.mem_cons] at h
      rcases h with rfl | h
      · exact (numL_inv hw).1
      · exact take_fit r n h
theorem take_len (l : List Str) : (takeN l).length ≤ l.length := by
  have := congrArg List.length (take_drop l)
  simp [numsP] at this
  omega
theorem drop_len (l : List Str) : (dropN l).length ≤ l.length := by
  have := congrArg List.length (take_drop l)
  simp [numsP] at this
  omega
theorem drop_mem (l : List Str) : ∀ w ∈ dropN l, w ∈ l := fun w h => by
  rw [take_drop l]
  exact List.mem_append_right _ h
theorem take_nums (g : List Int) (hg : ∀ n ∈ g, FitC n) (w : Str) (r : List Str) (hw : (numL w).2 = false) : takeN (numsP g ++ w :: r) = g := by
  induction g with
  | nil => simp [numsP, takeN, hw]
  | cons n g ih =>
    have hn := numL_itoa (hg n (by simp))
    simp only [numsP, List.map_cons, List.cons_append, takeN, hn, cond_true]
    rw [show g.map Lib.itoa = numsP g from rfl, ih (fun m h => hg m (List.mem_cons_of_mem _ h))]
theorem drop_nums (g : List Int) (hg : ∀ n ∈ g, FitC n) (w : Str) (r : List Str) (hw : (numL w).2 = false) : dropN (numsP g ++ w :: r) = w :: r := by
  induction g with
  | nil => simp [numsP, dropN, hw]
  | cons n g ih =>
    have hn := numL_itoa (hg n (by simp))
    simp only [numsP, List.map_cons, List.cons_append, dropN, hn, cond_true]
    rw [show g.map Lib.itoa = numsP g from rfl, ih (fun m h => hg m (List.mem_cons_of_mem _ h))]
theorem lt8_len {α β : Type} {l : List β} {n : Int} {A B : α} (h : (l.length : Int) + n ≤ 1000000000) : cnd (ilt (imul (iadd (ilen l) n) 8) 140737488355329) A B = A := lt_ok16 (by
  rw [ilen_eq]
  show ((l.length : Int) + n) * 8 < 1000000000000
  omega)
theorem row_loop {X : Type} {T : (X → Option X) → X → Option X} (wds : X → List Str) (vec : X → List Int) (fin : X → List Str → List Int → X)
    (hT : ∀ rec x, T rec x = cnd (ilt 0 (ilen (wds x))) (obind (lget (wds x) 0) fun w => obind (numberF w) fun p => cnd p.2 (cnd (ilt (imul (iadd (ilen (vec x)) 1) 8) 140737488355329) (cnd (ile 1 (ilen (wds x))) (rec (fin x (ldrop (wds x) 1) (lapp (vec x) [p.1]))) none) none) (some x)) (some x))
    (h1 : ∀ x w v, wds (fin x w v) = w) (h2 : ∀ x w v, vec (fin x w v) = v) (h3 : ∀ x w v w' v', fin (fin x w v) w' v' = fin x w' v') (h4 : ∀ x, fin x (wds x) (vec x) = x)
    (x : X) (hw : ∀ w ∈ wds x, w.length ≤ 1000000) (hl : (wds x).length ≤ 1000001) (hv : (vec x).length ≤ 100) :
    iter T bigL x = some (fin x (dropN (wds x)) (vec x ++ takeN (wds x))) := by
  refine iter_big (T := T) (fun x => (wds x).length) (fun x => (∀ w ∈ wds x, w.length ≤ 1000000) ∧ (wds x).length + (vec x).length ≤ 1001000) (fun x => some (fin x (dropN (wds x)) (vec x ++ takeN (wds x)))) ?_ ⟨hw, by omega⟩ (by omega)
  rintro x rec ⟨i1, i2⟩ hr
  rw [hT]
  cases e : wds x with
  | nil =>
    rw [cnd_f (b := ilt 0 (ilen ([] : List Str))) rfl]
    simp only [takeN, dropN, List.append_nil]
    rw [← e, h4]
  | cons w r =>
    rw [e] at i1 i2
    have hlt : ilt 0 (ilen (w :: r)) = true := decide_eq_true (by rw [ilen_eq]; simp)
    have hle : ile 1 (ilen (w :: r)) = true := decide_eq_true (by rw [ilen_eq]; simp; omega)
    rw [cnd_t hlt, show lget (w :: r) 0 = some w from rfl, obind_some, number_spec w (i1 w (by simp)), obind_some]
    unfold takeN dropN
    cases hn : (numL w).2 with
    | false =>
      simp only [cond_false, cnd, List.append_nil]
      rw [← e, h4]
    | true =>
      simp only [List.length_cons] at i2
      rw [cnd_t (b := true) rfl, lt8_len (by omega), cnd_t hle, show ldrop (w :: r) 1 = r from rfl]
      have hn' := hr (fin x r (lapp (vec x) [(numL w).1])) ⟨by rw [h1]; exact fun u hu => i1 u (List.mem_cons_of_mem _ hu), by rw [h1, h2]; show r.length + (vec x ++ [_]).length ≤ _; rw [List.length_append]; simp; omega⟩ (by rw [h1, e]; simp)
      rw [hn', h1, h2, h3]
      simp [lapp]
/-! The document's loops. -/
def toC (l : List Str) : List Str := l.takeWhile (· ≠ COINS)
def rowA (x : (((List (List UInt8)) × Unit) × ((Int × (Int × (Int × (Int × (Int × (Int × (Int × Unit))))))) × ((Int × (Int × (Int × (Int × (Int × (Int × (Int × Unit))))))) × (Unit × (Unit × (Unit × (Unit × (Unit × (Unit × (Unit × (Unit × (Unit × (Unit × (Unit × (Unit × (Unit × (Unit × (Unit × (Unit × (Unit × (Unit × (Unit × (Unit × (Unit × (Unit × (Unit × (Unit × (Unit × (Unit × (Unit × (Unit × (Unit × (Unit × (Unit × ((List (List UInt8)) × ((List (List UInt8)) × ((List Int) × Unit)))))))))))))))))))))))))))))))))))))) (w : List Str) (v : List Int) : (((List (List UInt8)) × Unit) × ((Int × (Int × (Int × (Int × (Int × (Int × (Int × Unit))))))) × ((Int × (Int × (Int × (Int × (Int × (Int × (Int × Unit))))))) × (Unit × (Unit × (Unit × (Unit × (Unit × (Unit × (Unit × (Unit × (Unit × (Unit × (Unit × (Unit × (Unit × (Unit × (Unit × (Unit × (Unit × (Unit × (Unit × (Unit × (Unit × (Unit × (Unit × (Unit × (Unit × (Unit × (Unit × (Unit × (Unit × (Unit × (Unit × ((List (List UInt8)) × ((List (List UInt8)) × ((List Int) × Unit))))))))))))))))))))))))))))))))))))) := ((w, ()), ((x.2.1.1, (x.2.1.2.1, (x.2.1.2.2.1, (x.2.1.2.2.2.1, (x.2.1.2.2.2.2.1, (x.2.1.2.2.2.2.2.1, (x.2.1.2.2.2.2.2.2.1, ()))))))), ((x.2.2.1.1, (x.2.2.1.2.1, (x.2.2.1.2.2.1, (x.2.2.1.2.2.2.1, (x.2.2.1.2.2.2.2.1, (x.2.2.1.2.2.2.2.2.1, (x.2.2.1.2.2.2.2.2.2.1, ()))))))), ((), ((), ((), ((), ((), ((), ((), ((), ((), ((), ((), ((), ((), ((), ((), ((), ((), ((), ((), ((), ((), ((), ((), ((), ((), ((), ((), ((), ((), ((), ((), (x.2.2.2.2.2.2.2.2.2.2.2.2.2.2.2.2.2.2.2.2.2.2.2.2.2.2.2.2.2.2.2.2.2.2.1, (x.2.2.2.2.2.2.2.2.2.2.2.2.2.2.2.2.2.2.2.2.2.2.2.2.2.2.2.2.2.2.2.2.2.2.2.1, (v, ())))))))))))))))))))))))))))))))))))))
theorem rowA_eq (x : (((List (List UInt8)) × Unit) × ((Int × (Int × (Int × (Int × (Int × (Int × (Int × Unit))))))) × ((Int × (Int × (Int × (Int × (Int × (Int × (Int × Unit))))))) × (Unit × (Unit × (Unit × (Unit × (Unit × (Unit × (Unit × (Unit × (Unit × (Unit × (Unit × (Unit × (Unit × (Unit × (Unit × (Unit × (Unit × (Unit × (Unit × (Unit × (Unit × (Unit × (Unit × (Unit × (Unit × (Unit × (Unit × (Unit × (Unit × (Unit × (Unit × ((List (List UInt8)) × ((List (List UInt8)) × ((List Int) × Unit)))))))))))))))))))))))))))))))))))))) (hw : ∀ w ∈ x.1.1, w.length ≤ 1000000) (hl : x.1.1.length ≤ 1000001) (hv : (x.2.2.2.2.2.2.2.2.2.2.2.2.2.2.2.2.2.2.2.2.2.2.2.2.2.2.2.2.2.2.2.2.2.2.2.2.1).length ≤ 100) : iter lget.llinerow1r1.T bigL x = some (rowA x (dropN x.1.1) (x.2.2.2.2.2.2.2.2.2.2.2.2.2.2.2.2.2.2.2.2.2.2.2.2.2.2.2.2.2.2.2.2.2.2.2.2.1 ++ takeN x.1.1)) :=
  row_loop (T := lget.llinerow1r1.T) (fun x => x.1.1) (fun x => x.2.2.2.2.2.2.2.2.2.2.2.2.2.2.2.2.2.2.2.2.2.2.2.2.2.2.2.2.2.2.2.2.2.2.2.2.1) rowA (fun rec x => rfl) (fun _ _ _ => rfl) (fun _ _ _ => rfl) (fun _ _ _ _ _ => rfl) (fun _ => rfl) x hw hl hv
def rowB (x : (((List (List UInt8)) × Unit) × ((Int × (Int × (Int × (Int × (Int × (Int × (Int × Unit))))))) × ((Int × (Int × (Int × (Int × (Int × (Int × (Int × Unit))))))) × (Unit × (Unit × (Unit × (Unit × (Unit × (Unit × (Unit × (Unit × (Unit × (Unit × (Unit × (Unit × (Unit × (Unit × (Unit × (Unit × (Unit × (Unit × (Unit × (Unit × (Unit × (Unit × (Unit × (Unit × (Unit × (Unit × (Unit × (Unit × (Unit × (Unit × (Unit × ((List (List UInt8)) × ((List (List UInt8)) × ((List Int) × ((List (List UInt8)) × ((List (List UInt8)) × ((List (List UInt8)) × ((List Int) × Unit)))))))))))))))))))))))))))))))))))))))))) (w : List Str) (v : List Int) : (((List (List UInt8)) × Unit) × ((Int × (Int × (Int × (Int × (Int × (Int × (Int × Unit))))))) × ((Int × (Int × (Int × (Int × (Int × (Int × (Int × Unit))))))) × (Unit × (Unit × (Unit × (Unit × (Unit × (Unit × (Unit × (Unit × (Unit × (Unit × (Unit × (Unit × (Unit × (Unit × (Unit × (Unit × (Unit × (Unit × (Unit × (Unit × (Unit × (Unit × (Unit × (Unit × (Unit × (Unit × (Unit × (Unit × (Unit × (Unit × (Unit × ((List (List UInt8)) × ((List (List UInt8)) × ((List Int) × ((List (List UInt8)) × ((List (List UInt8)) × ((List (List UInt8)) × ((List Int) × Unit))))))))))))))))))))))))))))))))))))))))) := ((w, ()), ((x.2.1.1, (x.2.1.2.1, (x.2.1.2.2.1, (x.2.1.2.2.2.1, (x.2.1.2.2.2.2.1, (x.2.1.2.2.2.2.2.1, (x.2.1.2.2.2.2.2.2.1, ()))))))), ((x.2.2.1.1, (x.2.2.1.2.1, (x.2.2.1.2.2.1, (x.2.2.1.2.2.2.1, (x.2.2.1.2.2.2.2.1, (x.2.2.1.2.2.2.2.2.1, (x.2.2.1.2.2.2.2.2.2.1, ()))))))), ((), ((), ((), ((), ((), ((), ((), ((), ((), ((), ((), ((), ((), ((), ((), ((), ((), ((), ((), ((), ((), ((), ((), ((), ((), ((), ((), ((), ((), ((), ((), (x.2.2.2.2.2.2.2.2.2.2.2.2.2.2.2.2.2.2.2.2.2.2.2.2.2.2.2.2.2.2.2.2.2.2.1, (x.2.2.2.2.2.2.2.2.2.2.2.2.2.2.2.2.2.2.2.2.2.2.2.2.2.2.2.2.2.2.2.2.2.2.2.1, (x.2.2.2.2.2.2.2.2.2.2.2.2.2.2.2.2.2.2.2.2.2.2.2.2.2.2.2.2.2.2.2.2.2.2.2.2.1, (x.2.2.2.2.2.2.2.2.2.2.2.2.2.2.2.2.2.2.2.2.2.2.2.2.2.2.2.2.2.2.2.2.2.2.2.2.2.1, (x.2.2.2.2.2.2.2.2.2.2.2.2.2.2.2.2.2.2.2.2.2.2.2.2.2.2.2.2.2.2.2.2.2.2.2.2.2.2.1, (x.2.2.2.2.2.2.2.2.2.2.2.2.2.2.2.2.2.2.2.2.2.2.2.2.2.2.2.2.2.2.2.2.2.2.2.2.2.2.2.1, (v, ())))))))))))))))))))))))))))))))))))))))))
theorem rowB_eq (x : (((List (List UInt8)) × Unit) × ((Int × (Int × (Int × (Int × (Int × (Int × (Int × Unit))))))) × ((Int × (Int × (Int × (Int × (Int × (Int × (Int × Unit))))))) × (Unit × (Unit × (Unit × (Unit × (Unit × (Unit × (Unit × (Unit × (Unit × (Unit × (Unit × (Unit × (Unit × (Unit × (Unit × (Unit × (Unit × (Unit × (Unit × (Unit × (Unit × (Unit × (Unit × (Unit × (Unit × (Unit × (Unit × (Unit × (Unit × (Unit × (Unit × ((List (List UInt8)) × ((List (List UInt8)) × ((List Int) × ((List (List UInt8)) × ((List (List UInt8)) × ((List (List UInt8)) × ((List Int) × Unit)))))))))))))))))))))))))))))))))))))))))) (hw : ∀ w ∈ x.1.1, w.length ≤ 1000000) (hl : x.1.1.length ≤ 1000001) (hv : (x.2.2.2.2.2.2.2.2.2.2.2.2.2.2.2.2.2.2.2.2.2.2.2.2.2.2.2.2.2.2.2.2.2.2.2.2.2.2.2.2.1).length ≤ 100) : iter lget.llinerow1r1n1.T bigL x = some (rowB x (dropN x.1.1) (x.2.2.2.2.2.2.2.2.2.2.2.2.2.2.2.2.2.2.2.2.2.2.2.2.2.2.2.2.2.2.2.2.2.2.2.2.2.2.2.2.1 ++ takeN x.1.1)) :=
  row_loop (T := lget.llinerow1r1n1.T) (fun x => x.1.1) (fun x => x.2.2.2.2.2.2.2.2.2.2.2.2.2.2.2.2.2.2.2.2.2.2.2.2.2.2.2.2.2.2.2.2.2.2.2.2.2.2.2.2.1) rowB (fun rec x => rfl) (fun _ _ _ => rfl) (fun _ _ _ => rfl) (fun _ _ _ _ _ => rfl) (fun _ => rfl) x hw hl hv
def coinA (x : (((List (List UInt8)) × (Int × Unit)) × ((Int × (Int × (Int × (Int × (Int × (Int × (Int × Unit))))))) × ((Int × (Int × (Int × (Int × (Int × (Int × (Int × Unit))))))) × ((List Int) × Unit))))) (i : Int) (v : List Int) : (((List (List UInt8)) × (Int × Unit)) × ((Int × (Int × (Int × (Int × (Int × (Int × (Int × Unit))))))) × ((Int × (Int × (Int × (Int × (Int × (Int × (Int × Unit))))))) × ((List Int) × Unit)))) := ((x.1.1, (i, ())), ((x.2.1.1, (x.2.1.2.1, (x.2.1.2.2.1, (x.2.1.2.2.2.1, (x.2.1.2.2.2.2.1, (x.2.1.2.2.2.2.2.1, (x.2.1.2.2.2.2.2.2.1, ()))))))), ((x.2.2.1.1, (x.2.2.1.2.1, (x.2.2.1.2.2.1, (x.2.2.1.2.2.2.1, (x.2.2.1.2.2.2.2.1, (x.2.2.1.2.2.2.2.2.1, (x.2.2.1.2.2.2.2.2.2.1, ()))))))), (v, ()))))
def coinB (x : (((List (List UInt8)) × (Int × Unit)) × ((Int × (Int × (Int × (Int × (Int × (Int × (Int × Unit))))))) × ((Int × (Int × (Int × (Int × (Int × (Int × (Int × Unit))))))) × ((List Int) × ((List Int) × Unit)))))) (i : Int) (v : List Int) : (((List (List UInt8)) × (Int × Unit)) × ((Int × (Int × (Int × (Int × (Int × (Int × (Int × Unit))))))) × ((Int × (Int × (Int × (Int × (Int × (Int × (Int × Unit))))))) × ((List Int) × ((List Int) × Unit))))) := ((x.1.1, (i, ())), ((x.2.1.1, (x.2.1.2.1, (x.2.1.2.2.1, (x.2.1.2.2.2.1, (x.2.1.2.2.2.2.1, (x.2.1.2.2.2.2.2.1, (x.2.1.2.2.2.2.2.2.1, ()))))))), ((x.2.2.1.1, (x.2.2.1.2.1, (x.2.2.1.2.2.1, (x.2.2.1.2.2.2.1, (x.2.2.1.2.2.2.2.1, (x.2.2.1.2.2.2.2.2.1, (x.2.2.1.2.2.2.2.2.2.1, ()))))))), (x.2.2.2.1, (v, ())))))
end Go.Sx
