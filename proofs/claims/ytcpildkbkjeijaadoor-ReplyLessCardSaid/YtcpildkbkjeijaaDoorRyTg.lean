/-
  Answers: their texts, as the document's Put puts them.
-/
import Derived.Test.YtcpildkbkjeijaaDoorRyTf
set_option linter.unusedVariables false
set_option linter.unusedSimpArgs false
namespace Go.Sx
open Go Go.Proofs
open Go.Lib (decDigits nDigits)
theorem tailJ_app (a b : List Str) : tailJ (a ++ b) = tailJ a ++ tailJ b := by
  induction a with
  | nil => rfl
  | cons w r ih => simp [tailJ, ih]
theorem r5n_eq {n : Int} (h : FitC n) : r5nF n = some (Lib.itoa n) := by
  unfold r5nF
  rw [rword_fit h]
  rfl
theorem itoa_len {n : Int} (h : FitC n) : (Lib.itoa n).length ≤ 18 := (itoa_plain h).2
theorem cl1 {α β : Type} {l : List β} {c : Int} {A B : α} (h : l.length ≤ 1000000 ∧ c ≤ 100) : cnd (ilt (iadd (ilen l) c) 4611686018427387904) A B = A := lt_ok (by
  rw [ilen_eq]
  show (l.length : Int) + c < 1000000000000
  omega)
theorem cl2 {α β : Type} {l r : List β} {A B : α} (h : l.length ≤ 1000000 ∧ r.length ≤ 1000000) : cnd (ilt (iadd (ilen l) (ilen r)) 4611686018427387904) A B = A := lt_ok (by
  rw [ilen_eq, ilen_eq]
  show (l.length : Int) + (r.length : Int) < 1000000000000
  omega)
theorem cl3 {α β : Type} {l : List β} {c : Int} {A B : α} (h : l.length ≤ 1000000 ∧ c ≤ 100) : cnd (ilt (iadd c (ilen l)) 4611686018427387904) A B = A := lt_ok (by
  rw [ilen_eq]
  show c + (l.length : Int) < 1000000000000
  omega)
theorem r5_loop1 (r : Reply) (s : Str) (hl : r.players.length ≤ 16) (hf : ∀ n ∈ r.players, FitC n) (hs : s.length ≤ 1000) :
    iter r5put.lr13.T bigL ((s, (0, ())), (tupR r, ())) = some ((s ++ tailJ (numsP r.players), ()), (tupR r, ())) := by
  rw [iter_big (fun x => (x.2.1.2.2.2.1.length - x.1.2.1).toNat) (fun x => (0 : Int) ≤ x.1.2.1 ∧ (x.2.1.2.2.2.1.length ≤ 16 ∧ ∀ n ∈ x.2.1.2.2.2.1, FitC n) ∧ (x.1.1.length : Int) ≤ 1000 + 100 * x.1.2.1)
    (fun x => some ((x.1.1 ++ tailJ (numsP (x.2.1.2.2.2.1.drop (x.1.2.1 : Int).toNat)), ()), x.2)) ?_ ⟨Int.le_refl _, ⟨hl, hf⟩, by show (s.length : Int) ≤ 1000 + 100 * 0; omega⟩ (by simp; omega)]
  · simp
  · rintro ⟨⟨s, i, _⟩, ⟨a, b, c, m, e, f, _⟩, _⟩ rec ⟨h0, ⟨h1, h1'⟩, h3⟩ hr
    simp only at h0 h1 h1' h3 ⊢
    unfold r5put.lr13.T
    by_cases hi : i < m.length
    · have hw : wrap .i64 (iadd i 1) = i + 1 := wrap_in (n := i + 1) (by omega) (by omega)
      have hb : i.toNat < m.length := by omega
      have hfit : FitC m[i.toNat] := h1' _ (List.getElem_mem _)
      have hwl := itoa_len hfit
      have hn := hr ((lapp (lapp s [32]) (Lib.itoa m[i.toNat]), i + 1, ()), ((a, (b, (c, (m, (e, (f, ())))))), ())) ⟨by show (0 : Int) ≤ i + 1; omega, ⟨h1, h1'⟩, by show (((s ++ [32]) ++ _).length : Int) ≤ 1000 + 100 * (i + 1); simp; omega⟩ (by simp; omega)
      simp only [lget_in h0 hi, obind_some, r5n_eq hfit]
      rw [cnd_t (b := ilt i (ilen m)) (decide_eq_true (by rw [ilen_eq]; exact hi)), cl1 ⟨by omega, by omega⟩, cl2 ⟨by simp; omega, by omega⟩, hw, hn, List.drop_eq_getElem_cons hb, show i.toNat + 1 = (i + 1).toNat by omega]
      simp [numsP, tailJ]
    · rw [cnd_f (b := ilt i (ilen m)) (decide_eq_false (by rw [ilen_eq]; exact hi)), drop_end hi]
      simp [numsP, tailJ]
theorem lget_place' {k : Int} (h : 0 ≤ k) (h' : k < 3) : lget [([32, 105, 110, 32] : List UInt8), ([32, 119, 105, 116, 104, 32] : List UInt8), ([32, 98, 111, 120, 32] : List UInt8)] k = some (32 :: (placeW k ++ [32])) := by
  obtain rfl | rfl | rfl := three h h' <;> rfl
theorem r5_loop2 (r : Reply) (s : Str) (hl : r.items.length ≤ 16) (hf : ∀ n ∈ r.items, SeenOK n) (hs : s.length ≤ 5000) :
    iter r5put.lr19.T bigL ((s, (0, ())), (tupR r, ())) = some ((s ++ tailJ (itemsW r.items), ()), ()) := by
  rw [iter_big (fun x => (x.2.1.2.2.2.2.1.length - x.1.2.1).toNat) (fun x => (0 : Int) ≤ x.1.2.1 ∧ (x.2.1.2.2.2.2.1.length ≤ 16 ∧ ∀ n ∈ x.2.1.2.2.2.2.1, SeenOK n) ∧ (x.1.1.length : Int) ≤ 5000 + 100 * x.1.2.1)
    (fun x => some ((x.1.1 ++ tailJ (itemsW (x.2.1.2.2.2.2.1.drop (x.1.2.1 : Int).toNat)), ()), ())) ?_ ⟨Int.le_refl _, ⟨hl, hf⟩, by show (s.length : Int) ≤ 5000 + 100 * 0; omega⟩ (by simp; omega)]
  · simp
  · rintro ⟨⟨s, i, _⟩, ⟨a, b, c, d, m, f, _⟩, _⟩ rec ⟨h0, ⟨h1, h1'⟩, h3⟩ hr
    simp only at h0 h1 h1' h3 ⊢
    unfold r5put.lr19.T
    by_cases hi : i < m.length
    · have hw : wrap .i64 (iadd i 1) = i + 1 := wrap_in (n := i + 1) (by omega) (by omega)
      have hb : i.toNat < m.length := by omega
      obtain ⟨q1, q2, q3, q4⟩ := h1' _ (List.getElem_mem hb)
      have l1 := itoa_len q1
      have l2 := itoa_len q2
      have l3 := (place_plain q3 q4).2
      have hn := hr ((lapp (lapp (lapp (lapp s [32]) (Lib.itoa m[i.toNat].item)) (32 :: (placeW m[i.toNat].at_.kind ++ [32]))) (Lib.itoa m[i.toNat].at_.id), i + 1, ()), ((a, (b, (c, (d, (m, (f, ())))))), ())) ⟨by show (0 : Int) ≤ i + 1; omega, ⟨h1, h1'⟩, by
        show ((((s ++ [32]) ++ _) ++ (32 :: (_ ++ [32])) ++ _).length : Int) ≤ 5000 + 100 * (i + 1)
        simp only [List.length_append, List.length_cons, List.length_nil]
        omega⟩ (by simp; omega)
      simp only [lget_in h0 hi, obind_some, r5n_eq q1, r5n_eq q2, lget_place' q3 q4]
      rw [cnd_t (b := ilt i (ilen m)) (decide_eq_true (by rw [ilen_eq]; exact hi)), cl1 ⟨by omega, by omega⟩, cl2 ⟨by simp; omega, by omega⟩, cnd_t (b := ile 0 _) (decide_eq_true q3), cnd_t (b := ilt _ 3) (decide_eq_true q4),
        cl2 ⟨by simp; omega, by simp; omega⟩, cl2 ⟨by simp; omega, by omega⟩, hw, hn, List.drop_eq_getElem_cons hb, show i.toNat + 1 = (i + 1).toNat by omega, items_cons, tailJ_app]
      simp [itemW, tailJ]
    · rw [cnd_f (b := ilt i (ilen m)) (decide_eq_false (by rw [ilen_eq]; exact hi)), drop_end hi]
      simp [itemsW, tailJ]
theorem ile_t {a b : Int} (h : a ≤ b) : ile a b = true := decide_eq_true h
theorem ile_f {a b : Int} (h : ¬ a ≤ b) : ile a b = false := decide_eq_false h
theorem tail_len (B : Nat) : ∀ l : List Str, (∀ w ∈ l, w.length ≤ B) → (tailJ l).length ≤ l.length * (B + 1)
  | [], _ => by simp [tailJ]
  | w :: r, h => by
    have h1 := tail_len B r (fun u hu => h u (List.mem_cons_of_mem _ hu))
    have h2 := h w (by simp)
    simp only [tailJ, List.length_cons, List.length_append, Nat.add_mul]
    omega
theorem r5put_eq (r : Reply) (hp : r.players.length ≤ 1000000000) (hi : r.items.length ≤ 1000000000) : r5putF r = some (if mayR r = true then (textR r, 0) else ([], 2)) := by
  unfold r5putF
  rw [show r5mayF _ = _ from r5may_eq r hp hi, obind_some]
  by_cases hm : MayR r
  · rw [mayR_t hm, if_pos rfl, cnd_f (b := bnot true) rfl]
    by_cases he : r.err = 0
    · obtain ⟨hk, hr, hc, hp, hi, hps, his, _⟩ := hm.2.2 he
      have n1 := (name_plain hk).2
      have n2 := itoa_len hr
      have n3 := itoa_len hc
      rw [cnd_f (b := bnot (ieq r.err 0)) (by simp [he]), r3name_eq]
      simp only [obind_some, r5n_eq hr, r5n_eq hc]
      by_cases k1 : r.kind = 1
      · rw [cnd_t (ieq_t k1), cl1 ⟨by omega, by omega⟩, cl2 ⟨by simp; omega, by omega⟩, cnd_f (ieq_f (b := 10) (by omega)), cnd_f (ieq_f (b := 9) (by omega)), cnd_f (ile_f (a := 9) (by omega)), textR, words_12 he (.inl k1), join_tail]
        simp [tailJ]
      rw [cnd_f (ieq_f k1)]
      by_cases k2 : r.kind = 2
      · rw [cnd_t (ieq_t k2), cl1 ⟨by omega, by omega⟩, cl2 ⟨by simp; omega, by omega⟩, cnd_f (ieq_f (b := 10) (by omega)), cnd_f (ieq_f (b := 9) (by omega)), cnd_f (ile_f (a := 9) (by omega)), textR, words_12 he (.inr k2), join_tail]
        simp [tailJ]
      rw [cnd_f (ieq_f k2)]
      by_cases k9 : r.kind = 9
      · rw [cnd_t (ieq_t k9), cl1 ⟨by omega, by omega⟩, cl2 ⟨by simp; omega, by omega⟩, cnd_f (ieq_f (b := 10) (by omega))]
        try rw [cnd_t (ieq_t k9)]
        rw [cl1 ⟨by simp; omega, by omega⟩]
        have l1 := r5_loop1 r (lapp (lapp (lapp (nameP r.kind) [32]) (Lib.itoa r.room)) [32, 112, 108, 97, 121, 101, 114, 115]) hp hps (by simp; omega)
        simp only [tupR] at l1
        rw [l1, obind_some]
        simp only
        have t1 := tail_len 18 (numsP r.players) (fun w hw => (nums_plain hps w hw).2)
        rw [nums_len] at t1
        have t2 : r.players.length * (18 + 1) ≤ 16 * 19 := Nat.mul_le_mul_right _ hp
        rw [cnd_t (ile_t (a := 9) (by omega)), cl1 ⟨by simp; omega, by omega⟩]
        have l2 := r5_loop2 r (lapp (lapp (lapp (lapp (nameP r.kind) [32]) (Lib.itoa r.room)) [32, 112, 108, 97, 121, 101, 114, 115] ++ tailJ (numsP r.players)) [32, 105, 116, 101, 109, 115]) hi his (by simp; omega)
        simp only [tupR] at l2
        rw [l2, obind_some, textR, words_9 he k9, join_tail]
        simp [tailJ, tailJ_app]
      rw [cnd_f (ieq_f k9)]
      by_cases k10 : r.kind = 10
      · rw [cnd_t (ieq_t k10), cl1 ⟨by omega, by omega⟩, cl2 ⟨by simp; omega, by omega⟩]
        try rw [cnd_f (ieq_f k9)]
        rw [cnd_t (ile_t (a := 9) (by omega)), cl1 ⟨by simp; omega, by omega⟩]
        have l2 := r5_loop2 r (lapp (lapp (lapp (nameP r.kind) [32]) (Lib.itoa r.coins)) [32, 105, 116, 101, 109, 115]) hi his (by simp; omega)
        simp only [tupR] at l2
        rw [l2, obind_some, textR, words_10 he k10, join_tail]
        simp [tailJ, tailJ_app]
      rw [cnd_f (ieq_f k10)]
      try rw [cnd_f (ieq_f k9)]
      rw [cnd_f (ile_f (a := 9) (by omega)), textR, words_38 he ⟨by omega, k9, k10⟩, join_tail]
      simp [tailJ]
    · rw [cnd_t (b := bnot (ieq r.err 0)) (by simp [he]), r5n_eq (fit_err hm), obind_some, cl3 ⟨by have := itoa_len (fit_err hm); omega, by omega⟩, textR, words_err he, join_tail]
      simp [tailJ]
  · rw [mayR_f hm]
    rfl
end Go.Sx
