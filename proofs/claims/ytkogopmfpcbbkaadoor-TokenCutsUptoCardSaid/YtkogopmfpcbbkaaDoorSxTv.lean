/-
  Words: the document's own cut.
-/
import Derived.Test.YtkogopmfpcbbkaaDoorSxTq
set_option linter.unusedVariables false
set_option linter.unusedSimpArgs false
namespace Go.Sx
open Go Go.Proofs
theorem words_sp (r : Str) : wordsL (32 :: r) = wordsL r := by
  unfold wordsL
  rw [pieces_cons, if_pos rfl]
  simp
theorem open_word : ∀ (w acc : Str), (∀ c ∈ w, c ≠ 32) → openP acc w = ([], acc ++ w)
  | [], acc, _ => by simp [openP]
  | c :: r, acc, h => by
    unfold openP
    rw [if_neg (h c (by simp)), open_word r _ (fun d hd => h d (List.mem_cons_of_mem _ hd))]
    simp
theorem words_word (w rest : Str) (h0 : w ≠ []) (h : ∀ c ∈ w, c ≠ 32) (hr : rest = [] ∨ ∃ r, rest = 32 :: r) : wordsL (w ++ rest) = w :: wordsL rest := by
  have e : piecesL [] (w ++ rest) = piecesL w rest := by
    rw [pieces_open, open_word w [] h]
    rfl
  rcases hr with rfl | ⟨r, rfl⟩
  · unfold wordsL
    rw [e]
    simp [piecesL, h0]
  · rw [words_sp]
    unfold wordsL
    rw [e, pieces_cons, if_pos rfl]
    simp [h0]
theorem rcut_inner (s : Str) (i : Int) (out : List Str) (k : Nat) (hs : s.length ≤ 1000000) (hk : k ≤ s.length) : iter rcut.l12r7.T bigL (((s, (i, ((k : Int), ()))), (out, ()))) =
    some (((s, (i, (((k + ((s.drop k).takeWhile (· ≠ 32)).length : Nat) : Int), ()))), (out, ()))) := by
  rw [iter_big (fun x => (x.1.1.length - x.1.2.2.1).toNat) (fun x => (0 : Int) ≤ x.1.2.2.1 ∧ x.1.1.length ≤ 1000000)
    (fun x => some (((x.1.1, (x.1.2.1, ((((x.1.2.2.1 : Int).toNat + ((x.1.1.drop (x.1.2.2.1 : Int).toNat).takeWhile (· ≠ 32)).length : Nat) : Int), ()))), (x.2.1, ())))) ?_ ⟨by show (0 : Int) ≤ (k : Int); omega, hs⟩ (by simp; omega)]
  · simp only [Int.toNat_natCast]
  · rintro ⟨⟨m, a, i, _⟩, o, _⟩ rec ⟨h0, h1⟩ hr
    simp only at h0 h1 ⊢
    unfold rcut.l12r7.T
    obtain ⟨j, rfl⟩ := Int.eq_ofNat_of_zero_le h0
    simp only [Int.toNat_natCast]
    by_cases hi : j < m.length
    · simp only [lget_in h0 (show (j : Int) < m.length by omega), Int.toNat_natCast, obind, Option.bind_some]
      have hu : u8i m[j] = (m[j].toNat : Int) := rfl
      have hw : wrap .i64 (iadd (j : Int) 1) = ((j + 1 : Nat) : Int) := wrap_in (n := (j : Int) + 1) (by omega) (by omega)
      have hn := hr ((m, a, ((j + 1 : Nat) : Int), ()), o, ()) ⟨by show (0 : Int) ≤ ((j + 1 : Nat) : Int); omega, h1⟩ (by simp; omega)
      simp only [Int.toNat_natCast] at hn
      rw [hu, hw, hn, cnd_t (b := ilt (j : Int) (ilen m)) (decide_eq_true (by rw [ilen_eq]; omega)), List.drop_eq_getElem_cons hi]
      by_cases c : m[j] = 32
      · rw [cnd_f (b := bnot (ieq (m[j].toNat : Int) 32)) (by rw [c]; rfl)]
        simp [c]
      · have c' : ¬ m[j].toNat = 32 := fun e => c (by apply UInt8.toNat_inj.1; simpa using e)
        rw [cnd_t (b := bnot (ieq (m[j].toNat : Int) 32)) (by simp; omega)]
        simp only [List.takeWhile_cons, c, ne_eq, not_false_eq_true, decide_true, if_true, List.length_cons]
        congr 5
        omega
    · rw [cnd_f (b := ilt (j : Int) (ilen m)) (decide_eq_false (by rw [ilen_eq]; omega)), List.drop_eq_nil_of_le (by omega)]
      rfl
theorem drop_while (l : Str) : l.dropWhile (· ≠ 32) = [] ∨ ∃ r, l.dropWhile (· ≠ 32) = 32 :: r := by
  induction l with
  | nil => exact .inl rfl
  | cons c r ih =>
    by_cases h : c = 32
    · right
      subst h
      exact ⟨r, by simp⟩
    · simp only [List.dropWhile_cons, h, ne_eq, not_false_eq_true, decide_true, if_true]
      exact ih
theorem take_while (l : Str) : ∀ d ∈ l.takeWhile (· ≠ 32), d ≠ 32 := by
  induction l with
  | nil => intro d hd; cases hd
  | cons c r ih =>
    intro d hd
    by_cases h : c = 32
    · simp [h] at hd
    · simp only [List.takeWhile_cons, h, ne_eq, not_false_eq_true, decide_true, if_true] at hd
      rcases List.mem_cons.1 hd with rfl | hd
      · exact h
      · exact ih d hd
theorem rcut_eq (s : Str) (hs : s.length ≤ 1000000) : rcutF s = some (wordsL s) := by
  unfold rcutF
  rw [iter_big (fun x => (x.1.1.length - x.1.2.1).toNat) (fun x => (0 : Int) ≤ x.1.2.1 ∧ (x.1.2.1 : Int) ≤ (x.1.1.length : Int) ∧ x.1.1.length ≤ 1000000 ∧ (x.2.1.length : Int) ≤ x.1.2.1)
    (fun x => some ((), (x.2.1 ++ wordsL (x.1.1.drop (x.1.2.1 : Int).toNat), ()))) ?_ ⟨Int.le_refl _, by simp, hs, by simp⟩ (by simp; omega)]
  · rw [obind_some]
    simp
  · rintro ⟨⟨m, i, _⟩, o, _⟩ rec ⟨h0, h1, h2, h3⟩ hr
    simp only at h0 h1 h2 h3 ⊢
    unfold rcut.l12r3.T
    obtain ⟨j, rfl⟩ := Int.eq_ofNat_of_zero_le h0
    simp only [Int.toNat_natCast]
    by_cases hi : j < m.length
    · simp only [lget_in h0 (show (j : Int) < m.length by omega), Int.toNat_natCast]
      rw [obind_some, cnd_t (b := ilt (j : Int) (ilen m)) (decide_eq_true (by rw [ilen_eq]; omega))]
      have hu : u8i m[j] = (m[j].toNat : Int) := rfl
      rw [hu]
      by_cases c : m[j] = 32
      · have hw : wrap .i64 (iadd (j : Int) 1) = ((j + 1 : Nat) : Int) := wrap_in (n := (j : Int) + 1) (by omega) (by omega)
        have hn := hr ((m, ((j + 1 : Nat) : Int), ()), o, ()) ⟨by show (0 : Int) ≤ ((j + 1 : Nat) : Int); omega, by show ((j + 1 : Nat) : Int) ≤ (m.length : Int); omega, h2, by show (o.length : Int) ≤ ((j + 1 : Nat) : Int); omega⟩ (by simp; omega)
        simp only [Int.toNat_natCast] at hn
        rw [cnd_t (b := ieq (m[j].toNat : Int) 32) (by rw [c]; rfl), hw, hn, List.drop_eq_getElem_cons hi, c, words_sp]
      · have c' : ¬ m[j].toNat = 32 := fun e => c (by apply UInt8.toNat_inj.1; simpa using e)
        rw [cnd_f (b := ieq (m[j].toNat : Int) 32) (decide_eq_false (by omega)), rcut_inner m (j : Int) o j h2 (by omega), obind_some]
        obtain ⟨tw, htw⟩ : ∃ tw, (m.drop j).takeWhile (· ≠ 32) = tw := ⟨_, rfl⟩
        obtain ⟨dw, hdw⟩ : ∃ dw, (m.drop j).dropWhile (· ≠ 32) = dw := ⟨_, rfl⟩
        have hsplit : m.drop j = tw ++ dw := by rw [← htw, ← hdw, List.takeWhile_append_dropWhile]
        have hlen : tw.length + dw.length = m.length - j := by
          have := congrArg List.length hsplit
          simp at this
          omega
        have hne : tw ≠ [] := by
          rw [← htw, List.drop_eq_getElem_cons hi]
          simp only [List.takeWhile_cons, c, ne_eq, not_false_eq_true, decide_true, if_true]
          exact List.cons_ne_nil _ _
        have hpos : 0 < tw.length := List.length_pos_iff.2 hne
        have hall : ∀ d ∈ tw, d ≠ 32 := fun d hd => by
          rw [← htw] at hd
          exact take_while _ d hd
        have hdr := drop_while (m.drop j)
        rw [hdw] at hdr
        rw [htw]
        have hword : ldrop (ltake m ((j + tw.length : Nat) : Int)) (j : Int) = tw := by
          show (m.take ((j + tw.length : Nat) : Int).toNat).drop ((j : Int)).toNat = tw
          rw [Int.toNat_natCast, Int.toNat_natCast, List.drop_take, hsplit, show j + tw.length - j = tw.length by omega, List.take_left]
        have hrest : m.drop (j + tw.length) = dw := by
          rw [← List.drop_drop, hsplit, List.drop_left]
        have hn := hr ((m, ((j + tw.length : Nat) : Int), ()), lapp o [tw], ()) ⟨by show (0 : Int) ≤ ((j + tw.length : Nat) : Int); omega, by show ((j + tw.length : Nat) : Int) ≤ (m.length : Int); omega, h2, by show ((o ++ [tw]).length : Int) ≤ ((j + tw.length : Nat) : Int); rw [List.length_append]; simp; omega⟩ (by simp; omega)
        simp only [Int.toNat_natCast] at hn
        have p1 : imul (iadd (ilen o) 1) 16 < 1000000000000 := by
          rw [ilen_eq]
          show ((o.length : Int) + 1) * 16 < 1000000000000
          omega
        show cnd (ile 0 (j : Int)) (cnd (ile (j : Int) ((j + tw.length : Nat) : Int)) (cnd (ile ((j + tw.length : Nat) : Int) (ilen m)) (cnd (ilt (imul (iadd (ilen o) 1) 16) 140737488355329) (rec ((m, (((j + tw.length : Nat) : Int), ())), (lapp o ([ldrop (ltake m ((j + tw.length : Nat) : Int)) (j : Int)]), ()))) none) none) none) none = _
        rw [cnd_t (b := ile 0 (j : Int)) (decide_eq_true (by omega)), cnd_t (b := ile (j : Int) ((j + tw.length : Nat) : Int)) (decide_eq_true (by omega)), cnd_t (b := ile ((j + tw.length : Nat) : Int) (ilen m)) (decide_eq_true (by rw [ilen_eq]; omega)), lt_ok16 p1, hword, hn, hrest, hsplit, words_word tw dw hne hall hdr]
        simp
    · rw [cnd_f (b := ilt (j : Int) (ilen m)) (decide_eq_false (by rw [ilen_eq]; omega)), List.drop_eq_nil_of_le (by omega)]
      simp [wordsL, piecesL]
end Go.Sx
