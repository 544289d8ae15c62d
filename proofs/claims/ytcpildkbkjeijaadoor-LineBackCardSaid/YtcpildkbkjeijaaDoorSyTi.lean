/-
  Lines: what line.Put puts.
-/
import Derived.Test.YtcpildkbkjeijaaDoorSyTf
import Derived.Test.YtcpildkbkjeijaaDoorSyS
set_option linter.unusedVariables false
set_option linter.unusedSimpArgs false
namespace Go.Sx
open Go Go.Proofs
open Go.Lib (decDigits nDigits)
theorem itoa_plain {n : Int} (h : FitC n) : Plain (Lib.itoa n) ∧ (Lib.itoa n).length ≤ 18 := by
  obtain ⟨h0, h1⟩ := h
  obtain ⟨u, rfl⟩ := Int.eq_ofNat_of_zero_le h0
  rw [itoa_nat]
  refine ⟨⟨?_, fun c hc e => ?_⟩, dig_len u (by omega)⟩
  · obtain ⟨c, r, e, _⟩ := digits_head u
    rw [e]
    simp
  · have := dig_mem u c hc
    rw [e] at this
    simp at this
theorem name_plain {k : Int} (h : 1 ≤ k ∧ k ≤ 10) : Plain (nameP k) ∧ (nameP k).length ≤ 18 := by
  obtain rfl | rfl | rfl | rfl | rfl | rfl | rfl | rfl | rfl | rfl := ten h.1 h.2 <;> exact ⟨by unfold Plain; decide, by decide⟩
theorem way_plain {k : Int} (h : 0 ≤ k ∧ k ≤ 3) : Plain (wayP k) ∧ (wayP k).length ≤ 18 := by
  obtain rfl | rfl | rfl | rfl := four h.1 h.2 <;> exact ⟨by unfold Plain; decide, by decide⟩
theorem lit_plain {w : Str} (h : w ≠ [] ∧ w.all (fun c => !decide (c = 32)) = true ∧ w.length ≤ 18) : Plain w ∧ w.length ≤ 18 :=
  ⟨⟨h.1, fun c hc e => by
    have := List.all_eq_true.1 h.2.1 c hc
    rw [e] at this
    simp at this⟩, h.2.2⟩
theorem nums_plain {l : List Int} (h : ∀ n ∈ l, FitC n) : ∀ w ∈ numsP l, Plain w ∧ w.length ≤ 18 := by
  intro w hw
  obtain ⟨n, hn, rfl⟩ := List.mem_map.1 hw
  exact itoa_plain (h n hn)
theorem words_ok {c : Cmd} (h : MayC c) : ∀ w ∈ wordsP c, Plain w ∧ w.length ≤ 18 := by
  obtain ⟨kind, dir, item, box, who, gives, pay, wants, fee⟩ := c
  obtain ⟨hk, hd, hz, hi, hb, hw, hp, hf, hg, hws⟩ := h
  simp only at hk hd hz hi hb hw hp hf hg hws
  have hn := name_plain hk
  have hwy := way_plain hd
  unfold wordsP
  obtain rfl | rfl | rfl | rfl | rfl | rfl | rfl | rfl | rfl | rfl := ten hk.1 hk.2 <;> simp only [Int.reduceEq, if_true, if_false, reduceIte, List.mem_cons, List.mem_append, List.not_mem_nil, or_false] <;> intro w hw'
  · rcases hw' with rfl | rfl
    · exact hn
    · exact hwy
  · rcases hw' with rfl | rfl | rfl
    · exact hn
    · exact itoa_plain (hw.1 (by decide))
    · exact hwy
  · rcases hw' with rfl | rfl
    · exact hn
    · exact itoa_plain (hi.1 (by decide))
  · rcases hw' with rfl | rfl
    · exact hn
    · exact itoa_plain (hi.1 (by decide))
  · rcases hw' with rfl | rfl | rfl | rfl
    · exact hn
    · exact itoa_plain (hi.1 (by decide))
    · exact lit_plain (by decide)
    · exact itoa_plain (hb.1 (by decide))
  · rcases hw' with rfl | rfl | rfl | rfl
    · exact hn
    · exact itoa_plain (hi.1 (by decide))
    · exact lit_plain (by decide)
    · exact itoa_plain (hb.1 (by decide))
  · rcases hw' with rfl | rfl | rfl | rfl
    · exact hn
    · exact itoa_plain (hi.1 (by decide))
    · exact lit_plain (by decide)
    · exact itoa_plain (hw.1 (by decide))
  · rcases hw' with rfl | rfl | rfl | hm | rfl | rfl | rfl | hm | rfl | rfl
    · exact hn
    · exact itoa_plain (hw.1 (by decide))
    · exact lit_plain (by decide)
    · exact nums_plain (hg.1 rfl).2 w hm
    · exact lit_plain (by decide)
    · exact itoa_plain (hp.1 (by decide))
    · exact lit_plain (by decide)
    · exact nums_plain (hws.1 rfl).2 w hm
    · exact lit_plain (by decide)
    · exact itoa_plain (hf.1 (by decide))
  · obtain rfl := hw'
    exact hn
  · obtain rfl := hw'
    exact hn
theorem words_cnt {c : Cmd} (h : MayC c) : (wordsP c).length ≤ 40 := by
  have := may_rows h
  unfold wordsP
  repeat' split
  all_goals simp [numsP]
  omega
theorem join_short {c : Cmd} (h : MayC c) : (Lib.join (wordsP c) [32]).length ≤ 760 := by
  have h1 := join_len 18 (wordsP c) (fun w hw => (words_ok h w hw).2)
  have h2 := words_cnt h
  have : (wordsP c).length * (18 + 1) ≤ 40 * 19 := Nat.mul_le_mul_right _ h2
  omega
theorem words_of_join {c : Cmd} (h : MayC c) : wordsL (Lib.join (wordsP c) [32]) = wordsP c := words_join _ fun w hw => (words_ok h w hw).1
theorem joinF_eq {c : Cmd} (h : MayC c) : joinF (wordsP c) = some (Lib.join (wordsP c) [32]) := join_eq _ (by have := words_cnt h; omega) (by have := join_short h; omega)
theorem lrows_eq (l : List Int) (h : RowC l) : lrowsF l = some (numsP l) := by
  unfold lrowsF
  rw [iter_big (fun x => (x.1.1.length - x.1.2.2.1).toNat) (fun x => (0 : Int) ≤ x.1.2.2.1 ∧ RowC x.1.1 ∧ x.1.2.1 = (x.1.1.length : Int) ∧ (x.2.1.length : Int) ≤ x.1.2.2.1)
    (fun x => some ((), (x.2.1 ++ numsP (x.1.1.drop (x.1.2.2.1 : Int).toNat), ()))) ?_ ⟨Int.le_refl _, h, ilen_eq _, by simp⟩ (by have := h.1; simp; omega)]
  · rw [obind_some]
    simp
  · rintro ⟨⟨m, k, i, _⟩, o, _⟩ rec ⟨h0, h1, h2, h3⟩ hr
    simp only at h0 h1 h2 h3 ⊢
    subst h2
    have hl := h1.1
    unfold lrows.lr3.T
    by_cases hi : i < m.length
    · have hw : wrap .i64 (iadd i 1) = i + 1 := wrap_in (n := i + 1) (by omega) (by omega)
      have hb : i.toNat < m.length := by omega
      have hf : FitC m[i.toNat] := h1.2 _ (List.getElem_mem _)
      have hn := hr ((m, (m.length : Int), i + 1, ()), lapp o [Lib.itoa m[i.toNat]], ()) ⟨by show (0 : Int) ≤ i + 1; omega, h1, rfl, by show ((o ++ [_]).length : Int) ≤ i + 1; rw [List.length_append]; simp; omega⟩ (by simp; omega)
      simp only [lget_in h0 hi, obind_some, word_fit hf]
      rw [cnd_t (b := ilt i (m.length : Int)) (decide_eq_true hi), lt16_len (by omega), hw, hn, List.drop_eq_getElem_cons hb, show i.toNat + 1 = (i + 1).toNat by omega]
      simp [numsP]
    · rw [cnd_f (b := ilt i (m.length : Int)) (decide_eq_false hi), drop_end hi]
      simp [numsP]
/-! The line. -/
theorem ilt_t {a b : Int} (h : a < b) : ilt a b = true := decide_eq_true h
theorem ilt_f {a b : Int} (h : ¬ a < b) : ilt a b = false := decide_eq_false h
theorem ile_t {a b : Int} (h : a ≤ b) : ile a b = true := decide_eq_true h
theorem lt_zero {α : Type} (l : List α) : ltake l 0 = [] := rfl
theorem lapp_nil {α : Type} (l : List α) : lapp [] l = l := rfl
theorem lapp_cons {α : Type} (a : α) (l r : List α) : lapp (a :: l) r = a :: lapp l r := rfl
theorem lapp_assoc {α : Type} (a b c : List α) : lapp (lapp a b) c = lapp a (lapp b c) := List.append_assoc a b c
theorem ilen_app {α : Type} (a b : List α) : ilen (lapp a b) = ilen a + ilen b := by rw [ilen_eq, ilen_eq, ilen_eq]; simp [lapp]
theorem ilen_cons {α : Type} (a : α) (b : List α) : ilen (a :: b) = ilen b + 1 := by rw [ilen_eq, ilen_eq]; simp
theorem ilen_nil {α : Type} : ilen ([] : List α) = 0 := rfl
theorem ilen_rep {α : Type} (n : Int) (x : α) (h : 0 ≤ n) : ilen (lrep n x) = n := by rw [ilen_eq]; simp [lrep]; omega
theorem lput_eq (c : Cmd) (hg0 : c.gives.length ≤ 1000000000) (hw0 : c.wants.length ≤ 1000000000) : lputF c = some (if mayB c = true then (Lib.join (wordsP c) [32], 0) else ([], 2)) := by
  unfold lputF
  rw [show cmayF _ = _ from cmay_eq c hg0 hw0, obind_some]
  by_cases hm : MayC c
  · rw [may_t hm, if_pos rfl, cnd_f (b := bnot true) rfl]
    have hj := joinF_eq hm
    have hrow := may_rows hm
    obtain ⟨kind, dir, item, box, who, gives, pay, wants, fee⟩ := c
    obtain ⟨hk, hd, hz, hi, hb, hw, hp, hf, hg, hws⟩ := hm
    simp only at hk hd hz hi hb hw hp hf hg hws hrow
    have fitz : ∀ {n : Int} {p : Prop}, FitH n p → FitC n := by
      intro n p h
      by_cases hp : p
      · exact h.1 hp
      · rw [h.2 hp]; exact fit_zero
    simp only [cway_eq, obind_some, word_fit (fitz hi), word_fit (fitz hb), word_fit (fitz hw), word_fit (fitz hp), word_fit (fitz hf), cname_eq]
    obtain rfl | rfl | rfl | rfl | rfl | rfl | rfl | rfl | rfl | rfl := ten hk.1 hk.2 <;> simp only [ieq_ff, ieq_tt, not_false_eq_true, Int.reduceEq, cnd_tt, cnd_ff]
    · exact congrArg (fun o => obind o fun x => some (x, (0 : Int))) hj
    · exact congrArg (fun o => obind o fun x => some (x, (0 : Int))) hj
    · exact congrArg (fun o => obind o fun x => some (x, (0 : Int))) hj
    · exact congrArg (fun o => obind o fun x => some (x, (0 : Int))) hj
    · exact congrArg (fun o => obind o fun x => some (x, (0 : Int))) hj
    · exact congrArg (fun o => obind o fun x => some (x, (0 : Int))) hj
    · exact congrArg (fun o => obind o fun x => some (x, (0 : Int))) hj
    · have g1 := hg.1 rfl
      have g2 := hws.1 rfl
      rw [lrows_eq _ g1, obind_some, lrows_eq _ g2, obind_some]
      have n1 : ilen (numsP gives) = (gives.length : Int) := by rw [ilen_eq, nums_len]
      have n2 : ilen (numsP wants) = (wants.length : Int) := by rw [ilen_eq, nums_len]
      have l1 := hrow.1
      have l2 := hrow.2
      clear hk hd hz hi hb hw hp hf hg hws hrow g1 g2 hg0 hw0 fitz
      simp (disch := omega) only [iadd, isub, imul, n1, n2, wrap_in, ilt_f, ilt_t, ile_t, cnd_tt, cnd_ff, ilen_rep, lt_zero, lapp_nil, lapp_cons, ilen_app, ilen_cons, ilen_nil, obind_some]
      simp only [lapp_assoc, lapp_cons, lapp_nil]
      exact congrArg (fun o => obind o fun x => some (x, (0 : Int))) hj
    · exact congrArg (fun o => obind o fun x => some (x, (0 : Int))) hj
    · exact congrArg (fun o => obind o fun x => some (x, (0 : Int))) hj
  · rw [may_f hm]
    rfl
end Go.Sx
