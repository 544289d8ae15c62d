/-
  Lines: the document's words and its reading.
-/
import Derived.Test.YtcpildkbkjeijaaGreatDoorSyN
import Derived.Test.YtcpildkbkjeijaaGreatDoorSyTb
set_option linter.unusedVariables false
set_option linter.unusedSimpArgs false
namespace Go.Sx
open Go Go.Proofs
open Go.Lib (decDigits nDigits)
abbrev IN : Str := [105, 110]
abbrev FROM : Str := [102, 114, 111, 109]
abbrev TO : Str := [116, 111]
abbrev GIVE : Str := [103, 105, 118, 101]
abbrev COINS : Str := [99, 111, 105, 110, 115]
abbrev FOR : Str := [102, 111, 114]
def numsP (l : List Int) : List Str := l.map Lib.itoa
def wordsP (c : Cmd) : List Str := nameP c.kind ::
  (if c.kind = 1 then [wayP c.dir]
   else if c.kind = 2 then [Lib.itoa c.who, wayP c.dir]
   else if c.kind = 3 then [Lib.itoa c.item]
   else if c.kind = 4 then [Lib.itoa c.item]
   else if c.kind = 5 then [Lib.itoa c.item, IN, Lib.itoa c.box]
   else if c.kind = 6 then [Lib.itoa c.item, FROM, Lib.itoa c.box]
   else if c.kind = 7 then [Lib.itoa c.item, TO, Lib.itoa c.who]
   else if c.kind = 8 then Lib.itoa c.who :: GIVE :: (numsP c.gives ++ (COINS :: Lib.itoa c.pay :: FOR :: (numsP c.wants ++ [COINS, Lib.itoa c.fee])))
   else [])
theorem rword_fit {n : Int} (h : FitC n) : rwordF n = some (Lib.itoa n) := by
  obtain ⟨h0, h1⟩ := h
  unfold rwordF rwOf
  rw [cnd_t (b := ile 0 n) (decide_eq_true h0), cnd_t (b := ilt n _) (decide_eq_true (by omega))]
theorem r4n_eq {n : Int} (h : FitC n) : r4nF n = some (Lib.itoa n) := by
  unfold r4nF
  rw [rword_fit h]
  rfl
theorem word_fit {n : Int} (h : FitC n) : wordF n = some (Lib.itoa n) := by
  obtain ⟨h0, h1⟩ := h
  obtain ⟨u, rfl⟩ := Int.eq_ofNat_of_zero_le h0
  rw [word_nat u (by omega), itoa_nat]
theorem numL_itoa {n : Int} (h : FitC n) : numL (Lib.itoa n) = (n, true) := by
  obtain ⟨h0, h1⟩ := h
  obtain ⟨u, rfl⟩ := Int.eq_ofNat_of_zero_le h0
  rw [itoa_nat, numL_dig u (by omega)]
theorem numL_inv {s : Str} (h : (numL s).2 = true) : FitC (numL s).1 ∧ s = Lib.itoa (numL s).1 := by
  obtain ⟨v, hv, hs, e⟩ := numL_word h
  rw [e]
  exact ⟨⟨by omega, by omega⟩, by rw [itoa_nat]; exact hs⟩
theorem numL_no {s : Str} (h : (numL s).2 = false) : (numL s).1 = 0 := by
  unfold numL at h ⊢
  split at h
  · split at h
    · cases h
    · rename_i a b
      simp [b]
  · rfl
theorem r4rows1 (k d it bx wh : Int) (g : List Int) (p : Int) (w : List Int) (f : Int) (o : List Str) (hg : RowC g) (ho : o.length ≤ 100) :
    iter r4words.lr19.T bigL (((0, ()), ((k, (d, (it, (bx, (wh, (g, (p, (w, (f, ()))))))))), (o, ())))) = some ((), ((k, (d, (it, (bx, (wh, (g, (p, (w, (f, ()))))))))), (o ++ numsP g, ()))) := by
  rw [iter_big (fun x => (x.2.1.2.2.2.2.2.1.length - x.1.1).toNat) (fun x => (0 : Int) ≤ x.1.1 ∧ RowC x.2.1.2.2.2.2.2.1 ∧ (x.2.2.1.length : Int) ≤ 100 + x.1.1)
    (fun x => some ((), (x.2.1, (x.2.2.1 ++ numsP (x.2.1.2.2.2.2.2.1.drop (x.1.1 : Int).toNat), ())))) ?_ ⟨Int.le_refl _, hg, by show (o.length : Int) ≤ 100 + 0; omega⟩ (by have := hg.1; simp; omega)]
  · rfl
  · rintro ⟨⟨i, _⟩, ⟨k, d, it, bx, wh, g, p, w, f, _⟩, o, _⟩ rec ⟨h0, h1, h2⟩ hr
    simp only at h0 h1 h2 ⊢
    have hl := h1.1
    unfold r4words.lr19.T
    by_cases hi : i < g.length
    · have hw : wrap .i64 (iadd i 1) = i + 1 := wrap_in (n := i + 1) (by omega) (by omega)
      have hb : i.toNat < g.length := by omega
      have hf : FitC g[i.toNat] := h1.2 _ (List.getElem_mem _)
      have hn := hr ((i + 1, ()), (k, d, it, bx, wh, g, p, w, f, ()), lapp o [Lib.itoa g[i.toNat]], ()) ⟨by show (0 : Int) ≤ i + 1; omega, h1, by show ((o ++ [_]).length : Int) ≤ 100 + (i + 1); rw [List.length_append]; simp; omega⟩ (by simp; omega)
      have hq : imul (iadd (ilen o) 1) 16 < 1000000000000 := by
        rw [ilen_eq]
        show ((o.length : Int) + 1) * 16 < 1000000000000
        omega
      simp only [lget_in h0 hi, obind_some, r4n_eq hf]
      rw [cnd_t (b := ilt i (ilen g)) (decide_eq_true (by rw [ilen_eq]; omega)), lt_ok16 hq, hw, hn, List.drop_eq_getElem_cons hb, show i.toNat + 1 = (i + 1).toNat by omega]
      simp [numsP]
    · rw [cnd_f (b := ilt i (ilen g)) (decide_eq_false (by rw [ilen_eq]; omega)), drop_end hi]
      simp [numsP]
theorem r4rows2 (k d it bx wh : Int) (g : List Int) (p : Int) (w : List Int) (f : Int) (o : List Str) (hg : RowC w) (ho : o.length ≤ 100) :
    iter r4words.lr24.T bigL (((0, ()), ((k, (d, (it, (bx, (wh, (g, (p, (w, (f, ()))))))))), (o, ())))) = some ((), ((k, (d, (it, (bx, (wh, (g, (p, (w, (f, ()))))))))), (o ++ numsP w, ()))) := by
  rw [iter_big (fun x => (x.2.1.2.2.2.2.2.2.2.1.length - x.1.1).toNat) (fun x => (0 : Int) ≤ x.1.1 ∧ RowC x.2.1.2.2.2.2.2.2.2.1 ∧ (x.2.2.1.length : Int) ≤ 100 + x.1.1)
    (fun x => some ((), (x.2.1, (x.2.2.1 ++ numsP (x.2.1.2.2.2.2.2.2.2.1.drop (x.1.1 : Int).toNat), ())))) ?_ ⟨Int.le_refl _, hg, by show (o.length : Int) ≤ 100 + 0; omega⟩ (by have := hg.1; simp; omega)]
  · rfl
  · rintro ⟨⟨i, _⟩, ⟨k, d, it, bx, wh, g, p, w, f, _⟩, o, _⟩ rec ⟨h0, h1, h2⟩ hr
    simp only at h0 h1 h2 ⊢
    have hl := h1.1
    unfold r4words.lr24.T
    by_cases hi : i < w.length
    · have hw : wrap .i64 (iadd i 1) = i + 1 := wrap_in (n := i + 1) (by omega) (by omega)
      have hb : i.toNat < w.length := by omega
      have hf : FitC w[i.toNat] := h1.2 _ (List.getElem_mem _)
      have hn := hr ((i + 1, ()), (k, d, it, bx, wh, g, p, w, f, ()), lapp o [Lib.itoa w[i.toNat]], ()) ⟨by show (0 : Int) ≤ i + 1; omega, h1, by show ((o ++ [_]).length : Int) ≤ 100 + (i + 1); rw [List.length_append]; simp; omega⟩ (by simp; omega)
      have hq : imul (iadd (ilen o) 1) 16 < 1000000000000 := by
        rw [ilen_eq]
        show ((o.length : Int) + 1) * 16 < 1000000000000
        omega
      simp only [lget_in h0 hi, obind_some, r4n_eq hf]
      rw [cnd_t (b := ilt i (ilen w)) (decide_eq_true (by rw [ilen_eq]; omega)), lt_ok16 hq, hw, hn, List.drop_eq_getElem_cons hb, show i.toNat + 1 = (i + 1).toNat by omega]
      simp [numsP]
    · rw [cnd_f (b := ilt i (ilen w)) (decide_eq_false (by rw [ilen_eq]; omega)), drop_end hi]
      simp [numsP]
theorem lt16_len {α β : Type} {l : List β} {n : Int} {A B : α} (h : (l.length : Int) + n ≤ 1000000000) : cnd (ilt (imul (iadd (ilen l) n) 16) 140737488355329) A B = A := lt_ok16 (by
  rw [ilen_eq]
  show ((l.length : Int) + n) * 16 < 1000000000000
  omega)
theorem r4words_eq (c : Cmd) (h : MayC c) : r4wordsF c = some (wordsP c) := by
  obtain ⟨kind, dir, item, box, who, gives, pay, wants, fee⟩ := c
  obtain ⟨hk, hd, hz, hi, hb, hw, hp, hf, hg, hws⟩ := h
  simp only at hk hd hz hi hb hw hp hf hg hws
  unfold r4wordsF wordsP
  obtain rfl | rfl | rfl | rfl | rfl | rfl | rfl | rfl | rfl | rfl := ten hk.1 hk.2 <;> simp only [r3name_eq, r3way_eq, obind_some, ieq, Int.reduceEq, decide_true, decide_false, cnd_tt, cnd_ff, if_true, if_false, reduceIte]
  · rw [r4n_eq (hw.1 (by decide))]; rfl
  · rw [r4n_eq (hi.1 (by decide))]; rfl
  · rw [r4n_eq (hi.1 (by decide))]; rfl
  · rw [r4n_eq (hi.1 (by decide)), r4n_eq (hb.1 (by decide))]; rfl
  · rw [r4n_eq (hi.1 (by decide)), r4n_eq (hb.1 (by decide))]; rfl
  · rw [r4n_eq (hi.1 (by decide)), r4n_eq (hw.1 (by decide))]; rfl
  · have g1 := hg.1 rfl
    have g2 := hws.1 rfl
    have l1 := g1.1
    have l2 := g2.1
    rw [r4n_eq (hw.1 (by decide)), obind_some, r4rows1 _ _ _ _ _ _ _ _ _ _ g1 (by simp), obind_some]
    simp only
    rw [r4n_eq (hp.1 (by decide)), obind_some, lt16_len (by simp [numsP]; omega), r4rows2 _ _ _ _ _ _ _ _ _ _ g2 (by simp [numsP, lapp]; omega), obind_some]
    simp only
    rw [r4n_eq (hf.1 (by decide)), obind_some, lt16_len (by simp [numsP, lapp]; omega)]
    simp [lapp]
end Go.Sx
