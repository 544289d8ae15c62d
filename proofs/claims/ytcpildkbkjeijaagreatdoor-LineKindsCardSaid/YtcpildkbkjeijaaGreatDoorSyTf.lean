/-
  Lines: what the document's reading reads.
-/
import Derived.Test.YtcpildkbkjeijaaGreatDoorSyTe
set_option linter.unusedVariables false
set_option linter.unusedSimpArgs false
namespace Go.Sx
open Go Go.Proofs
open Go.Lib (decDigits nDigits)
theorem words_count' {c : Cmd} (h : MayC c) : (wordsP c).length ≤ 1000000000 := by
  have := may_rows h
  unfold wordsP
  repeat' split
  all_goals simp [numsP]
  omega
theorem Leaf.of {L : List Str} {X : Cmd} (hg : X.gives.length ≤ 1000000000) (hw : X.wants.length ≤ 1000000000) : Res L (obind (r3mayF X) fun x => cnd (bnot x) (some (zeroC, 2)) (obind (r4wordsF X) fun y => obind (sameF y L) fun z => cnd (bnot z) (some (zeroC, 2)) (some (X, 0)))) := by
  rw [r3may_eq X hg hw]
  by_cases m : MayC X
  · rw [may_t m, obind_some, cnd_f (b := bnot true) rfl, r4words_eq X m, obind_some, same_eq _ _ (words_count' m), obind_some]
    by_cases e : wordsP X = L
    · rw [decide_eq_true e]
      exact .inr ⟨X, m, e, rfl⟩
    · rw [decide_eq_false e]
      exact .zero
  · rw [may_f m]
    exact .zero
theorem leaf_ok {X : Cmd} (h : MayC X) : (obind (r3mayF X) fun x => cnd (bnot x) (some (zeroC, (2 : Int))) (obind (r4wordsF X) fun y => obind (sameF y (wordsP X)) fun z => cnd (bnot z) (some (zeroC, 2)) (some (X, 0)))) = some (X, 0) := by
  have := may_rows h
  rw [r3may_eq X (by omega) (by omega), may_t h, obind_some, cnd_f (b := bnot true) rfl, r4words_eq X h, obind_some, same_self _ (words_count' h)]
  rfl
theorem at_some {l : List Str} {i : Int} {w : Str} (hi : 0 ≤ i) (h : l[i.toNat]? = some w) : r4atF l i = some (numL w).1 := by rw [r4at_eq l i hi, h]
theorem at_any (l : List Str) (i : Int) (hi : 0 ≤ i) : ∃ v, r4atF l i = some v := ⟨_, r4at_eq l i hi⟩
theorem Res.at_ {L l : List Str} {i : Int} {G : Int → Option (Cmd × Int)} (hi : 0 ≤ i) (h : ∀ v, Res L (G v)) : Res L (obind (r4atF l i) G) := by
  obtain ⟨v, e⟩ := at_any l i hi
  rw [e]
  exact h v
theorem Res.kdir {L l : List Str} {i : Int} {G : Str → Option (Cmd × Int)} {B : Option (Cmd × Int)} (hi : 0 ≤ i) (h : ∀ a, Res L (G a)) (hB : Res L B) : Res L (cnd (ilt i (ilen l)) (obind (lget l i) G) B) := by
  by_cases c : i < l.length
  · rw [cnd_t (b := ilt i (ilen l)) (decide_eq_true (by rw [ilen_eq]; omega)), lget_in hi c]
    exact h _
  · rw [cnd_f (b := ilt i (ilen l)) (decide_eq_false (by rw [ilen_eq]; omega))]
    exact hB
theorem Res.rdir {L : List Str} {a : Str} {G : Int × Bool → Option (Cmd × Int)} (h : ∀ p, Res L (G p)) : Res L (obind (r3dirF a) G) := by
  rw [r3dir_eq]
  exact h _
theorem kind_rng {w : Str} : 0 ≤ (kindP w).1 ∧ (kindP w).1 ≤ 10 := by
  cases hk : kindP w with
  | mk k b =>
  cases b with
  | false => have := kind_no hk; simp only; omega
  | true => have := (kind_inv hk).1; simp only; omega
theorem toC_len (l : List Str) : (toC l).length ≤ l.length := (List.takeWhile_sublist _).length_le
theorem r4get_sound (s : Str) (hs : s.length ≤ 1000000) : Res (wordsL s) (r4getF s) := by
  have hL : (wordsL s).length ≤ 1000001 := by have := words_len s; omega
  have hW : ∀ w ∈ wordsL s, w.length ≤ 1000000 := fun w hw => by have := words_each s w hw; omega
  unfold r4getF
  rw [rcut_eq s hs, obind_some]
  generalize wordsL s = l at hW hL ⊢
  refine .head fun w r e => ?_
  rw [r3kind_eq, obind_some]
  have hk := kind_rng (w := w)
  generalize kindP w = kb at hk ⊢
  obtain ⟨k, b⟩ := kb
  simp only at hk ⊢
  have eleven : k = 0 ∨ k = 1 ∨ k = 2 ∨ k = 3 ∨ k = 4 ∨ k = 5 ∨ k = 6 ∨ k = 7 ∨ k = 8 ∨ k = 9 ∨ k = 10 := by omega
  clear e
  obtain rfl | rfl | rfl | rfl | rfl | rfl | rfl | rfl | rfl | rfl | rfl := eleven <;> simp only [ieq, Int.reduceEq, decide_true, decide_false, cnd_tt, cnd_ff]
  · exact Leaf.of (by simp) (by simp)
  · exact .kdir (by decide) (fun a => .rdir fun p => Leaf.of (by simp) (by simp)) (Leaf.of (by simp) (by simp))
  · exact .at_ (by decide) fun v => .kdir (by decide) (fun a => .rdir fun p => Leaf.of (by simp) (by simp)) (Leaf.of (by simp) (by simp))
  · exact .at_ (by decide) fun v => Leaf.of (by simp) (by simp)
  · exact .at_ (by decide) fun v => Leaf.of (by simp) (by simp)
  · exact .at_ (by decide) fun v => .at_ (by decide) fun u => Leaf.of (by simp) (by simp)
  · exact .at_ (by decide) fun v => .at_ (by decide) fun u => Leaf.of (by simp) (by simp)
  · exact .at_ (by decide) fun v => .at_ (by decide) fun u => Leaf.of (by simp) (by simp)
  · refine .at_ (by decide) fun v => ?_
    have b1 := toC_len (l.drop 3)
    simp only [List.length_drop] at b1
    rw [coinA_eq _ (by show (0 : Int) ≤ 3; decide) (by show (3 : Int) ≤ 2000000; decide) hW hL (by show ((0 : Nat) : Int) ≤ 3; decide), obind_some]
    dsimp only [coinA]
    have e3 : ((3 : Int)).toNat = 3 := rfl
    rw [e3]
    generalize toC (l.drop 3) = c1 at b1 ⊢
    have w1 : wrap .i64 (iadd (3 + (c1.length : Int)) 1) = 4 + (c1.length : Int) := by
      show wrap .i64 (3 + (c1.length : Int) + 1) = _
      rw [wrap_in (by omega) (by omega)]; omega
    have w2 : wrap .i64 (iadd (3 + (c1.length : Int)) 3) = 6 + (c1.length : Int) := by
      show wrap .i64 (3 + (c1.length : Int) + 3) = _
      rw [wrap_in (by omega) (by omega)]; omega
    rw [w1, w2]
    refine .at_ (by omega) fun p => ?_
    rw [coinB_eq _ (by show 0 ≤ 6 + (c1.length : Int); omega) (by show 6 + (c1.length : Int) ≤ 2000000; omega) hW hL (by show ((0 : Nat) : Int) ≤ 6 + (c1.length : Int); omega), obind_some]
    dsimp only [coinB]
    have b2 := toC_len (l.drop (6 + (c1.length : Int)).toNat)
    simp only [List.length_drop] at b2
    generalize toC (l.drop (6 + (c1.length : Int)).toNat) = c2 at b2 ⊢
    have w3 : wrap .i64 (iadd (6 + (c1.length : Int) + (c2.length : Int)) 1) = 7 + (c1.length : Int) + (c2.length : Int) := by
      show wrap .i64 (6 + (c1.length : Int) + (c2.length : Int) + 1) = _
      rw [wrap_in (by omega) (by omega)]; omega
    rw [w3]
    refine .at_ (by omega) fun f => ?_
    exact Leaf.of (by simp; omega) (by simp; omega)
  · exact Leaf.of (by simp) (by simp)
  · exact Leaf.of (by simp) (by simp)
theorem toC_nums (g : List Int) (hg : ∀ n ∈ g, FitC n) (r : List Str) : toC (numsP g ++ COINS :: r) = numsP g := by
  induction g with
  | nil => simp [numsP, toC]
  | cons n g ih =>
    have hn := numL_itoa (hg n (by simp))
    have hne : Lib.itoa n ≠ COINS := fun e => by
      have := coins_no
      rw [← e, hn] at this
      cases this
    have := ih (fun m h => hg m (List.mem_cons_of_mem _ h))
    show toC (Lib.itoa n :: (numsP g ++ COINS :: r)) = Lib.itoa n :: numsP g
    unfold toC at this ⊢
    rw [List.takeWhile_cons, if_pos (by simp [hne]), this]
theorem nums_val (g : List Int) (hg : ∀ n ∈ g, FitC n) : (numsP g).map (fun w => (numL w).1) = g := by
  induction g with
  | nil => rfl
  | cons n g ih =>
    have hn := numL_itoa (hg n (by simp))
    simp only [numsP, List.map_cons, hn] at ih ⊢
    rw [ih (fun m h => hg m (List.mem_cons_of_mem _ h))]
theorem nums_len (g : List Int) : (numsP g).length = g.length := by simp [numsP]
theorem kval {k : Int} (h : 1 ≤ k ∧ k ≤ 10) : r3kindF (nameP k) = some (k, true) := by rw [r3kind_eq, kind_name h]
theorem dval {k : Int} (h : 0 ≤ k ∧ k ≤ 3) : r3dirF (wayP k) = some (k, true) := by rw [r3dir_eq, dir_way h]
theorem aval {l : List Str} {i n : Int} (hi : 0 ≤ i) (hn : FitC n) (h : l[i.toNat]? = some (Lib.itoa n)) : r4atF l i = some n := by rw [at_some hi h, numL_itoa hn]
theorem r4get_of (s : Str) (c : Cmd) (hs : s.length ≤ 1000000) (h : MayC c) (e : wordsL s = wordsP c) : r4getF s = some (c, 0) := by
  have hm := leaf_ok h
  have hrow := may_rows h
  have hW : ∀ w ∈ wordsL s, w.length ≤ 1000000 := fun w hw => by have := words_each s w hw; omega
  have hL : (wordsL s).length ≤ 1000001 := by have := words_len s; omega
  unfold r4getF
  rw [rcut_eq s hs, obind_some, e]
  rw [e] at hW hL
  obtain ⟨kind, dir, item, box, who, gives, pay, wants, fee⟩ := c
  obtain ⟨hk, hd, hz, hi, hb, hw, hp, hf, hg, hws⟩ := h
  simp only at hk hd hz hi hb hw hp hf hg hws hrow
  have hh : ∃ r, wordsP ⟨kind, dir, item, box, who, gives, pay, wants, fee⟩ = nameP kind :: r := ⟨_, rfl⟩
  obtain ⟨r, hr⟩ := hh
  have h0 : lget (wordsP ⟨kind, dir, item, box, who, gives, pay, wants, fee⟩) 0 = some (nameP kind) := by rw [hr]; rfl
  have hz0 : ieq (ilen (wordsP ⟨kind, dir, item, box, who, gives, pay, wants, fee⟩)) 0 = false := by rw [hr]; exact z_cons _ _
  rw [hz0, cnd_ff, h0, obind_some, kval hk, obind_some]
  clear h0 hz0
  obtain rfl | rfl | rfl | rfl | rfl | rfl | rfl | rfl | rfl | rfl := ten hk.1 hk.2 <;> simp only [ieq, Int.reduceEq, decide_true, decide_false, cnd_tt, cnd_ff]
  · obtain rfl := hi.2 (by decide)
    obtain rfl := hb.2 (by decide)
    obtain rfl := hw.2 (by decide)
    obtain rfl := hp.2 (by decide)
    obtain rfl := hf.2 (by decide)
    obtain rfl := hg.2 (by decide)
    obtain rfl := hws.2 (by decide)
    have c1 : lget (wordsP ⟨1, dir, 0, 0, 0, [], 0, [], 0⟩) 1 = some (wayP dir) := rfl
    have c2 : ilt 1 (ilen (wordsP ⟨1, dir, 0, 0, 0, [], 0, [], 0⟩)) = true := rfl
    rw [c2, cnd_tt, c1, obind_some, dval hd, obind_some]
    exact hm
  · obtain rfl := hi.2 (by decide)
    obtain rfl := hb.2 (by decide)
    have hw1 := hw.1 (by decide)
    obtain rfl := hp.2 (by decide)
    obtain rfl := hf.2 (by decide)
    obtain rfl := hg.2 (by decide)
    obtain rfl := hws.2 (by decide)
    have c1 : lget (wordsP ⟨2, dir, 0, 0, who, [], 0, [], 0⟩) 2 = some (wayP dir) := rfl
    have c2 : ilt 2 (ilen (wordsP ⟨2, dir, 0, 0, who, [], 0, [], 0⟩)) = true := rfl
    rw [aval (n := who) (by decide) hw1 rfl, obind_some, c2, cnd_tt, c1, obind_some, dval hd, obind_some]
    exact hm
  · obtain rfl : dir = 0 := by omega
    have hi1 := hi.1 (by decide)
    obtain rfl := hb.2 (by decide)
    obtain rfl := hw.2 (by decide)
    obtain rfl := hp.2 (by decide)
    obtain rfl := hf.2 (by decide)
    obtain rfl := hg.2 (by decide)
    obtain rfl := hws.2 (by decide)
    rw [aval (n := item) (by decide) hi1 rfl, obind_some]
    exact hm
  · obtain rfl : dir = 0 := by omega
    have hi1 := hi.1 (by decide)
    obtain rfl := hb.2 (by decide)
    obtain rfl := hw.2 (by decide)
    obtain rfl := hp.2 (by decide)
    obtain rfl := hf.2 (by decide)
    obtain rfl := hg.2 (by decide)
    obtain rfl := hws.2 (by decide)
    rw [aval (n := item) (by decide) hi1 rfl, obind_some]
    exact hm
  · obtain rfl : dir = 0 := by omega
    have hi1 := hi.1 (by decide)
    have hb1 := hb.1 (by decide)
    obtain rfl := hw.2 (by decide)
    obtain rfl := hp.2 (by decide)
    obtain rfl := hf.2 (by decide)
    obtain rfl := hg.2 (by decide)
    obtain rfl := hws.2 (by decide)
    rw [aval (n := item) (by decide) hi1 rfl, obind_some, aval (n := box) (by decide) hb1 rfl, obind_some]
    exact hm
  · obtain rfl : dir = 0 := by omega
    have hi1 := hi.1 (by decide)
    have hb1 := hb.1 (by decide)
    obtain rfl := hw.2 (by decide)
    obtain rfl := hp.2 (by decide)
    obtain rfl := hf.2 (by decide)
    obtain rfl := hg.2 (by decide)
    obtain rfl := hws.2 (by decide)
    rw [aval (n := item) (by decide) hi1 rfl, obind_some, aval (n := box) (by decide) hb1 rfl, obind_some]
    exact hm
  · obtain rfl : dir = 0 := by omega
    have hi1 := hi.1 (by decide)
    obtain rfl := hb.2 (by decide)
    have hw1 := hw.1 (by decide)
    obtain rfl := hp.2 (by decide)
    obtain rfl := hf.2 (by decide)
    obtain rfl := hg.2 (by decide)
    obtain rfl := hws.2 (by decide)
    rw [aval (n := item) (by decide) hi1 rfl, obind_some, aval (n := who) (by decide) hw1 rfl, obind_some]
    exact hm
  · obtain rfl : dir = 0 := by omega
    obtain rfl := hi.2 (by decide)
    obtain rfl := hb.2 (by decide)
    have hw1 := hw.1 (by decide)
    have hp1 := hp.1 (by decide)
    have hf1 := hf.1 (by decide)
    have hg1 := hg.1 rfl
    have hws1 := hws.1 rfl
    have ew : wordsP ⟨8, 0, 0, 0, who, gives, pay, wants, fee⟩ = nameP 8 :: Lib.itoa who :: GIVE :: (numsP gives ++ (COINS :: Lib.itoa pay :: FOR :: (numsP wants ++ [COINS, Lib.itoa fee]))) := rfl
    have nl := nums_len gives
    have nw := nums_len wants
    have d1 : (wordsP ⟨8, 0, 0, 0, who, gives, pay, wants, fee⟩).drop 3 = numsP gives ++ (COINS :: Lib.itoa pay :: FOR :: (numsP wants ++ [COINS, Lib.itoa fee])) := rfl
    have d2 : (wordsP ⟨8, 0, 0, 0, who, gives, pay, wants, fee⟩).drop (6 + (numsP gives).length) = numsP wants ++ [COINS, Lib.itoa fee] := by
      rw [show 6 + (numsP gives).length = 3 + ((numsP gives).length + 3) by omega, ← List.drop_drop, d1, ← List.drop_drop, List.drop_left]
      rfl
    have g1 : (wordsP ⟨8, 0, 0, 0, who, gives, pay, wants, fee⟩)[4 + (numsP gives).length]? = some (Lib.itoa pay) := by
      rw [show 4 + (numsP gives).length = 3 + ((numsP gives).length + 1) by omega, ← List.getElem?_drop, d1, List.getElem?_append_right (by omega), show (numsP gives).length + 1 - (numsP gives).length = 1 by omega]
      rfl
    have g2 : (wordsP ⟨8, 0, 0, 0, who, gives, pay, wants, fee⟩)[7 + (numsP gives).length + (numsP wants).length]? = some (Lib.itoa fee) := by
      rw [show 7 + (numsP gives).length + (numsP wants).length = (6 + (numsP gives).length) + ((numsP wants).length + 1) by omega, ← List.getElem?_drop, d2, List.getElem?_append_right (by omega), show (numsP wants).length + 1 - (numsP wants).length = 1 by omega]
      rfl
    rw [aval (n := who) (by decide) hw1 rfl, obind_some]
    generalize hl : wordsP ⟨8, 0, 0, 0, who, gives, pay, wants, fee⟩ = l at hW hL hm d1 d2 g1 g2 ⊢
    rw [coinA_eq _ (by show (0 : Int) ≤ 3; decide) (by show (3 : Int) ≤ 2000000; decide) hW hL (by show ((0 : Nat) : Int) ≤ 3; decide), obind_some]
    dsimp only [coinA]
    have e3 : ((3 : Int)).toNat = 3 := rfl
    rw [e3, d1, toC_nums _ hg1.2, nums_val _ hg1.2]
    have w1 : wrap .i64 (iadd (3 + ((numsP gives).length : Int)) 1) = ((4 + (numsP gives).length : Nat) : Int) := by
      show wrap .i64 (3 + ((numsP gives).length : Int) + 1) = _
      rw [wrap_in (by omega) (by omega)]; omega
    have w2 : wrap .i64 (iadd (3 + ((numsP gives).length : Int)) 3) = ((6 + (numsP gives).length : Nat) : Int) := by
      show wrap .i64 (3 + ((numsP gives).length : Int) + 3) = _
      rw [wrap_in (by omega) (by omega)]; omega
    rw [w1, w2, aval (n := pay) (by omega) hp1 (by rw [Int.toNat_natCast]; exact g1), obind_some]
    rw [coinB_eq _ (by show (0 : Int) ≤ ((6 + (numsP gives).length : Nat) : Int); omega) (by show ((6 + (numsP gives).length : Nat) : Int) ≤ 2000000; omega) hW hL (by show ((0 : Nat) : Int) ≤ ((6 + (numsP gives).length : Nat) : Int); omega), obind_some]
    dsimp only [coinB]
    rw [Int.toNat_natCast, d2, toC_nums _ hws1.2, nums_val _ hws1.2]
    have w3 : wrap .i64 (iadd (((6 + (numsP gives).length : Nat) : Int) + ((numsP wants).length : Int)) 1) = ((7 + (numsP gives).length + (numsP wants).length : Nat) : Int) := by
      show wrap .i64 (((6 + (numsP gives).length : Nat) : Int) + ((numsP wants).length : Int) + 1) = _
      rw [wrap_in (by omega) (by omega)]; omega
    rw [w3, aval (n := fee) (by omega) hf1 (by rw [Int.toNat_natCast]; exact g2), obind_some]
    simp only [List.nil_append]
    exact hm
  · obtain rfl : dir = 0 := by omega
    obtain rfl := hi.2 (by decide)
    obtain rfl := hb.2 (by decide)
    obtain rfl := hw.2 (by decide)
    obtain rfl := hp.2 (by decide)
    obtain rfl := hf.2 (by decide)
    obtain rfl := hg.2 (by decide)
    obtain rfl := hws.2 (by decide)
    exact hm
  · obtain rfl : dir = 0 := by omega
    obtain rfl := hi.2 (by decide)
    obtain rfl := hb.2 (by decide)
    obtain rfl := hw.2 (by decide)
    obtain rfl := hp.2 (by decide)
    obtain rfl := hf.2 (by decide)
    obtain rfl := hg.2 (by decide)
    obtain rfl := hws.2 (by decide)
    exact hm
theorem r4get_eq (s : Str) (hs : s.length ≤ 1000000) : r4getF s = some (getL (wordsL s)) := by
  unfold getL
  by_cases h : ∃ c, MayC c ∧ wordsP c = wordsL s
  · rw [dif_pos h]
    have := Classical.choose_spec h
    exact r4get_of s _ hs this.1 this.2.symm
  · rw [dif_neg h]
    rcases r4get_sound s hs with e | ⟨c, hc, hw, _⟩
    · exact e
    · exact absurd ⟨c, hc, hw⟩ h
theorem getL_of {c : Cmd} {s : Str} (hs : s.length ≤ 1000000) (h : MayC c) (e : wordsL s = wordsP c) : getL (wordsL s) = (c, 0) := Option.some.inj ((lget_eq s hs).symm.trans (lget_of s c hs h e))
theorem getL_or (l : List Str) : getL l = (zeroC, 2) ∨ ∃ c, MayC c ∧ wordsP c = l ∧ getL l = (c, 0) := by
  unfold getL
  by_cases h : ∃ c, MayC c ∧ wordsP c = l
  · rw [dif_pos h]
    exact .inr ⟨_, (Classical.choose_spec h).1, (Classical.choose_spec h).2, rfl⟩
  · rw [dif_neg h]
    exact .inl rfl
end Go.Sx
