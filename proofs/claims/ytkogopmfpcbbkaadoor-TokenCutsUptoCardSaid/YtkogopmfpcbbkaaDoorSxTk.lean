/-
  the functions of a seat, walked (printed by wip/dev/gen.py)
-/
import Derived.Test.YtkogopmfpcbbkaaDoorSxTe
import Derived.Test.YtkogopmfpcbbkaaDoorProg
import Derived.KernelRfl

set_option linter.unusedVariables false
set_option linter.unusedSimpArgs false
namespace Go.Sx
open Go Go.Proofs
def tyL : List (Nat × TyI) :=
  [(3, ⟨false, 1, 8, [.int .i64 0], some (.int .i64), .int .i64⟩),
   (4, ⟨false, 1, 1, [.bool false], some .bool, .bool⟩),
   (5, ⟨false, 1, 1, [.int .u8 0], some (.int .u8), .int .u8⟩),
   (9, ⟨false, 1, 16, [.str []], some .str, .str⟩),
   (20, ⟨false, 1, 16, [.nili], none, .iface⟩),
   (22, ⟨false, 1, 24, [.nilsl], some (.sl .str), .sl 9⟩),
   (29, ⟨false, 1, 4, [.int .u32 0], some (.int .u32), .int .u32⟩),
   (38, ⟨false, 1, 24, [.nilsl], some (.sl (.int .u8)), .sl 5⟩),
   (41, ⟨false, 1, 8, [.nilf], none, .func⟩),
   (45, ⟨false, 1, 16, [.nili], none, .iface⟩),
   (49, ⟨false, 1, 8, [.nilp], none, .ptr 51⟩),
   (51, ⟨true, 2, 32, [.nilp, .nilsl], none, .st [(0, 49), (1, 38)]⟩)]
theorem tyL_ok : (tyL.all fun p => tyOK Tryd.prog p.1 p.2) = true := by kernel_rfl
theorem mixed : Tryd.prog.follows .mixedOrders = true := by kernel_rfl
theorem eqsL : EqsOK Tryd.prog [] := .nil
theorem in3 : FnIn Tryd.prog 3 Tryd.f3 := .mk Tryd.func3 (by kernel_rfl) (by kernel_rfl)
theorem in4 : FnIn Tryd.prog 4 Tryd.f4 := .mk Tryd.func4 (by kernel_rfl) (by kernel_rfl)
theorem in5 : FnIn Tryd.prog 5 Tryd.f5 := .mk Tryd.func5 (by kernel_rfl) (by kernel_rfl)
theorem in6 : FnIn Tryd.prog 6 Tryd.f6 := .mk Tryd.func6 (by kernel_rfl) (by kernel_rfl)
theorem in7 : FnIn Tryd.prog 7 Tryd.f7 := .mk Tryd.func7 (by kernel_rfl) (by kernel_rfl)
theorem in8 : FnIn Tryd.prog 8 Tryd.f8 := .mk Tryd.func8 (by kernel_rfl) (by kernel_rfl)
theorem in9 : FnIn Tryd.prog 9 Tryd.f9 := .mk Tryd.func9 (by kernel_rfl) (by kernel_rfl)
theorem in10 : FnIn Tryd.prog 10 Tryd.f10 := .mk Tryd.func10 (by kernel_rfl) (by kernel_rfl)
theorem in12 : FnIn Tryd.prog 12 Tryd.f12 := .mk Tryd.func12 (by kernel_rfl) (by kernel_rfl)
theorem in13 : FnIn Tryd.prog 13 Tryd.f13 := .mk Tryd.func13 (by kernel_rfl) (by kernel_rfl)
theorem in14 : FnIn Tryd.prog 14 Tryd.f14 := .mk Tryd.func14 (by kernel_rfl) (by kernel_rfl)
theorem in15 : FnIn Tryd.prog 15 Tryd.f15 := .mk Tryd.func15 (by kernel_rfl) (by kernel_rfl)
theorem in16 : FnIn Tryd.prog 16 Tryd.f16 := .mk Tryd.func16 (by kernel_rfl) (by kernel_rfl)
theorem in17 : FnIn Tryd.prog 17 Tryd.f17 := .mk Tryd.func17 (by kernel_rfl) (by kernel_rfl)
theorem in19 : FnIn Tryd.prog 19 Tryd.f19 := .mk Tryd.func19 (by kernel_rfl) (by kernel_rfl)
/-! innkeep/innkeepref02.Same -/
noncomputable def E_same : Env := { ty := tyL, ctr := [], inl := [], eqs := [], glob := GL, L := bigL }
noncomputable def same.l10r4.sp : SPat := ⟨26, [0, 1, 5], [.sl .str, .sl .str, .int .i64], [], [], 0⟩
noncomputable def same.l10r4.es : List (Ex × SPat) := [(.ret, ⟨26, [4], [.bool], [], [], 0⟩), (.exit 0, ⟨26, [], [], [], [], 0⟩)]
noncomputable def same.l10r4.T : ((((List (List UInt8)) × ((List (List UInt8)) × (Int × Unit))) × Unit) → Option (((Bool × Unit) × Unit) ⊕ (Unit × Unit))) → (((List (List UInt8)) × ((List (List UInt8)) × (Int × Unit))) × Unit) → Option (((Bool × Unit) × Unit) ⊕ (Unit × Unit)) := fun rec x =>
  cnd (ilt x.1.2.2.1 (ilen x.1.1)) (obind (lget x.1.1 x.1.2.2.1) (fun x_1 => obind (lget x.1.2.1 x.1.2.2.1) (fun x_2 => cnd (bnot (seq x_1 x_2)) (some (.inl ((false, ()), ()))) (rec ((x.1.1, (x.1.2.1, (wrap .i64 (iadd x.1.2.2.1 1), ()))), ()))))) (some (.inr ((), ())))
noncomputable def same.l10r4 : Alt := ⟨same.l10r4.sp, same.l10r4.es, 100, same.l10r4.T⟩
noncomputable def same.H : Hints := ⟨[(10, [(4, [same.l10r4])])], []⟩
noncomputable def sameF (a : List Str) (b : List Str) : Option (Bool) := cnd (bnot (ieq (ilen a) (ilen b))) (some false) (obind (iter same.l10r4.T bigL (((a, (b, (0, ()))), ()))) (fun x => scase x (fun x => some x.1.1) (fun y => some true)))
theorem same_r10_0 : Alt.Round E_same same.H 10 (oblAt same.H 10 Tryd.f10 0) same.l10r4 := by intro rec x; kernel_rfl
theorem same_told10 : ∀ c, Tryd.f10.body = some c → ToldC E_same same.H 10 c := told_of [same.l10r4] (by kernel_rfl) (fun i hi => match i, hi with | 0, _ => same_r10_0 | n + 1, h => absurd h (by simp))
theorem same_inl : InlsOK Tryd.prog E_same same.H E_same.inl := .nil
theorem same_walk (a : List Str) (b : List Str) : evalF E_same same.H 10 Tryd.f10 [.sl .str a, .sl .str b] (asR [.bool]) = sameF a b := by kernel_rfl
theorem same_ctr : FnOK Tryd.prog 10 ∧ CtrOK Tryd.prog GL 10 (ctrOf [.sl .str, .sl .str] [.bool] sameF) :=
  fn_ctr (E := E_same) tyL_ok (.nil) same_inl eqsL mixed in10 same_told10 (fun xs => same_walk xs.1 xs.2.1)
/-! innkeep/innkeepref02.Cut -/
noncomputable def E_rcut : Env := { ty := tyL, ctr := [], inl := [], eqs := [], glob := GL, L := bigL }
noncomputable def rcut.l12r7.sp : SPat := ⟨38, [0, 3, 4, 5], [.str, .vec 1, .int .i64, .int .i64], [.dead, .vec .str], [], 0⟩
noncomputable def rcut.l12r7.es : List (Ex × SPat) := [(.exit 2, ⟨38, [0, 3, 4, 5], [.str, .vec 1, .int .i64, .int .i64], [.dead, .vec .str], [], 0⟩)]
noncomputable def rcut.l12r7.T : ((((List UInt8) × (Int × (Int × Unit))) × ((List (List UInt8)) × Unit)) → Option (((List UInt8) × (Int × (Int × Unit))) × ((List (List UInt8)) × Unit))) → (((List UInt8) × (Int × (Int × Unit))) × ((List (List UInt8)) × Unit)) → Option (((List UInt8) × (Int × (Int × Unit))) × ((List (List UInt8)) × Unit)) := fun rec x =>
  cnd (ilt x.1.2.2.1 (ilen x.1.1)) (obind (lget x.1.1 x.1.2.2.1) (fun x_2 => cnd (bnot (ieq (u8i x_2) 32)) (rec ((x.1.1, (x.1.2.1, (wrap .i64 (iadd x.1.2.2.1 1), ()))), (x.2.1, ()))) (some ((x.1.1, (x.1.2.1, (x.1.2.2.1, ()))), (x.2.1, ()))))) (some ((x.1.1, (x.1.2.1, (x.1.2.2.1, ()))), (x.2.1, ())))
noncomputable def rcut.l12r7 : Alt := ⟨rcut.l12r7.sp, rcut.l12r7.es, 100, rcut.l12r7.T⟩
noncomputable def rcut.l12r3.sp : SPat := ⟨38, [0, 3, 4], [.str, .vec 1, .int .i64], [.dead, .vec .str], [], 0⟩
noncomputable def rcut.l12r3.es : List (Ex × SPat) := [(.exit 0, ⟨38, [3], [.vec 1], [.dead, .vec .str], [], 0⟩)]
noncomputable def rcut.l12r3.T : ((((List UInt8) × (Int × Unit)) × ((List (List UInt8)) × Unit)) → Option (Unit × ((List (List UInt8)) × Unit))) → (((List UInt8) × (Int × Unit)) × ((List (List UInt8)) × Unit)) → Option (Unit × ((List (List UInt8)) × Unit)) := fun rec x =>
  cnd (ilt x.1.2.1 (ilen x.1.1)) (obind (lget x.1.1 x.1.2.1) (fun x_1 => cnd (ieq (u8i x_1) 32) (rec ((x.1.1, (wrap .i64 (iadd x.1.2.1 1), ())), (x.2.1, ()))) (obind (iter rcut.l12r7.T bigL (((x.1.1, (x.1.2.1, (x.1.2.1, ()))), (x.2.1, ())))) (fun x_2 => cnd (ile 0 x_2.1.2.1) (cnd (ile x_2.1.2.1 x_2.1.2.2.1) (cnd (ile x_2.1.2.2.1 (ilen x_2.1.1)) (cnd (ilt (imul (iadd (ilen x_2.2.1) 1) 16) 140737488355329) (rec ((x_2.1.1, (x_2.1.2.2.1, ())), (lapp x_2.2.1 ([ldrop (ltake x_2.1.1 x_2.1.2.2.1) x_2.1.2.1]), ()))) (none)) (none)) (none)) (none))))) (some ((), (x.2.1, ())))
noncomputable def rcut.l12r3 : Alt := ⟨rcut.l12r3.sp, rcut.l12r3.es, 200, rcut.l12r3.T⟩
noncomputable def rcut.H : Hints := ⟨[(12, [(7, [rcut.l12r7]), (3, [rcut.l12r3])])], []⟩
noncomputable def rcutF (s : Str) : Option (List Str) := obind (iter rcut.l12r3.T bigL (((s, (0, ())), ([], ())))) (fun x => some x.2.1)
theorem rcut_r12_0 : Alt.Round E_rcut rcut.H 12 (oblAt rcut.H 12 Tryd.f12 0) rcut.l12r3 := by intro rec x; kernel_rfl
theorem rcut_r12_1 : Alt.Round E_rcut rcut.H 12 (oblAt rcut.H 12 Tryd.f12 1) rcut.l12r7 := by intro rec x; kernel_rfl
theorem rcut_told12 : ∀ c, Tryd.f12.body = some c → ToldC E_rcut rcut.H 12 c := told_of [rcut.l12r3, rcut.l12r7] (by kernel_rfl) (fun i hi => match i, hi with | 0, _ => rcut_r12_0 | 1, _ => rcut_r12_1 | n + 2, h => absurd h (by simp))
theorem rcut_inl : InlsOK Tryd.prog E_rcut rcut.H E_rcut.inl := .nil
theorem rcut_walk (s : Str) : evalF E_rcut rcut.H 12 Tryd.f12 [.str s] (asR [.sl .str]) = rcutF s := by kernel_rfl
theorem rcut_ctr : FnOK Tryd.prog 12 ∧ CtrOK Tryd.prog GL 12 (ctrOf [.str] [.sl .str] rcutF) :=
  fn_ctr (E := E_rcut) tyL_ok (.nil) rcut_inl eqsL mixed in12 rcut_told12 (fun xs => rcut_walk xs.1)
/-! innkeep/token.Join -/
noncomputable def E_join : Env := { ty := tyL, ctr := [(21, sjoinC)], inl := [], eqs := [], glob := GL, L := bigL }
noncomputable def join.H : Hints := ⟨[], []⟩
noncomputable def joinF (l : List Str) : Option (Str) := obind (sjoinF l (([32] : List UInt8))) (fun x => some x)
theorem join_inl : InlsOK Tryd.prog E_join join.H E_join.inl := .nil
theorem join_walk (l : List Str) : evalF E_join join.H 13 Tryd.f13 [.sl .str l] (asR [.str]) = joinF l := by kernel_rfl
theorem join_ctr : FnOK Tryd.prog 13 ∧ CtrOK Tryd.prog GL 13 (ctrOf [.sl .str] [.str] joinF) :=
  fn_ctr (E := E_join) tyL_ok (.cons sjoin_ctr .nil) join_inl eqsL mixed in13 (fun c _ => told_none rfl c) (fun xs => join_walk xs.1)
/-! innkeep/innkeepref02.Join -/
noncomputable def E_rjoin : Env := { ty := tyL, ctr := [], inl := [], eqs := [], glob := GL, L := bigL }
noncomputable def rjoin.l14r3.sp : SPat := ⟨22, [0, 3, 4], [.sl .str, .str, .int .i64], [], [], 0⟩
noncomputable def rjoin.l14r3.es : List (Ex × SPat) := [(.exit 0, ⟨22, [3], [.str], [], [], 0⟩)]
noncomputable def rjoin.l14r3.T : ((((List (List UInt8)) × ((List UInt8) × (Int × Unit))) × Unit) → Option (((List UInt8) × Unit) × Unit)) → (((List (List UInt8)) × ((List UInt8) × (Int × Unit))) × Unit) → Option (((List UInt8) × Unit) × Unit) := fun rec x =>
  cnd (ilt x.1.2.2.1 (ilen x.1.1)) (cnd (ilt 0 x.1.2.2.1) (cnd (ilt (iadd (ilen x.1.2.1) 1) 4611686018427387904) (obind (lget x.1.1 x.1.2.2.1) (fun x_1 => cnd (ilt (iadd (ilen (lapp x.1.2.1 (([32] : List UInt8)))) (ilen x_1)) 4611686018427387904) (rec ((x.1.1, (lapp (lapp x.1.2.1 (([32] : List UInt8))) x_1, (wrap .i64 (iadd x.1.2.2.1 1), ()))), ())) (none))) (none)) (obind (lget x.1.1 x.1.2.2.1) (fun x_1 => cnd (ilt (iadd (ilen x.1.2.1) (ilen x_1)) 4611686018427387904) (rec ((x.1.1, (lapp x.1.2.1 x_1, (wrap .i64 (iadd x.1.2.2.1 1), ()))), ())) (none)))) (some ((x.1.2.1, ()), ()))
noncomputable def rjoin.l14r3 : Alt := ⟨rjoin.l14r3.sp, rjoin.l14r3.es, 100, rjoin.l14r3.T⟩
noncomputable def rjoin.H : Hints := ⟨[(14, [(3, [rjoin.l14r3])])], []⟩
noncomputable def rjoinF (l : List Str) : Option (Str) := obind (iter rjoin.l14r3.T bigL (((l, (([] : List UInt8), (0, ()))), ()))) (fun x => some x.1.1)
theorem rjoin_r14_0 : Alt.Round E_rjoin rjoin.H 14 (oblAt rjoin.H 14 Tryd.f14 0) rjoin.l14r3 := by intro rec x; kernel_rfl
theorem rjoin_told14 : ∀ c, Tryd.f14.body = some c → ToldC E_rjoin rjoin.H 14 c := told_of [rjoin.l14r3] (by kernel_rfl) (fun i hi => match i, hi with | 0, _ => rjoin_r14_0 | n + 1, h => absurd h (by simp))
theorem rjoin_inl : InlsOK Tryd.prog E_rjoin rjoin.H E_rjoin.inl := .nil
theorem rjoin_walk (l : List Str) : evalF E_rjoin rjoin.H 14 Tryd.f14 [.sl .str l] (asR [.str]) = rjoinF l := by kernel_rfl
theorem rjoin_ctr : FnOK Tryd.prog 14 ∧ CtrOK Tryd.prog GL 14 (ctrOf [.sl .str] [.str] rjoinF) :=
  fn_ctr (E := E_rjoin) tyL_ok (.nil) rjoin_inl eqsL mixed in14 rjoin_told14 (fun xs => rjoin_walk xs.1)
/-! innkeep/token.Word -/
noncomputable def E_word : Env := { ty := tyL, ctr := [(23, itoaC)], inl := [], eqs := [], glob := GL, L := bigL }
noncomputable def word.H : Hints := ⟨[], []⟩
noncomputable def wordF (n : Int) : Option (Str) := obind (itoaF n) (fun x => some x)
theorem word_inl : InlsOK Tryd.prog E_word word.H E_word.inl := .nil
theorem word_walk (n : Int) : evalF E_word word.H 17 Tryd.f17 [.int .i64 n] (asR [.str]) = wordF n := by kernel_rfl
theorem word_ctr : FnOK Tryd.prog 17 ∧ CtrOK Tryd.prog GL 17 (ctrOf [.int .i64] [.str] wordF) :=
  fn_ctr (E := E_word) tyL_ok (.cons itoa_ctr .nil) word_inl eqsL mixed in17 (fun c _ => told_none rfl c) (fun xs => word_walk xs.1)
/-! innkeep/token.Number -/
noncomputable def E_number : Env := { ty := tyL, ctr := [(17, ctrOf [.int .i64] [.str] wordF), (22, atoiC)], inl := [], eqs := [], glob := GL, L := bigL }
noncomputable def number.H : Hints := ⟨[], []⟩
noncomputable def numberF (s : Str) : Option (Int × Bool) := cnd (ile (ilen s) 140737488355328) (cnd (atoiOk s) (cnd (ilt (atoiV s) 0) (some ((0, false))) (cnd (ilt 1073741824 (atoiV s)) (some ((0, false))) (obind (wordF (atoiV s)) (fun x => cnd (bnot (seq x s)) (some ((0, false))) (some ((atoiV s, true))))))) (some ((0, false)))) none
theorem number_inl : InlsOK Tryd.prog E_number number.H E_number.inl := .nil
theorem number_walk (s : Str) : evalF E_number number.H 15 Tryd.f15 [.str s] (asR [.int .i64, .bool]) = numberF s := by kernel_rfl
theorem number_ctr : FnOK Tryd.prog 15 ∧ CtrOK Tryd.prog GL 15 (ctrOf [.str] [.int .i64, .bool] numberF) :=
  fn_ctr (E := E_number) tyL_ok (.cons word_ctr (.cons atoi_ctr .nil)) number_inl eqsL mixed in15 (fun c _ => told_none rfl c) (fun xs => number_walk xs.1)
/-! innkeep/innkeepref02.Number -/
noncomputable def E_rnumber : Env := { ty := tyL, ctr := [], inl := [], eqs := [], glob := GL, L := bigL }
noncomputable def rnumber.l16r5.sp : SPat := ⟨49, [0, 4, 5], [.str, .int .i64, .int .i64], [], [], 0⟩
noncomputable def rnumber.l16r5.es : List (Ex × SPat) := [(.ret, ⟨49, [2, 3], [.int .i64, .bool], [], [], 0⟩), (.exit 0, ⟨49, [4], [.int .i64], [], [], 0⟩)]
noncomputable def rnumber.l16r5.T : ((((List UInt8) × (Int × (Int × Unit))) × Unit) → Option (((Int × (Bool × Unit)) × Unit) ⊕ ((Int × Unit) × Unit))) → (((List UInt8) × (Int × (Int × Unit))) × Unit) → Option (((Int × (Bool × Unit)) × Unit) ⊕ ((Int × Unit) × Unit)) := fun rec x =>
  cnd (ilt x.1.2.2.1 (ilen x.1.1)) (obind (lget x.1.1 x.1.2.2.1) (fun x_1 => cnd (ilt (u8i x_1) 48) (some (.inl ((0, (false, ())), ()))) (obind (lget x.1.1 x.1.2.2.1) (fun x_2 => cnd (ilt 57 (u8i x_2)) (some (.inl ((0, (false, ())), ()))) (cnd (ilt 0 x.1.2.2.1) (cnd (ieq x.1.2.1 0) (some (.inl ((0, (false, ())), ()))) (obind (lget x.1.1 x.1.2.2.1) (fun x_3 => rec ((x.1.1, (wrap .i64 (isub (wrap .i64 (iadd (wrap .i64 (imul 10 x.1.2.1)) (wrap .i64 (u8i x_3)))) 48), (wrap .i64 (iadd x.1.2.2.1 1), ()))), ())))) (obind (lget x.1.1 x.1.2.2.1) (fun x_3 => rec ((x.1.1, (wrap .i64 (isub (wrap .i64 (iadd (wrap .i64 (imul 10 x.1.2.1)) (wrap .i64 (u8i x_3)))) 48), (wrap .i64 (iadd x.1.2.2.1 1), ()))), ())))))))) (some (.inr ((x.1.2.1, ()), ())))
noncomputable def rnumber.l16r5 : Alt := ⟨rnumber.l16r5.sp, rnumber.l16r5.es, 100, rnumber.l16r5.T⟩
noncomputable def rnumber.H : Hints := ⟨[(16, [(5, [rnumber.l16r5])])], []⟩
noncomputable def rnumberF (s : Str) : Option (Int × Bool) := cnd (ieq (ilen s) 0) (some ((0, false))) (cnd (ilt 10 (ilen s)) (some ((0, false))) (obind (iter rnumber.l16r5.T bigL (((s, (0, (0, ()))), ()))) (fun x => scase x (fun x => some ((x.1.1, x.1.2.1))) (fun y => cnd (ilt 1073741824 y.1.1) (some ((0, false))) (some ((y.1.1, true)))))))
theorem rnumber_r16_0 : Alt.Round E_rnumber rnumber.H 16 (oblAt rnumber.H 16 Tryd.f16 0) rnumber.l16r5 := by intro rec x; kernel_rfl
theorem rnumber_told16 : ∀ c, Tryd.f16.body = some c → ToldC E_rnumber rnumber.H 16 c := told_of [rnumber.l16r5] (by kernel_rfl) (fun i hi => match i, hi with | 0, _ => rnumber_r16_0 | n + 1, h => absurd h (by simp))
theorem rnumber_inl : InlsOK Tryd.prog E_rnumber rnumber.H E_rnumber.inl := .nil
theorem rnumber_walk (s : Str) : evalF E_rnumber rnumber.H 16 Tryd.f16 [.str s] (asR [.int .i64, .bool]) = rnumberF s := by kernel_rfl
theorem rnumber_ctr : FnOK Tryd.prog 16 ∧ CtrOK Tryd.prog GL 16 (ctrOf [.str] [.int .i64, .bool] rnumberF) :=
  fn_ctr (E := E_rnumber) tyL_ok (.nil) rnumber_inl eqsL mixed in16 rnumber_told16 (fun xs => rnumber_walk xs.1)
/-! innkeep/innkeepref02.Plain -/
noncomputable def E_plain : Env := { ty := tyL, ctr := [], inl := [], eqs := [], glob := GL, L := bigL }
noncomputable def plain.l19r2.sp : SPat := ⟨17, [0, 3], [.str, .int .i64], [], [], 0⟩
noncomputable def plain.l19r2.es : List (Ex × SPat) := [(.ret, ⟨17, [2], [.bool], [], [], 0⟩), (.exit 0, ⟨17, [0], [.str], [], [], 0⟩)]
noncomputable def plain.l19r2.T : ((((List UInt8) × (Int × Unit)) × Unit) → Option (((Bool × Unit) × Unit) ⊕ (((List UInt8) × Unit) × Unit))) → (((List UInt8) × (Int × Unit)) × Unit) → Option (((Bool × Unit) × Unit) ⊕ (((List UInt8) × Unit) × Unit)) := fun rec x =>
  cnd (ilt x.1.2.1 (ilen x.1.1)) (obind (lget x.1.1 x.1.2.1) (fun x_1 => cnd (ieq (u8i x_1) 32) (some (.inl ((false, ()), ()))) (rec ((x.1.1, (wrap .i64 (iadd x.1.2.1 1), ())), ())))) (some (.inr ((x.1.1, ()), ())))
noncomputable def plain.l19r2 : Alt := ⟨plain.l19r2.sp, plain.l19r2.es, 100, plain.l19r2.T⟩
noncomputable def plain.H : Hints := ⟨[(19, [(2, [plain.l19r2])])], []⟩
noncomputable def plainF (s : Str) : Option (Bool) := obind (iter plain.l19r2.T bigL (((s, (0, ())), ()))) (fun x => scase x (fun x => some x.1.1) (fun y => some (ilt 0 (ilen y.1.1))))
theorem plain_r19_0 : Alt.Round E_plain plain.H 19 (oblAt plain.H 19 Tryd.f19 0) plain.l19r2 := by intro rec x; kernel_rfl
theorem plain_told19 : ∀ c, Tryd.f19.body = some c → ToldC E_plain plain.H 19 c := told_of [plain.l19r2] (by kernel_rfl) (fun i hi => match i, hi with | 0, _ => plain_r19_0 | n + 1, h => absurd h (by simp))
theorem plain_inl : InlsOK Tryd.prog E_plain plain.H E_plain.inl := .nil
theorem plain_walk (s : Str) : evalF E_plain plain.H 19 Tryd.f19 [.str s] (asR [.bool]) = plainF s := by kernel_rfl
theorem plain_ctr : FnOK Tryd.prog 19 ∧ CtrOK Tryd.prog GL 19 (ctrOf [.str] [.bool] plainF) :=
  fn_ctr (E := E_plain) tyL_ok (.nil) plain_inl eqsL mixed in19 plain_told19 (fun xs => plain_walk xs.1)
/-! innkeep/innkeeplaw02.awake -/
noncomputable def E_tawake : Env := { ty := tyL, ctr := [(10, ctrOf [.sl .str, .sl .str] [.bool] sameF), (11, cutC), (13, ctrOf [.sl .str] [.str] joinF), (15, ctrOf [.str] [.int .i64, .bool] numberF), (17, ctrOf [.int .i64] [.str] wordF)], inl := [], eqs := [], glob := GL, L := bigL }
noncomputable def tawake.H : Hints := ⟨[], []⟩
noncomputable def tawakeF  : Option (Bool) := obind (numberF (([49, 48, 55, 51, 55, 52, 49, 56, 50, 52] : List UInt8))) (fun x => obind (numberF (([49, 48, 55, 51, 55, 52, 49, 56, 50, 53] : List UInt8))) (fun x_1 => obind (numberF (([48, 53] : List UInt8))) (fun x_2 => obind (numberF (([] : List UInt8))) (fun x_3 => obind (cutF (([32, 32, 103, 101, 116, 32, 53, 32] : List UInt8))) (fun x_4 => obind (sameF x_4 ([([103, 101, 116] : List UInt8), ([53] : List UInt8)])) (fun x_5 => cnd x_5 (obind (joinF ([([103, 101, 116] : List UInt8), ([53] : List UInt8)])) (fun x_6 => cnd (seq x_6 (([103, 101, 116, 32, 53] : List UInt8))) (cnd (ieq x.1 1073741824) (cnd x.2 (cnd (bnot x_1.2) (cnd (bnot x_2.2) (cnd (bnot x_3.2) (obind (wordF 17) (fun x_7 => cnd (seq x_7 (([49, 55] : List UInt8))) (obind (cutF (([32] : List UInt8))) (fun x_8 => cnd (ieq (ilen x_8) 0) (obind (joinF []) (fun x_9 => some (seq x_9 (([] : List UInt8))))) (some false))) (some false))) (some false)) (some false)) (some false)) (some false)) (some false)) (some false))) (some false)))))))
theorem tawake_inl : InlsOK Tryd.prog E_tawake tawake.H E_tawake.inl := .nil
theorem tawake_walk  : evalF E_tawake tawake.H 9 Tryd.f9 [] (asR [.bool]) = tawakeF  := by kernel_rfl
theorem tawake_ctr : FnOK Tryd.prog 9 ∧ CtrOK Tryd.prog GL 9 (ctrOf [] [.bool] tawakeF) :=
  fn_ctr (E := E_tawake) tyL_ok (.cons same_ctr (.cons cut_ctr (.cons join_ctr (.cons number_ctr (.cons word_ctr .nil))))) tawake_inl eqsL mixed in9 (fun c _ => told_none rfl c) (fun _ => tawake_walk )
/-! innkeep/innkeeplaw02.TokenCuts -/
noncomputable def E_tokenCuts : Env := { ty := tyL, ctr := [(9, ctrOf [] [.bool] tawakeF), (10, ctrOf [.sl .str, .sl .str] [.bool] sameF), (11, cutC), (12, ctrOf [.str] [.sl .str] rcutF), (13, ctrOf [.sl .str] [.str] joinF), (14, ctrOf [.sl .str] [.str] rjoinF)], inl := [], eqs := [], glob := GL, L := bigL }
noncomputable def tokenCuts.H : Hints := ⟨[], []⟩
noncomputable def tokenCutsF (s : Str) (l : List Str) : Option (Bool) := obind tawakeF (fun x => cnd (bnot x) (obind tawakeF (fun x_1 => some x_1)) (cnd (ilt 2000 (ilen s)) (obind tawakeF (fun x_1 => some x_1)) (cnd (ilt 100 (ilen l)) (obind tawakeF (fun x_1 => some x_1)) (obind (cutF s) (fun x_1 => obind (rcutF s) (fun x_2 => obind (sameF x_1 x_2) (fun x_3 => cnd x_3 (obind (joinF l) (fun x_4 => obind (rjoinF l) (fun x_5 => some (seq x_4 x_5)))) (some false))))))))
theorem tokenCuts_inl : InlsOK Tryd.prog E_tokenCuts tokenCuts.H E_tokenCuts.inl := .nil
theorem tokenCuts_walk (s : Str) (l : List Str) : evalF E_tokenCuts tokenCuts.H 3 Tryd.f3 [.str s, .sl .str l] (asR [.bool]) = tokenCutsF s l := by kernel_rfl
theorem tokenCuts_law (htrue : ∀ xs : Lf [.str, .sl .str], (∀ m, wfA m _ xs) → tokenCutsF xs.1 xs.2.1 = some true) : ∀ xs : Lf [.str, .sl .str], (∀ m, wfA m _ xs) → CallsTo Tryd.prog GL 3 (cellsL [.str, .sl .str] xs) (.bool true) :=
  law_to (E := E_tokenCuts) tyL_ok (.cons tawake_ctr (.cons same_ctr (.cons cut_ctr (.cons rcut_ctr (.cons join_ctr (.cons rjoin_ctr .nil)))))) tokenCuts_inl eqsL mixed in3 (fun c _ => told_none rfl c) (F := tokenCutsF) (fun xs => tokenCuts_walk xs.1 xs.2.1) htrue
/-! innkeep/innkeeplaw02.TokenNumbers -/
noncomputable def E_tokenNumbers : Env := { ty := tyL, ctr := [(9, ctrOf [] [.bool] tawakeF), (15, ctrOf [.str] [.int .i64, .bool] numberF), (16, ctrOf [.str] [.int .i64, .bool] rnumberF), (17, ctrOf [.int .i64] [.str] wordF), (18, rwordC)], inl := [], eqs := [], glob := GL, L := bigL }
noncomputable def tokenNumbers.H : Hints := ⟨[], []⟩
noncomputable def tokenNumbersF (s : Str) (n : Int) : Option (Bool) := obind tawakeF (fun x => cnd (bnot x) (obind tawakeF (fun x_1 => some x_1)) (cnd (ilt 100 (ilen s)) (obind tawakeF (fun x_1 => some x_1)) (obind (numberF s) (fun x_1 => obind (rnumberF s) (fun x_2 => obind (wordF (wrap .i64 (irem n 1073741825))) (fun x_3 => obind (numberF x_3) (fun x_4 => cnd (ieq x_1.1 x_2.1) (cnd (beq' x_1.2 x_2.2) (obind (wordF (wrap .i64 (irem n 1073741825))) (fun x_5 => obind (rwordF (wrap .i64 (irem n 1073741825))) (fun x_6 => cnd (seq x_5 x_6) (cnd x_4.2 (cnd (ieq x_4.1 (wrap .i64 (irem n 1073741825))) (cnd (bnot x_1.2) (some true) (obind (wordF x_1.1) (fun x_7 => some (seq x_7 s)))) (some false)) (some false)) (some false)))) (some false)) (some false))))))))
theorem tokenNumbers_inl : InlsOK Tryd.prog E_tokenNumbers tokenNumbers.H E_tokenNumbers.inl := .nil
theorem tokenNumbers_walk (s : Str) (n : Int) : evalF E_tokenNumbers tokenNumbers.H 4 Tryd.f4 [.str s, .int .u32 n] (asR [.bool]) = tokenNumbersF s n := by kernel_rfl
theorem tokenNumbers_law (htrue : ∀ xs : Lf [.str, .int .u32], (∀ m, wfA m _ xs) → tokenNumbersF xs.1 xs.2.1 = some true) : ∀ xs : Lf [.str, .int .u32], (∀ m, wfA m _ xs) → CallsTo Tryd.prog GL 4 (cellsL [.str, .int .u32] xs) (.bool true) :=
  law_to (E := E_tokenNumbers) tyL_ok (.cons tawake_ctr (.cons number_ctr (.cons rnumber_ctr (.cons word_ctr (.cons rword_ctr .nil))))) tokenNumbers_inl eqsL mixed in4 (fun c _ => told_none rfl c) (F := tokenNumbersF) (fun xs => tokenNumbers_walk xs.1 xs.2.1) htrue
/-! innkeep/innkeeplaw02.TokenBack -/
noncomputable def E_tokenBack : Env := { ty := tyL, ctr := [(9, ctrOf [] [.bool] tawakeF), (10, ctrOf [.sl .str, .sl .str] [.bool] sameF), (11, cutC), (13, ctrOf [.sl .str] [.str] joinF), (19, ctrOf [.str] [.bool] plainF)], inl := [], eqs := [], glob := GL, L := bigL }
noncomputable def tokenBack.l5r5.sp : SPat := ⟨92, [1, 2, 7, 8], [.sl .str, .int .u8, .sl .str, .int .i64], [], [], 0⟩
noncomputable def tokenBack.l5r5.es : List (Ex × SPat) := [(.ret, ⟨92, [6], [.bool], [], [], 0⟩), (.exit 0, ⟨92, [1, 2, 7], [.sl .str, .int .u8, .sl .str], [], [], 0⟩)]
noncomputable def tokenBack.l5r5.T : ((((List (List UInt8)) × (Int × ((List (List UInt8)) × (Int × Unit)))) × Unit) → Option (((Bool × Unit) × Unit) ⊕ (((List (List UInt8)) × (Int × ((List (List UInt8)) × Unit))) × Unit))) → (((List (List UInt8)) × (Int × ((List (List UInt8)) × (Int × Unit)))) × Unit) → Option (((Bool × Unit) × Unit) ⊕ (((List (List UInt8)) × (Int × ((List (List UInt8)) × Unit))) × Unit)) := fun rec x =>
  cnd (ilt x.1.2.2.2.1 (ilen x.1.2.2.1)) (obind (lget x.1.2.2.1 x.1.2.2.2.1) (fun x_2 => obind (plainF x_2) (fun x_3 => cnd (bnot x_3) (some (.inl ((false, ()), ()))) (rec ((x.1.1, (x.1.2.1, (x.1.2.2.1, (wrap .i64 (iadd x.1.2.2.2.1 1), ())))), ()))))) (some (.inr ((x.1.1, (x.1.2.1, (x.1.2.2.1, ()))), ())))
noncomputable def tokenBack.l5r5 : Alt := ⟨tokenBack.l5r5.sp, tokenBack.l5r5.es, 100, tokenBack.l5r5.T⟩
noncomputable def tokenBack.l5r18.sp : SPat := ⟨92, [1, 2, 9, 10, 11], [.sl .str, .int .u8, .str, .int .i64, .int .i64], [], [], 0⟩
noncomputable def tokenBack.l5r18.es : List (Ex × SPat) := [(.exit 4, ⟨92, [1, 2, 9, 10], [.sl .str, .int .u8, .str, .int .i64], [], [], 0⟩)]
noncomputable def tokenBack.l5r18.T : ((((List (List UInt8)) × (Int × ((List UInt8) × (Int × (Int × Unit))))) × Unit) → Option (((List (List UInt8)) × (Int × ((List UInt8) × (Int × Unit)))) × Unit)) → (((List (List UInt8)) × (Int × ((List UInt8) × (Int × (Int × Unit))))) × Unit) → Option (((List (List UInt8)) × (Int × ((List UInt8) × (Int × Unit)))) × Unit) := fun rec x =>
  cnd (ile x.1.2.2.2.2.1 (wrap .i64 (irem x.1.2.1 4))) (cnd (ilt (iadd (ilen x.1.2.2.1) 1) 4611686018427387904) (rec ((x.1.1, (x.1.2.1, (lapp x.1.2.2.1 (([32] : List UInt8)), (x.1.2.2.2.1, (wrap .i64 (iadd x.1.2.2.2.2.1 1), ()))))), ())) (none)) (some ((x.1.1, (x.1.2.1, (x.1.2.2.1, (x.1.2.2.2.1, ())))), ()))
noncomputable def tokenBack.l5r18 : Alt := ⟨tokenBack.l5r18.sp, tokenBack.l5r18.es, 100, tokenBack.l5r18.T⟩
noncomputable def tokenBack.l5r13.sp : SPat := ⟨92, [1, 2, 9, 10], [.sl .str, .int .u8, .str, .int .i64], [], [], 0⟩
noncomputable def tokenBack.l5r13.es : List (Ex × SPat) := [(.ret, ⟨92, [6], [.bool], [], [], 0⟩), (.exit 2, ⟨92, [1, 9], [.sl .str, .str], [], [], 0⟩)]
noncomputable def tokenBack.l5r13.T : ((((List (List UInt8)) × (Int × ((List UInt8) × (Int × Unit)))) × Unit) → Option (((Bool × Unit) × Unit) ⊕ (((List (List UInt8)) × ((List UInt8) × Unit)) × Unit))) → (((List (List UInt8)) × (Int × ((List UInt8) × (Int × Unit)))) × Unit) → Option (((Bool × Unit) × Unit) ⊕ (((List (List UInt8)) × ((List UInt8) × Unit)) × Unit)) := fun rec x =>
  cnd (ilt x.1.2.2.2.1 (ilen x.1.1)) (obind (lget x.1.1 x.1.2.2.2.1) (fun x_6 => obind (plainF x_6) (fun x_7 => cnd (bnot x_7) (some (.inl ((true, ()), ()))) (obind (lget x.1.1 x.1.2.2.2.1) (fun x_8 => cnd (ilt 100 (ilen x_8)) (some (.inl ((true, ()), ()))) (obind (iter tokenBack.l5r18.T bigL (((x.1.1, (x.1.2.1, (x.1.2.2.1, (x.1.2.2.2.1, (0, ()))))), ()))) (fun x_9 => obind (lget x_9.1.1 x_9.1.2.2.2.1) (fun x_10 => cnd (ilt (iadd (ilen x_9.1.2.2.1) (ilen x_10)) 4611686018427387904) (rec ((x_9.1.1, (x_9.1.2.1, (lapp x_9.1.2.2.1 x_10, (wrap .i64 (iadd x_9.1.2.2.2.1 1), ())))), ())) (none))))))))) (some (.inr ((x.1.1, (x.1.2.2.1, ())), ())))
noncomputable def tokenBack.l5r13 : Alt := ⟨tokenBack.l5r13.sp, tokenBack.l5r13.es, 200, tokenBack.l5r13.T⟩
noncomputable def tokenBack.H : Hints := ⟨[(5, [(5, [tokenBack.l5r5]), (18, [tokenBack.l5r18]), (13, [tokenBack.l5r13])])], []⟩
noncomputable def tokenBackF (s : Str) (l : List Str) (g : Int) : Option (Bool) := obind tawakeF (fun x => cnd (bnot x) (obind tawakeF (fun x_1 => some x_1)) (cnd (ilt 2000 (ilen s)) (obind tawakeF (fun x_1 => some x_1)) (cnd (ilt 100 (ilen l)) (obind tawakeF (fun x_1 => some x_1)) (obind (cutF s) (fun x_1 => obind (iter tokenBack.l5r5.T bigL (((l, (g, (x_1, (0, ())))), ()))) (fun x_2 => scase x_2 (fun x => some x.1.1) (fun y => obind (joinF y.1.2.2.1) (fun x_3 => obind (cutF x_3) (fun x_4 => obind (sameF x_4 y.1.2.2.1) (fun x_5 => cnd (bnot x_5) (some false) (obind (iter tokenBack.l5r13.T bigL (((y.1.1, (y.1.2.1, (([] : List UInt8), (0, ())))), ()))) (fun x_6 => scase x_6 (fun x => some x.1.1) (fun y => obind (joinF y.1.1) (fun x_7 => obind (cutF x_7) (fun x_8 => obind (sameF x_8 y.1.1) (fun x_9 => cnd x_9 (cnd (ilt (iadd (ilen y.1.2.1) 1) 4611686018427387904) (obind (cutF (lapp y.1.2.1 (([32] : List UInt8)))) (fun x_10 => obind (sameF x_10 y.1.1) (fun x_11 => some x_11))) none) (some false)))))))))))))))))
theorem tokenBack_r5_0 : Alt.Round E_tokenBack tokenBack.H 5 (oblAt tokenBack.H 5 Tryd.f5 0) tokenBack.l5r5 := by intro rec x; kernel_rfl
theorem tokenBack_r5_1 : Alt.Round E_tokenBack tokenBack.H 5 (oblAt tokenBack.H 5 Tryd.f5 1) tokenBack.l5r13 := by intro rec x; kernel_rfl
theorem tokenBack_r5_2 : Alt.Round E_tokenBack tokenBack.H 5 (oblAt tokenBack.H 5 Tryd.f5 2) tokenBack.l5r18 := by intro rec x; kernel_rfl
theorem tokenBack_told5 : ∀ c, Tryd.f5.body = some c → ToldC E_tokenBack tokenBack.H 5 c := told_of [tokenBack.l5r5, tokenBack.l5r13, tokenBack.l5r18] (by kernel_rfl) (fun i hi => match i, hi with | 0, _ => tokenBack_r5_0 | 1, _ => tokenBack_r5_1 | 2, _ => tokenBack_r5_2 | n + 3, h => absurd h (by simp))
theorem tokenBack_inl : InlsOK Tryd.prog E_tokenBack tokenBack.H E_tokenBack.inl := .nil
theorem tokenBack_walk (s : Str) (l : List Str) (g : Int) : evalF E_tokenBack tokenBack.H 5 Tryd.f5 [.str s, .sl .str l, .int .u8 g] (asR [.bool]) = tokenBackF s l g := by kernel_rfl
theorem tokenBack_law (htrue : ∀ xs : Lf [.str, .sl .str, .int .u8], (∀ m, wfA m _ xs) → tokenBackF xs.1 xs.2.1 xs.2.2.1 = some true) : ∀ xs : Lf [.str, .sl .str, .int .u8], (∀ m, wfA m _ xs) → CallsTo Tryd.prog GL 5 (cellsL [.str, .sl .str, .int .u8] xs) (.bool true) :=
  law_to (E := E_tokenBack) tyL_ok (.cons tawake_ctr (.cons same_ctr (.cons cut_ctr (.cons join_ctr (.cons plain_ctr .nil))))) tokenBack_inl eqsL mixed in5 tokenBack_told5 (F := tokenBackF) (fun xs => tokenBack_walk xs.1 xs.2.1 xs.2.2.1) htrue
/-! innkeep/innkeeplaw02.TokenParts -/
noncomputable def E_tokenParts : Env := { ty := tyL, ctr := [(9, ctrOf [] [.bool] tawakeF), (10, ctrOf [.sl .str, .sl .str] [.bool] sameF), (11, cutC)], inl := [], eqs := [], glob := GL, L := bigL }
noncomputable def tokenParts.H : Hints := ⟨[], []⟩
noncomputable def tokenPartsF (a : Str) (b : Str) : Option (Bool) := obind tawakeF (fun x => cnd (bnot x) (obind tawakeF (fun x_1 => some x_1)) (cnd (ilt 1000 (ilen a)) (obind tawakeF (fun x_1 => some x_1)) (cnd (ilt 1000 (ilen b)) (obind tawakeF (fun x_1 => some x_1)) (obind (cutF a) (fun x_1 => obind (cutF b) (fun x_2 => cnd (ilt (imul (iadd 0 (ilen x_1)) 16) 140737488355329) (cnd (ilt (imul (iadd (ilen x_1) (ilen x_2)) 16) 140737488355329) (cnd (ilt (iadd (ilen a) (ilen b)) 4611686018427387904) (obind (cutF (lapp a b)) (fun x_3 => cnd (ilt (iadd (ilen a) 1) 4611686018427387904) (cnd (ilt (iadd (ilen (lapp a (([32] : List UInt8)))) (ilen b)) 4611686018427387904) (obind (cutF (lapp (lapp a (([32] : List UInt8))) b)) (fun x_4 => obind (sameF x_4 (lapp x_1 x_2)) (fun x_5 => cnd x_5 (cnd (ieq (ilen x_3) (ilen (lapp x_1 x_2))) (some true) (cnd (ieq (ilen x_3) (wrap .i64 (isub (ilen (lapp x_1 x_2)) 1))) (cnd (ilt 0 (ilen x_1)) (some (ilt 0 (ilen x_2))) (some false)) (some false))) (some false)))) none) none)) none) none) none))))))
theorem tokenParts_inl : InlsOK Tryd.prog E_tokenParts tokenParts.H E_tokenParts.inl := .nil
theorem tokenParts_walk (a : Str) (b : Str) : evalF E_tokenParts tokenParts.H 6 Tryd.f6 [.str a, .str b] (asR [.bool]) = tokenPartsF a b := by kernel_rfl
theorem tokenParts_law (htrue : ∀ xs : Lf [.str, .str], (∀ m, wfA m _ xs) → tokenPartsF xs.1 xs.2.1 = some true) : ∀ xs : Lf [.str, .str], (∀ m, wfA m _ xs) → CallsTo Tryd.prog GL 6 (cellsL [.str, .str] xs) (.bool true) :=
  law_to (E := E_tokenParts) tyL_ok (.cons tawake_ctr (.cons same_ctr (.cons cut_ctr .nil))) tokenParts_inl eqsL mixed in6 (fun c _ => told_none rfl c) (F := tokenPartsF) (fun xs => tokenParts_walk xs.1 xs.2.1) htrue
/-! innkeep/innkeeplaw02.TokenOrder -/
noncomputable def E_tokenOrder : Env := { ty := tyL, ctr := [(9, ctrOf [] [.bool] tawakeF), (17, ctrOf [.int .i64] [.str] wordF)], inl := [], eqs := [], glob := GL, L := bigL }
noncomputable def tokenOrder.H : Hints := ⟨[], []⟩
noncomputable def tokenOrderF (a : Int) (b : Int) : Option (Bool) := obind tawakeF (fun x => cnd (bnot x) (obind tawakeF (fun x_1 => some x_1)) (cnd (ilt 1073741824 a) (obind tawakeF (fun x_1 => some x_1)) (cnd (ilt 1073741824 b) (obind tawakeF (fun x_1 => some x_1)) (obind (wordF (wrap .i64 a)) (fun x_1 => obind (wordF (wrap .i64 b)) (fun x_2 => cnd (bnot (ieq (ilen x_1) (ilen x_2))) (some (beq' (ilt a b) (ilt (ilen x_1) (ilen x_2)))) (cnd (beq' (ilt a b) (slt x_1 x_2)) (some (beq' (ieq a b) (seq x_1 x_2))) (some false))))))))
theorem tokenOrder_inl : InlsOK Tryd.prog E_tokenOrder tokenOrder.H E_tokenOrder.inl := .nil
theorem tokenOrder_walk (a : Int) (b : Int) : evalF E_tokenOrder tokenOrder.H 7 Tryd.f7 [.int .u32 a, .int .u32 b] (asR [.bool]) = tokenOrderF a b := by kernel_rfl
theorem tokenOrder_law (htrue : ∀ xs : Lf [.int .u32, .int .u32], (∀ m, wfA m _ xs) → tokenOrderF xs.1 xs.2.1 = some true) : ∀ xs : Lf [.int .u32, .int .u32], (∀ m, wfA m _ xs) → CallsTo Tryd.prog GL 7 (cellsL [.int .u32, .int .u32] xs) (.bool true) :=
  law_to (E := E_tokenOrder) tyL_ok (.cons tawake_ctr (.cons word_ctr .nil)) tokenOrder_inl eqsL mixed in7 (fun c _ => told_none rfl c) (F := tokenOrderF) (fun xs => tokenOrder_walk xs.1 xs.2.1) htrue
/-! innkeep/innkeeplaw02.TokenDigits -/
noncomputable def E_tokenDigits : Env := { ty := tyL, ctr := [(9, ctrOf [] [.bool] tawakeF), (15, ctrOf [.str] [.int .i64, .bool] numberF), (17, ctrOf [.int .i64] [.str] wordF)], inl := [], eqs := [], glob := GL, L := bigL }
noncomputable def tokenDigits.l8r4.sp : SPat := ⟨95, [0, 1, 2, 7], [.str, .int .u8, .int .u8, .int .i64], [], [], 0⟩
noncomputable def tokenDigits.l8r4.es : List (Ex × SPat) := [(.ret, ⟨95, [6], [.bool], [], [], 0⟩), (.exit 0, ⟨95, [0, 1, 2], [.str, .int .u8, .int .u8], [], [], 0⟩)]
noncomputable def tokenDigits.l8r4.T : ((((List UInt8) × (Int × (Int × (Int × Unit)))) × Unit) → Option (((Bool × Unit) × Unit) ⊕ (((List UInt8) × (Int × (Int × Unit))) × Unit))) → (((List UInt8) × (Int × (Int × (Int × Unit)))) × Unit) → Option (((Bool × Unit) × Unit) ⊕ (((List UInt8) × (Int × (Int × Unit))) × Unit)) := fun rec x =>
  cnd (ilt x.1.2.2.2.1 (ilen x.1.1)) (obind (lget x.1.1 x.1.2.2.2.1) (fun x_1 => cnd (ilt (u8i x_1) 48) (some (.inl ((true, ()), ()))) (obind (lget x.1.1 x.1.2.2.2.1) (fun x_2 => cnd (ilt 57 (u8i x_2)) (some (.inl ((true, ()), ()))) (rec ((x.1.1, (x.1.2.1, (x.1.2.2.1, (wrap .i64 (iadd x.1.2.2.2.1 1), ())))), ())))))) (some (.inr ((x.1.1, (x.1.2.1, (x.1.2.2.1, ()))), ())))
noncomputable def tokenDigits.l8r4 : Alt := ⟨tokenDigits.l8r4.sp, tokenDigits.l8r4.es, 100, tokenDigits.l8r4.T⟩
noncomputable def tokenDigits.H : Hints := ⟨[(8, [(4, [tokenDigits.l8r4])])], []⟩
noncomputable def tokenDigitsF (s : Str) (c : Int) (p : Int) : Option (Bool) := obind tawakeF (fun x => cnd (bnot x) (obind tawakeF (fun x_1 => some x_1)) (cnd (ieq (ilen s) 0) (obind tawakeF (fun x_1 => some x_1)) (cnd (ilt 9 (ilen s)) (obind tawakeF (fun x_1 => some x_1)) (obind (iter tokenDigits.l8r4.T bigL (((s, (c, (p, (0, ())))), ()))) (fun x_1 => scase x_1 (fun x => some x.1.1) (fun y => obind (numberF y.1.1) (fun x_2 => obind (lget y.1.1 0) (fun x_3 => cnd (bnot (ieq (u8i x_3) 48)) (cnd (bnot (beq' x_2.2 true)) (some false) (cnd x_2.2 (obind (wordF x_2.1) (fun x_4 => cnd (bnot (seq x_4 y.1.1)) (some false) (cnd (ile 48 y.1.2.1) (cnd (ile y.1.2.1 57) (some true) (cnd (ieq (wrap .i64 (iadd (ilen y.1.1) 1)) 0) none (cnd (ile 0 (irem (wrap .i64 y.1.2.2.1) (wrap .i64 (iadd (ilen y.1.1) 1)))) (cnd (ile (irem (wrap .i64 y.1.2.2.1) (wrap .i64 (iadd (ilen y.1.1) 1))) (ilen y.1.1)) (cnd (allU8 (([y.1.2.1] : List Int))) (cnd (ilt (iadd (ilen (ltake y.1.1 (irem (wrap .i64 y.1.2.2.1) (wrap .i64 (iadd (ilen y.1.1) 1))))) (ilen (ofU8s (([y.1.2.1] : List Int))))) 4611686018427387904) (cnd (ile 0 (irem (wrap .i64 y.1.2.2.1) (wrap .i64 (iadd (ilen y.1.1) 1)))) (cnd (ile (irem (wrap .i64 y.1.2.2.1) (wrap .i64 (iadd (ilen y.1.1) 1))) (ilen y.1.1)) (cnd (ilt (iadd (ilen (lapp (ltake y.1.1 (irem (wrap .i64 y.1.2.2.1) (wrap .i64 (iadd (ilen y.1.1) 1)))) (ofU8s (([y.1.2.1] : List Int))))) (ilen (ldrop y.1.1 (irem (wrap .i64 y.1.2.2.1) (wrap .i64 (iadd (ilen y.1.1) 1)))))) 4611686018427387904) (obind (numberF (lapp (lapp (ltake y.1.1 (irem (wrap .i64 y.1.2.2.1) (wrap .i64 (iadd (ilen y.1.1) 1)))) (ofU8s (([y.1.2.1] : List Int)))) (ldrop y.1.1 (irem (wrap .i64 y.1.2.2.1) (wrap .i64 (iadd (ilen y.1.1) 1)))))) (fun x_5 => some (bnot x_5.2))) none) none) none) none) none) none) none))) (cnd (ieq (wrap .i64 (iadd (ilen y.1.1) 1)) 0) none (cnd (ile 0 (irem (wrap .i64 y.1.2.2.1) (wrap .i64 (iadd (ilen y.1.1) 1)))) (cnd (ile (irem (wrap .i64 y.1.2.2.1) (wrap .i64 (iadd (ilen y.1.1) 1))) (ilen y.1.1)) (cnd (allU8 (([y.1.2.1] : List Int))) (cnd (ilt (iadd (ilen (ltake y.1.1 (irem (wrap .i64 y.1.2.2.1) (wrap .i64 (iadd (ilen y.1.1) 1))))) (ilen (ofU8s (([y.1.2.1] : List Int))))) 4611686018427387904) (cnd (ile 0 (irem (wrap .i64 y.1.2.2.1) (wrap .i64 (iadd (ilen y.1.1) 1)))) (cnd (ile (irem (wrap .i64 y.1.2.2.1) (wrap .i64 (iadd (ilen y.1.1) 1))) (ilen y.1.1)) (cnd (ilt (iadd (ilen (lapp (ltake y.1.1 (irem (wrap .i64 y.1.2.2.1) (wrap .i64 (iadd (ilen y.1.1) 1)))) (ofU8s (([y.1.2.1] : List Int))))) (ilen (ldrop y.1.1 (irem (wrap .i64 y.1.2.2.1) (wrap .i64 (iadd (ilen y.1.1) 1)))))) 4611686018427387904) (obind (numberF (lapp (lapp (ltake y.1.1 (irem (wrap .i64 y.1.2.2.1) (wrap .i64 (iadd (ilen y.1.1) 1)))) (ofU8s (([y.1.2.1] : List Int)))) (ldrop y.1.1 (irem (wrap .i64 y.1.2.2.1) (wrap .i64 (iadd (ilen y.1.1) 1)))))) (fun x_5 => some (bnot x_5.2))) none) none) none) none) none) none) none))))) (cnd (ile 48 y.1.2.1) (cnd (ile y.1.2.1 57) (some true) (cnd (ieq (wrap .i64 (iadd (ilen y.1.1) 1)) 0) none (cnd (ile 0 (irem (wrap .i64 y.1.2.2.1) (wrap .i64 (iadd (ilen y.1.1) 1)))) (cnd (ile (irem (wrap .i64 y.1.2.2.1) (wrap .i64 (iadd (ilen y.1.1) 1))) (ilen y.1.1)) (cnd (allU8 (([y.1.2.1] : List Int))) (cnd (ilt (iadd (ilen (ltake y.1.1 (irem (wrap .i64 y.1.2.2.1) (wrap .i64 (iadd (ilen y.1.1) 1))))) (ilen (ofU8s (([y.1.2.1] : List Int))))) 4611686018427387904) (cnd (ile 0 (irem (wrap .i64 y.1.2.2.1) (wrap .i64 (iadd (ilen y.1.1) 1)))) (cnd (ile (irem (wrap .i64 y.1.2.2.1) (wrap .i64 (iadd (ilen y.1.1) 1))) (ilen y.1.1)) (cnd (ilt (iadd (ilen (lapp (ltake y.1.1 (irem (wrap .i64 y.1.2.2.1) (wrap .i64 (iadd (ilen y.1.1) 1)))) (ofU8s (([y.1.2.1] : List Int))))) (ilen (ldrop y.1.1 (irem (wrap .i64 y.1.2.2.1) (wrap .i64 (iadd (ilen y.1.1) 1)))))) 4611686018427387904) (obind (numberF (lapp (lapp (ltake y.1.1 (irem (wrap .i64 y.1.2.2.1) (wrap .i64 (iadd (ilen y.1.1) 1)))) (ofU8s (([y.1.2.1] : List Int)))) (ldrop y.1.1 (irem (wrap .i64 y.1.2.2.1) (wrap .i64 (iadd (ilen y.1.1) 1)))))) (fun x_4 => some (bnot x_4.2))) none) none) none) none) none) none) none))) (cnd (ieq (wrap .i64 (iadd (ilen y.1.1) 1)) 0) none (cnd (ile 0 (irem (wrap .i64 y.1.2.2.1) (wrap .i64 (iadd (ilen y.1.1) 1)))) (cnd (ile (irem (wrap .i64 y.1.2.2.1) (wrap .i64 (iadd (ilen y.1.1) 1))) (ilen y.1.1)) (cnd (allU8 (([y.1.2.1] : List Int))) (cnd (ilt (iadd (ilen (ltake y.1.1 (irem (wrap .i64 y.1.2.2.1) (wrap .i64 (iadd (ilen y.1.1) 1))))) (ilen (ofU8s (([y.1.2.1] : List Int))))) 4611686018427387904) (cnd (ile 0 (irem (wrap .i64 y.1.2.2.1) (wrap .i64 (iadd (ilen y.1.1) 1)))) (cnd (ile (irem (wrap .i64 y.1.2.2.1) (wrap .i64 (iadd (ilen y.1.1) 1))) (ilen y.1.1)) (cnd (ilt (iadd (ilen (lapp (ltake y.1.1 (irem (wrap .i64 y.1.2.2.1) (wrap .i64 (iadd (ilen y.1.1) 1)))) (ofU8s (([y.1.2.1] : List Int))))) (ilen (ldrop y.1.1 (irem (wrap .i64 y.1.2.2.1) (wrap .i64 (iadd (ilen y.1.1) 1)))))) 4611686018427387904) (obind (numberF (lapp (lapp (ltake y.1.1 (irem (wrap .i64 y.1.2.2.1) (wrap .i64 (iadd (ilen y.1.1) 1)))) (ofU8s (([y.1.2.1] : List Int)))) (ldrop y.1.1 (irem (wrap .i64 y.1.2.2.1) (wrap .i64 (iadd (ilen y.1.1) 1)))))) (fun x_4 => some (bnot x_4.2))) none) none) none) none) none) none) none))))) (cnd (bnot (beq' x_2.2 (ieq (ilen y.1.1) 1))) (some false) (cnd x_2.2 (obind (wordF x_2.1) (fun x_4 => cnd (bnot (seq x_4 y.1.1)) (some false) (cnd (ile 48 y.1.2.1) (cnd (ile y.1.2.1 57) (some true) (cnd (ieq (wrap .i64 (iadd (ilen y.1.1) 1)) 0) none (cnd (ile 0 (irem (wrap .i64 y.1.2.2.1) (wrap .i64 (iadd (ilen y.1.1) 1)))) (cnd (ile (irem (wrap .i64 y.1.2.2.1) (wrap .i64 (iadd (ilen y.1.1) 1))) (ilen y.1.1)) (cnd (allU8 (([y.1.2.1] : List Int))) (cnd (ilt (iadd (ilen (ltake y.1.1 (irem (wrap .i64 y.1.2.2.1) (wrap .i64 (iadd (ilen y.1.1) 1))))) (ilen (ofU8s (([y.1.2.1] : List Int))))) 4611686018427387904) (cnd (ile 0 (irem (wrap .i64 y.1.2.2.1) (wrap .i64 (iadd (ilen y.1.1) 1)))) (cnd (ile (irem (wrap .i64 y.1.2.2.1) (wrap .i64 (iadd (ilen y.1.1) 1))) (ilen y.1.1)) (cnd (ilt (iadd (ilen (lapp (ltake y.1.1 (irem (wrap .i64 y.1.2.2.1) (wrap .i64 (iadd (ilen y.1.1) 1)))) (ofU8s (([y.1.2.1] : List Int))))) (ilen (ldrop y.1.1 (irem (wrap .i64 y.1.2.2.1) (wrap .i64 (iadd (ilen y.1.1) 1)))))) 4611686018427387904) (obind (numberF (lapp (lapp (ltake y.1.1 (irem (wrap .i64 y.1.2.2.1) (wrap .i64 (iadd (ilen y.1.1) 1)))) (ofU8s (([y.1.2.1] : List Int)))) (ldrop y.1.1 (irem (wrap .i64 y.1.2.2.1) (wrap .i64 (iadd (ilen y.1.1) 1)))))) (fun x_5 => some (bnot x_5.2))) none) none) none) none) none) none) none))) (cnd (ieq (wrap .i64 (iadd (ilen y.1.1) 1)) 0) none (cnd (ile 0 (irem (wrap .i64 y.1.2.2.1) (wrap .i64 (iadd (ilen y.1.1) 1)))) (cnd (ile (irem (wrap .i64 y.1.2.2.1) (wrap .i64 (iadd (ilen y.1.1) 1))) (ilen y.1.1)) (cnd (allU8 (([y.1.2.1] : List Int))) (cnd (ilt (iadd (ilen (ltake y.1.1 (irem (wrap .i64 y.1.2.2.1) (wrap .i64 (iadd (ilen y.1.1) 1))))) (ilen (ofU8s (([y.1.2.1] : List Int))))) 4611686018427387904) (cnd (ile 0 (irem (wrap .i64 y.1.2.2.1) (wrap .i64 (iadd (ilen y.1.1) 1)))) (cnd (ile (irem (wrap .i64 y.1.2.2.1) (wrap .i64 (iadd (ilen y.1.1) 1))) (ilen y.1.1)) (cnd (ilt (iadd (ilen (lapp (ltake y.1.1 (irem (wrap .i64 y.1.2.2.1) (wrap .i64 (iadd (ilen y.1.1) 1)))) (ofU8s (([y.1.2.1] : List Int))))) (ilen (ldrop y.1.1 (irem (wrap .i64 y.1.2.2.1) (wrap .i64 (iadd (ilen y.1.1) 1)))))) 4611686018427387904) (obind (numberF (lapp (lapp (ltake y.1.1 (irem (wrap .i64 y.1.2.2.1) (wrap .i64 (iadd (ilen y.1.1) 1)))) (ofU8s (([y.1.2.1] : List Int)))) (ldrop y.1.1 (irem (wrap .i64 y.1.2.2.1) (wrap .i64 (iadd (ilen y.1.1) 1)))))) (fun x_5 => some (bnot x_5.2))) none) none) none) none) none) none) none))))) (cnd (ile 48 y.1.2.1) (cnd (ile y.1.2.1 57) (some true) (cnd (ieq (wrap .i64 (iadd (ilen y.1.1) 1)) 0) none (cnd (ile 0 (irem (wrap .i64 y.1.2.2.1) (wrap .i64 (iadd (ilen y.1.1) 1)))) (cnd (ile (irem (wrap .i64 y.1.2.2.1) (wrap .i64 (iadd (ilen y.1.1) 1))) (ilen y.1.1)) (cnd (allU8 (([y.1.2.1] : List Int))) (cnd (ilt (iadd (ilen (ltake y.1.1 (irem (wrap .i64 y.1.2.2.1) (wrap .i64 (iadd (ilen y.1.1) 1))))) (ilen (ofU8s (([y.1.2.1] : List Int))))) 4611686018427387904) (cnd (ile 0 (irem (wrap .i64 y.1.2.2.1) (wrap .i64 (iadd (ilen y.1.1) 1)))) (cnd (ile (irem (wrap .i64 y.1.2.2.1) (wrap .i64 (iadd (ilen y.1.1) 1))) (ilen y.1.1)) (cnd (ilt (iadd (ilen (lapp (ltake y.1.1 (irem (wrap .i64 y.1.2.2.1) (wrap .i64 (iadd (ilen y.1.1) 1)))) (ofU8s (([y.1.2.1] : List Int))))) (ilen (ldrop y.1.1 (irem (wrap .i64 y.1.2.2.1) (wrap .i64 (iadd (ilen y.1.1) 1)))))) 4611686018427387904) (obind (numberF (lapp (lapp (ltake y.1.1 (irem (wrap .i64 y.1.2.2.1) (wrap .i64 (iadd (ilen y.1.1) 1)))) (ofU8s (([y.1.2.1] : List Int)))) (ldrop y.1.1 (irem (wrap .i64 y.1.2.2.1) (wrap .i64 (iadd (ilen y.1.1) 1)))))) (fun x_4 => some (bnot x_4.2))) none) none) none) none) none) none) none))) (cnd (ieq (wrap .i64 (iadd (ilen y.1.1) 1)) 0) none (cnd (ile 0 (irem (wrap .i64 y.1.2.2.1) (wrap .i64 (iadd (ilen y.1.1) 1)))) (cnd (ile (irem (wrap .i64 y.1.2.2.1) (wrap .i64 (iadd (ilen y.1.1) 1))) (ilen y.1.1)) (cnd (allU8 (([y.1.2.1] : List Int))) (cnd (ilt (iadd (ilen (ltake y.1.1 (irem (wrap .i64 y.1.2.2.1) (wrap .i64 (iadd (ilen y.1.1) 1))))) (ilen (ofU8s (([y.1.2.1] : List Int))))) 4611686018427387904) (cnd (ile 0 (irem (wrap .i64 y.1.2.2.1) (wrap .i64 (iadd (ilen y.1.1) 1)))) (cnd (ile (irem (wrap .i64 y.1.2.2.1) (wrap .i64 (iadd (ilen y.1.1) 1))) (ilen y.1.1)) (cnd (ilt (iadd (ilen (lapp (ltake y.1.1 (irem (wrap .i64 y.1.2.2.1) (wrap .i64 (iadd (ilen y.1.1) 1)))) (ofU8s (([y.1.2.1] : List Int))))) (ilen (ldrop y.1.1 (irem (wrap .i64 y.1.2.2.1) (wrap .i64 (iadd (ilen y.1.1) 1)))))) 4611686018427387904) (obind (numberF (lapp (lapp (ltake y.1.1 (irem (wrap .i64 y.1.2.2.1) (wrap .i64 (iadd (ilen y.1.1) 1)))) (ofU8s (([y.1.2.1] : List Int)))) (ldrop y.1.1 (irem (wrap .i64 y.1.2.2.1) (wrap .i64 (iadd (ilen y.1.1) 1)))))) (fun x_4 => some (bnot x_4.2))) none) none) none) none) none) none) none)))))))))))))
theorem tokenDigits_r8_0 : Alt.Round E_tokenDigits tokenDigits.H 8 (oblAt tokenDigits.H 8 Tryd.f8 0) tokenDigits.l8r4 := by intro rec x; kernel_rfl
theorem tokenDigits_told8 : ∀ c, Tryd.f8.body = some c → ToldC E_tokenDigits tokenDigits.H 8 c := told_of [tokenDigits.l8r4] (by kernel_rfl) (fun i hi => match i, hi with | 0, _ => tokenDigits_r8_0 | n + 1, h => absurd h (by simp))
theorem tokenDigits_inl : InlsOK Tryd.prog E_tokenDigits tokenDigits.H E_tokenDigits.inl := .nil
theorem tokenDigits_walk (s : Str) (c : Int) (p : Int) : evalF E_tokenDigits tokenDigits.H 8 Tryd.f8 [.str s, .int .u8 c, .int .u8 p] (asR [.bool]) = tokenDigitsF s c p := by kernel_rfl
theorem tokenDigits_law (htrue : ∀ xs : Lf [.str, .int .u8, .int .u8], (∀ m, wfA m _ xs) → tokenDigitsF xs.1 xs.2.1 xs.2.2.1 = some true) : ∀ xs : Lf [.str, .int .u8, .int .u8], (∀ m, wfA m _ xs) → CallsTo Tryd.prog GL 8 (cellsL [.str, .int .u8, .int .u8] xs) (.bool true) :=
  law_to (E := E_tokenDigits) tyL_ok (.cons tawake_ctr (.cons number_ctr (.cons word_ctr .nil))) tokenDigits_inl eqsL mixed in8 tokenDigits_told8 (F := tokenDigitsF) (fun xs => tokenDigits_walk xs.1 xs.2.1 xs.2.2.1) htrue
end Go.Sx
