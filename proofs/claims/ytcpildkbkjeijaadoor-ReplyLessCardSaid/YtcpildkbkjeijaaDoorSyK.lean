/-
  words, walked (printed by wip/dev/gen2.py)
-/
import Derived.Test.YtcpildkbkjeijaaDoorSyE
import Derived.Test.YtcpildkbkjeijaaDoorSxBaseD
import Derived.Test.YtcpildkbkjeijaaDoorProg
import Derived.KernelRfl
set_option linter.unusedVariables false
set_option linter.unusedSimpArgs false
namespace Go.Sx
open Go Go.Proofs
def tyLK : List (Nat × TyI) :=
  [(3, ⟨false, 1, 8, [.int .i64 0], some (.int .i64), .int .i64⟩),
   (4, ⟨false, 1, 1, [.bool false], some .bool, .bool⟩),
   (5, ⟨false, 1, 1, [.int .u8 0], some (.int .u8), .int .u8⟩),
   (9, ⟨false, 1, 16, [.str []], some .str, .str⟩),
   (51, ⟨false, 1, 24, [.nilsl], some (.sl .str), .sl 9⟩),
   (115, ⟨false, 1, 16, [.nili], none, .iface⟩)]
theorem tyLK_ok : (tyLK.all fun p => tyOK Tryd.prog p.1 p.2) = true := by kernel_rfl
theorem mixedK : Tryd.prog.follows .mixedOrders = true := by kernel_rfl
theorem eqsLK : EqsOK Tryd.prog [] := .nil
theorem in25 : FnIn Tryd.prog 25 Tryd.f25 := .mk Tryd.func25 (by kernel_rfl) (by kernel_rfl)
theorem in26 : FnIn Tryd.prog 26 Tryd.f26 := .mk Tryd.func26 (by kernel_rfl) (by kernel_rfl)
theorem in28 : FnIn Tryd.prog 28 Tryd.f28 := .mk Tryd.func28 (by kernel_rfl) (by kernel_rfl)
theorem in29 : FnIn Tryd.prog 29 Tryd.f29 := .mk Tryd.func29 (by kernel_rfl) (by kernel_rfl)
theorem in62 : FnIn Tryd.prog 62 Tryd.f62 := .mk Tryd.func62 (by kernel_rfl) (by kernel_rfl)
theorem in85 : FnIn Tryd.prog 85 Tryd.f85 := .mk Tryd.func85 (by kernel_rfl) (by kernel_rfl)
/-! innkeep/innkeepref02.Cut -/
noncomputable def E_rcut : Env := { ty := tyLK, ctr := [], inl := [], eqs := [], glob := GL, L := bigL, get := [] }
noncomputable def rcut.lr7.sp : SPat := ⟨38, [0, 3, 4, 5], [.str, .vec 1, .int .i64, .int .i64], [.dead, .vec .str], [], 0⟩
noncomputable def rcut.lr7.es : List (Ex × SPat) := [(.exit 2, ⟨38, [0, 3, 4, 5], [.str, .vec 1, .int .i64, .int .i64], [.dead, .vec .str], [], 0⟩)]
noncomputable def rcut.lr7.T : ((((List UInt8) × (Int × (Int × Unit))) × ((List (List UInt8)) × Unit)) → Option (((List UInt8) × (Int × (Int × Unit))) × ((List (List UInt8)) × Unit))) → (((List UInt8) × (Int × (Int × Unit))) × ((List (List UInt8)) × Unit)) → Option (((List UInt8) × (Int × (Int × Unit))) × ((List (List UInt8)) × Unit)) := fun rec x =>
  cnd (ilt x.1.2.2.1 (ilen x.1.1)) (obind (lget x.1.1 x.1.2.2.1) (fun x_2 => cnd (bnot (ieq (u8i x_2) 32)) (rec ((x.1.1, (x.1.2.1, (wrap .i64 (iadd x.1.2.2.1 1), ()))), (x.2.1, ()))) (some ((x.1.1, (x.1.2.1, (x.1.2.2.1, ()))), (x.2.1, ()))))) (some ((x.1.1, (x.1.2.1, (x.1.2.2.1, ()))), (x.2.1, ())))
noncomputable def rcut.lr7 : Alt := ⟨rcut.lr7.sp, rcut.lr7.es, 100, rcut.lr7.T⟩
noncomputable def rcut.lr3.sp : SPat := ⟨38, [0, 3, 4], [.str, .vec 1, .int .i64], [.dead, .vec .str], [], 0⟩
noncomputable def rcut.lr3.es : List (Ex × SPat) := [(.exit 0, ⟨38, [3], [.vec 1], [.dead, .vec .str], [], 0⟩)]
noncomputable def rcut.lr3.T : ((((List UInt8) × (Int × Unit)) × ((List (List UInt8)) × Unit)) → Option (Unit × ((List (List UInt8)) × Unit))) → (((List UInt8) × (Int × Unit)) × ((List (List UInt8)) × Unit)) → Option (Unit × ((List (List UInt8)) × Unit)) := fun rec x =>
  cnd (ilt x.1.2.1 (ilen x.1.1)) (obind (lget x.1.1 x.1.2.1) (fun x_1 => cnd (ieq (u8i x_1) 32) (rec ((x.1.1, (wrap .i64 (iadd x.1.2.1 1), ())), (x.2.1, ()))) (obind (iter rcut.lr7.T bigL (((x.1.1, (x.1.2.1, (x.1.2.1, ()))), (x.2.1, ())))) (fun x_2 => cnd (ile 0 x_2.1.2.1) (cnd (ile x_2.1.2.1 x_2.1.2.2.1) (cnd (ile x_2.1.2.2.1 (ilen x_2.1.1)) (cnd (ilt (imul (iadd (ilen x_2.2.1) 1) 16) 140737488355329) (rec ((x_2.1.1, (x_2.1.2.2.1, ())), (lapp x_2.2.1 ([ldrop (ltake x_2.1.1 x_2.1.2.2.1) x_2.1.2.1]), ()))) (none)) (none)) (none)) (none))))) (some ((), (x.2.1, ())))
noncomputable def rcut.lr3 : Alt := ⟨rcut.lr3.sp, rcut.lr3.es, 200, rcut.lr3.T⟩
noncomputable def rcut.H : Hints := ⟨[(26, [(7, [rcut.lr7]), (3, [rcut.lr3])])], []⟩
noncomputable def rcutF (s : Str) : Option (List Str) := obind (iter rcut.lr3.T bigL (((s, (0, ())), ([], ())))) (fun x => some x.2.1)
theorem rcut_r26_0 : Alt.Round E_rcut rcut.H 26 (oblAt rcut.H 26 Tryd.f26 0) rcut.lr3 := by intro rec x; kernel_rfl
theorem rcut_r26_1 : Alt.Round E_rcut rcut.H 26 (oblAt rcut.H 26 Tryd.f26 1) rcut.lr7 := by intro rec x; kernel_rfl
theorem rcut_told26 : ∀ c, Tryd.f26.body = some c → ToldC E_rcut rcut.H 26 c := told_of [rcut.lr3, rcut.lr7] (by kernel_rfl) (fun i hi => match i, hi with | 0, _ => rcut_r26_0 | 1, _ => rcut_r26_1 | n + 2, h => absurd h (by simp))
theorem rcut_inl : InlsOK Tryd.prog E_rcut rcut.H E_rcut.inl := .nil
theorem rcut_walk (s : Str) : evalF E_rcut rcut.H 26 Tryd.f26 [.str s] (asR [.sl .str]) = rcutF s := by kernel_rfl
theorem rcut_ctr : FnOK Tryd.prog 26 ∧ CtrOK Tryd.prog GL 26 (ctrOf [.str] [.sl .str] rcutF) :=
  fn_ctr (E := E_rcut) tyLK_ok (.nil) rcut_inl eqsLK mixedK in26 rcut_told26 (fun xs => rcut_walk xs.1)
/-! innkeep/token.Join -/
noncomputable def E_join : Env := { ty := tyLK, ctr := [(54, sjoinC)], inl := [], eqs := [], glob := GL, L := bigL, get := [] }
noncomputable def join.H : Hints := ⟨[], []⟩
noncomputable def joinF (l : List Str) : Option (Str) := obind (sjoinF l (([32] : List UInt8))) (fun x => some x)
theorem join_inl : InlsOK Tryd.prog E_join join.H E_join.inl := .nil
theorem join_walk (l : List Str) : evalF E_join join.H 28 Tryd.f28 [.sl .str l] (asR [.str]) = joinF l := by kernel_rfl
theorem join_ctr : FnOK Tryd.prog 28 ∧ CtrOK Tryd.prog GL 28 (ctrOf [.sl .str] [.str] joinF) :=
  fn_ctr (E := E_join) tyLK_ok (.cons sjoin_ctr .nil) join_inl eqsLK mixedK in28 (fun c _ => told_none rfl c) (fun xs => join_walk xs.1)
/-! innkeep/innkeepref02.Join -/
noncomputable def E_rjoin : Env := { ty := tyLK, ctr := [], inl := [], eqs := [], glob := GL, L := bigL, get := [] }
noncomputable def rjoin.lr3.sp : SPat := ⟨22, [0, 3, 4], [.sl .str, .str, .int .i64], [], [], 0⟩
noncomputable def rjoin.lr3.es : List (Ex × SPat) := [(.exit 0, ⟨22, [3], [.str], [], [], 0⟩)]
noncomputable def rjoin.lr3.T : ((((List (List UInt8)) × ((List UInt8) × (Int × Unit))) × Unit) → Option (((List UInt8) × Unit) × Unit)) → (((List (List UInt8)) × ((List UInt8) × (Int × Unit))) × Unit) → Option (((List UInt8) × Unit) × Unit) := fun rec x =>
  cnd (ilt x.1.2.2.1 (ilen x.1.1)) (cnd (ilt 0 x.1.2.2.1) (cnd (ilt (iadd (ilen x.1.2.1) 1) 4611686018427387904) (obind (lget x.1.1 x.1.2.2.1) (fun x_1 => cnd (ilt (iadd (ilen (lapp x.1.2.1 (([32] : List UInt8)))) (ilen x_1)) 4611686018427387904) (rec ((x.1.1, (lapp (lapp x.1.2.1 (([32] : List UInt8))) x_1, (wrap .i64 (iadd x.1.2.2.1 1), ()))), ())) (none))) (none)) (obind (lget x.1.1 x.1.2.2.1) (fun x_1 => cnd (ilt (iadd (ilen x.1.2.1) (ilen x_1)) 4611686018427387904) (rec ((x.1.1, (lapp x.1.2.1 x_1, (wrap .i64 (iadd x.1.2.2.1 1), ()))), ())) (none)))) (some ((x.1.2.1, ()), ()))
noncomputable def rjoin.lr3 : Alt := ⟨rjoin.lr3.sp, rjoin.lr3.es, 100, rjoin.lr3.T⟩
noncomputable def rjoin.H : Hints := ⟨[(25, [(3, [rjoin.lr3])])], []⟩
noncomputable def rjoinF (l : List Str) : Option (Str) := obind (iter rjoin.lr3.T bigL (((l, (([] : List UInt8), (0, ()))), ()))) (fun x => some x.1.1)
theorem rjoin_r25_0 : Alt.Round E_rjoin rjoin.H 25 (oblAt rjoin.H 25 Tryd.f25 0) rjoin.lr3 := by intro rec x; kernel_rfl
theorem rjoin_told25 : ∀ c, Tryd.f25.body = some c → ToldC E_rjoin rjoin.H 25 c := told_of [rjoin.lr3] (by kernel_rfl) (fun i hi => match i, hi with | 0, _ => rjoin_r25_0 | n + 1, h => absurd h (by simp))
theorem rjoin_inl : InlsOK Tryd.prog E_rjoin rjoin.H E_rjoin.inl := .nil
theorem rjoin_walk (l : List Str) : evalF E_rjoin rjoin.H 25 Tryd.f25 [.sl .str l] (asR [.str]) = rjoinF l := by kernel_rfl
theorem rjoin_ctr : FnOK Tryd.prog 25 ∧ CtrOK Tryd.prog GL 25 (ctrOf [.sl .str] [.str] rjoinF) :=
  fn_ctr (E := E_rjoin) tyLK_ok (.nil) rjoin_inl eqsLK mixedK in25 rjoin_told25 (fun xs => rjoin_walk xs.1)
/-! innkeep/token.Word -/
noncomputable def E_word : Env := { ty := tyLK, ctr := [(55, itoaC)], inl := [], eqs := [], glob := GL, L := bigL, get := [] }
noncomputable def word.H : Hints := ⟨[], []⟩
noncomputable def wordF (n : Int) : Option (Str) := obind (itoaF n) (fun x => some x)
theorem word_inl : InlsOK Tryd.prog E_word word.H E_word.inl := .nil
theorem word_walk (n : Int) : evalF E_word word.H 29 Tryd.f29 [.int .i64 n] (asR [.str]) = wordF n := by kernel_rfl
theorem word_ctr : FnOK Tryd.prog 29 ∧ CtrOK Tryd.prog GL 29 (ctrOf [.int .i64] [.str] wordF) :=
  fn_ctr (E := E_word) tyLK_ok (.cons itoa_ctr .nil) word_inl eqsLK mixedK in29 (fun c _ => told_none rfl c) (fun xs => word_walk xs.1)
/-! innkeep/token.Number -/
noncomputable def E_number : Env := { ty := tyLK, ctr := [(29, ctrOf [.int .i64] [.str] wordF), (99, atoiC)], inl := [], eqs := [], glob := GL, L := bigL, get := [] }
noncomputable def number.H : Hints := ⟨[], []⟩
noncomputable def numberF (s : Str) : Option (Int × Bool) := cnd (ile (ilen s) 140737488355328) (cnd (atoiOk s) (cnd (ilt (atoiV s) 0) (some ((0, false))) (cnd (ilt 1073741824 (atoiV s)) (some ((0, false))) (obind (wordF (atoiV s)) (fun x => cnd (bnot (seq x s)) (some ((0, false))) (some ((atoiV s, true))))))) (some ((0, false)))) none
theorem number_inl : InlsOK Tryd.prog E_number number.H E_number.inl := .nil
theorem number_walk (s : Str) : evalF E_number number.H 85 Tryd.f85 [.str s] (asR [.int .i64, .bool]) = numberF s := by kernel_rfl
theorem number_ctr : FnOK Tryd.prog 85 ∧ CtrOK Tryd.prog GL 85 (ctrOf [.str] [.int .i64, .bool] numberF) :=
  fn_ctr (E := E_number) tyLK_ok (.cons word_ctr (.cons atoi_ctr .nil)) number_inl eqsLK mixedK in85 (fun c _ => told_none rfl c) (fun xs => number_walk xs.1)
/-! innkeep/innkeepref02.Number -/
noncomputable def E_rnumber : Env := { ty := tyLK, ctr := [], inl := [], eqs := [], glob := GL, L := bigL, get := [] }
noncomputable def rnumber.lr5.sp : SPat := ⟨49, [0, 4, 5], [.str, .int .i64, .int .i64], [], [], 0⟩
noncomputable def rnumber.lr5.es : List (Ex × SPat) := [(.ret, ⟨49, [2, 3], [.int .i64, .bool], [], [], 0⟩), (.exit 0, ⟨49, [4], [.int .i64], [], [], 0⟩)]
noncomputable def rnumber.lr5.T : ((((List UInt8) × (Int × (Int × Unit))) × Unit) → Option (((Int × (Bool × Unit)) × Unit) ⊕ ((Int × Unit) × Unit))) → (((List UInt8) × (Int × (Int × Unit))) × Unit) → Option (((Int × (Bool × Unit)) × Unit) ⊕ ((Int × Unit) × Unit)) := fun rec x =>
  cnd (ilt x.1.2.2.1 (ilen x.1.1)) (obind (lget x.1.1 x.1.2.2.1) (fun x_1 => cnd (ilt (u8i x_1) 48) (some (.inl ((0, (false, ())), ()))) (obind (lget x.1.1 x.1.2.2.1) (fun x_2 => cnd (ilt 57 (u8i x_2)) (some (.inl ((0, (false, ())), ()))) (cnd (ilt 0 x.1.2.2.1) (cnd (ieq x.1.2.1 0) (some (.inl ((0, (false, ())), ()))) (obind (lget x.1.1 x.1.2.2.1) (fun x_3 => rec ((x.1.1, (wrap .i64 (isub (wrap .i64 (iadd (wrap .i64 (imul 10 x.1.2.1)) (wrap .i64 (u8i x_3)))) 48), (wrap .i64 (iadd x.1.2.2.1 1), ()))), ())))) (obind (lget x.1.1 x.1.2.2.1) (fun x_3 => rec ((x.1.1, (wrap .i64 (isub (wrap .i64 (iadd (wrap .i64 (imul 10 x.1.2.1)) (wrap .i64 (u8i x_3)))) 48), (wrap .i64 (iadd x.1.2.2.1 1), ()))), ())))))))) (some (.inr ((x.1.2.1, ()), ())))
noncomputable def rnumber.lr5 : Alt := ⟨rnumber.lr5.sp, rnumber.lr5.es, 100, rnumber.lr5.T⟩
noncomputable def rnumber.H : Hints := ⟨[(62, [(5, [rnumber.lr5])])], []⟩
noncomputable def rnumberF (s : Str) : Option (Int × Bool) := cnd (ieq (ilen s) 0) (some ((0, false))) (cnd (ilt 10 (ilen s)) (some ((0, false))) (obind (iter rnumber.lr5.T bigL (((s, (0, (0, ()))), ()))) (fun x => scase x (fun x => some ((x.1.1, x.1.2.1))) (fun y => cnd (ilt 1073741824 y.1.1) (some ((0, false))) (some ((y.1.1, true)))))))
theorem rnumber_r62_0 : Alt.Round E_rnumber rnumber.H 62 (oblAt rnumber.H 62 Tryd.f62 0) rnumber.lr5 := by intro rec x; kernel_rfl
theorem rnumber_told62 : ∀ c, Tryd.f62.body = some c → ToldC E_rnumber rnumber.H 62 c := told_of [rnumber.lr5] (by kernel_rfl) (fun i hi => match i, hi with | 0, _ => rnumber_r62_0 | n + 1, h => absurd h (by simp))
theorem rnumber_inl : InlsOK Tryd.prog E_rnumber rnumber.H E_rnumber.inl := .nil
theorem rnumber_walk (s : Str) : evalF E_rnumber rnumber.H 62 Tryd.f62 [.str s] (asR [.int .i64, .bool]) = rnumberF s := by kernel_rfl
theorem rnumber_ctr : FnOK Tryd.prog 62 ∧ CtrOK Tryd.prog GL 62 (ctrOf [.str] [.int .i64, .bool] rnumberF) :=
  fn_ctr (E := E_rnumber) tyLK_ok (.nil) rnumber_inl eqsLK mixedK in62 rnumber_told62 (fun xs => rnumber_walk xs.1)
end Go.Sx
