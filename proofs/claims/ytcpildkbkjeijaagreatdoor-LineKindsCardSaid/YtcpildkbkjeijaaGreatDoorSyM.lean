/-
  commands, walked (printed by wip/dev/gen2.py)
-/
import Derived.Test.YtcpildkbkjeijaaGreatDoorSyK
import Derived.Test.YtcpildkbkjeijaaGreatDoorProg
import Derived.KernelRfl
set_option linter.unusedVariables false
set_option linter.unusedSimpArgs false
namespace Go.Sx
open Go Go.Proofs
def tyLM : List (Nat × TyI) :=
  [(3, ⟨false, 1, 8, [.int .i64 0], some (.int .i64), .int .i64⟩),
   (4, ⟨false, 1, 1, [.bool false], some .bool, .bool⟩),
   (9, ⟨false, 1, 16, [.str []], some .str, .str⟩),
   (22, ⟨false, 1, 24, [.nilsl], some (.sl .str), .sl 9⟩),
   (27, ⟨false, 1, 24, [.nilsl], some (.sl (.int .i64)), .sl 3⟩),
   (29, ⟨true, 9, 104, [.int .i64 0, .int .i64 0, .int .i64 0, .int .i64 0, .int .i64 0, .nilsl, .int .i64 0, .nilsl, .int .i64 0], some (.st .cmd), .st [(0, 3), (1, 3), (2, 3), (3, 3), (4, 3), (5, 27), (6, 3), (7, 27), (8, 3)]⟩),
   (102, ⟨true, 7, 56, [.int .i64 0, .int .i64 0, .int .i64 0, .int .i64 0, .int .i64 0, .int .i64 0, .int .i64 0], none, .st [(0, 3), (1, 3), (2, 3), (3, 3), (4, 3), (5, 3), (6, 3)]⟩),
   (126, ⟨false, 1, 8, [.nilf], none, .func⟩),
   (129, ⟨true, 4, 64, [.str [], .str [], .str [], .str []], none, .arr 4 9⟩),
   (133, ⟨true, 11, 176, [.str [], .str [], .str [], .str [], .str [], .str [], .str [], .str [], .str [], .str [], .str []], none, .arr 11 9⟩)]
theorem tyLM_ok : (tyLM.all fun p => tyOK Tryz.prog p.1 p.2) = true := by kernel_rfl
theorem mixedM : Tryz.prog.follows .mixedOrders = true := by kernel_rfl
theorem eqsLM : EqsOK Tryz.prog [(102, [.int .i64, .int .i64, .int .i64, .int .i64, .int .i64, .int .i64, .int .i64])] := .cons (eqFact_of (P := Tryz.prog) (t := 102) (ks := [.int .i64, .int .i64, .int .i64, .int .i64, .int .i64, .int .i64, .int .i64]) (by kernel_rfl) (by kernel_rfl) (by kernel_rfl)) .nil
theorem in15 : FnIn Tryz.prog 15 Tryz.f15 := .mk Tryz.func15 (by kernel_rfl) (by kernel_rfl)
theorem in22 : FnIn Tryz.prog 22 Tryz.f22 := .mk Tryz.func22 (by kernel_rfl) (by kernel_rfl)
theorem in26 : FnIn Tryz.prog 26 Tryz.f26 := .mk Tryz.func26 (by kernel_rfl) (by kernel_rfl)
theorem in30 : FnIn Tryz.prog 30 Tryz.f30 := .mk Tryz.func30 (by kernel_rfl) (by kernel_rfl)
theorem in32 : FnIn Tryz.prog 32 Tryz.f32 := .mk Tryz.func32 (by kernel_rfl) (by kernel_rfl)
theorem in33 : FnIn Tryz.prog 33 Tryz.f33 := .mk Tryz.func33 (by kernel_rfl) (by kernel_rfl)
theorem in37 : FnIn Tryz.prog 37 Tryz.f37 := .mk Tryz.func37 (by kernel_rfl) (by kernel_rfl)
theorem in41 : FnIn Tryz.prog 41 Tryz.f41 := .mk Tryz.func41 (by kernel_rfl) (by kernel_rfl)
theorem in48 : FnIn Tryz.prog 48 Tryz.f48 := .mk Tryz.func48 (by kernel_rfl) (by kernel_rfl)
theorem in50 : FnIn Tryz.prog 50 Tryz.f50 := .mk Tryz.func50 (by kernel_rfl) (by kernel_rfl)
theorem in54 : FnIn Tryz.prog 54 Tryz.f54 := .mk Tryz.func54 (by kernel_rfl) (by kernel_rfl)
theorem in56 : FnIn Tryz.prog 56 Tryz.f56 := .mk Tryz.func56 (by kernel_rfl) (by kernel_rfl)
theorem in58 : FnIn Tryz.prog 58 Tryz.f58 := .mk Tryz.func58 (by kernel_rfl) (by kernel_rfl)
theorem in59 : FnIn Tryz.prog 59 Tryz.f59 := .mk Tryz.func59 (by kernel_rfl) (by kernel_rfl)
theorem in60 : FnIn Tryz.prog 60 Tryz.f60 := .mk Tryz.func60 (by kernel_rfl) (by kernel_rfl)
theorem in63 : FnIn Tryz.prog 63 Tryz.f63 := .mk Tryz.func63 (by kernel_rfl) (by kernel_rfl)
theorem in64 : FnIn Tryz.prog 64 Tryz.f64 := .mk Tryz.func64 (by kernel_rfl) (by kernel_rfl)
theorem in81 : FnIn Tryz.prog 81 Tryz.f81 := .mk Tryz.func81 (by kernel_rfl) (by kernel_rfl)
theorem in82 : FnIn Tryz.prog 82 Tryz.f82 := .mk Tryz.func82 (by kernel_rfl) (by kernel_rfl)
theorem in83 : FnIn Tryz.prog 83 Tryz.f83 := .mk Tryz.func83 (by kernel_rfl) (by kernel_rfl)
theorem in85 : FnIn Tryz.prog 85 Tryz.f85 := .mk Tryz.func85 (by kernel_rfl) (by kernel_rfl)
theorem in89 : FnIn Tryz.prog 89 Tryz.f89 := .mk Tryz.func89 (by kernel_rfl) (by kernel_rfl)
theorem in107 : FnIn Tryz.prog 107 Tryz.f107 := .mk Tryz.func107 (by kernel_rfl) (by kernel_rfl)
theorem in108 : FnIn Tryz.prog 108 Tryz.f108 := .mk Tryz.func108 (by kernel_rfl) (by kernel_rfl)
theorem in114 : FnIn Tryz.prog 114 Tryz.f114 := .mk Tryz.func114 (by kernel_rfl) (by kernel_rfl)
theorem in115 : FnIn Tryz.prog 115 Tryz.f115 := .mk Tryz.func115 (by kernel_rfl) (by kernel_rfl)
theorem in120 : FnIn Tryz.prog 120 Tryz.f120 := .mk Tryz.func120 (by kernel_rfl) (by kernel_rfl)
/-! slices.Index[[]string,string] -/
noncomputable def E_sindex : Env := { ty := tyLM, ctr := [], inl := [], eqs := [(102, [.int .i64, .int .i64, .int .i64, .int .i64, .int .i64, .int .i64, .int .i64])], glob := GL, L := bigL, get := [] }
noncomputable def sindex.lr2.sp : SPat := ⟨19, [0, 1, 7, 8], [.sl .str, .str, .int .i64, .int .i64], [], [], 0⟩
noncomputable def sindex.lr2.es : List (Ex × SPat) := [(.ret, ⟨19, [4], [.int .i64], [], [], 0⟩), (.exit 0, ⟨19, [], [], [], [], 0⟩)]
noncomputable def sindex.lr2.T : ((((List (List UInt8)) × ((List UInt8) × (Int × (Int × Unit)))) × Unit) → Option (((Int × Unit) × Unit) ⊕ (Unit × Unit))) → (((List (List UInt8)) × ((List UInt8) × (Int × (Int × Unit)))) × Unit) → Option (((Int × Unit) × Unit) ⊕ (Unit × Unit)) := fun rec x =>
  cnd (ilt x.1.2.2.2.1 x.1.2.2.1) (obind (lget x.1.1 x.1.2.2.2.1) (fun x_1 => cnd (seq x.1.2.1 x_1) (some (.inl ((x.1.2.2.2.1, ()), ()))) (rec ((x.1.1, (x.1.2.1, (x.1.2.2.1, (wrap .i64 (iadd x.1.2.2.2.1 1), ())))), ())))) (some (.inr ((), ())))
noncomputable def sindex.lr2 : Alt := ⟨sindex.lr2.sp, sindex.lr2.es, 100, sindex.lr2.T⟩
noncomputable def sindex.H : Hints := ⟨[(114, [(2, [sindex.lr2])])], []⟩
noncomputable def sindexF (l : List Str) (s : Str) : Option (Int) := obind (iter sindex.lr2.T bigL (((l, (s, (ilen l, (0, ())))), ()))) (fun x => scase x (fun x => some x.1.1) (fun y => some (-1)))
theorem sindex_r114_0 : Alt.Round E_sindex sindex.H 114 (oblAt sindex.H 114 Tryz.f114 0) sindex.lr2 := by intro rec x; kernel_rfl
theorem sindex_told114 : ∀ c, Tryz.f114.body = some c → ToldC E_sindex sindex.H 114 c := told_of [sindex.lr2] (by kernel_rfl) (fun i hi => match i, hi with | 0, _ => sindex_r114_0 | n + 1, h => absurd h (by simp))
theorem sindex_inl : InlsOK Tryz.prog E_sindex sindex.H E_sindex.inl := .nil
theorem sindex_walk (l : List Str) (s : Str) : evalF E_sindex sindex.H 114 Tryz.f114 [.sl .str l, .str s] (asR [.int .i64]) = sindexF l s := by kernel_rfl
theorem sindex_ctr : FnOK Tryz.prog 114 ∧ CtrOK Tryz.prog GL 114 (ctrOf [.sl .str, .str] [.int .i64] sindexF) :=
  fn_ctr (E := E_sindex) tyLM_ok (.nil) sindex_inl eqsLM mixedM in114 sindex_told114 (fun xs => sindex_walk xs.1 xs.2.1)
/-! slices.Equal[[]int,int] -/
noncomputable def E_iequal : Env := { ty := tyLM, ctr := [], inl := [], eqs := [(102, [.int .i64, .int .i64, .int .i64, .int .i64, .int .i64, .int .i64, .int .i64])], glob := GL, L := bigL, get := [] }
noncomputable def iequal.lr4.sp : SPat := ⟨26, [0, 1, 12, 13], [.sl (.int .i64), .sl (.int .i64), .int .i64, .int .i64], [], [], 0⟩
noncomputable def iequal.lr4.es : List (Ex × SPat) := [(.ret, ⟨26, [4], [.bool], [], [], 0⟩), (.exit 0, ⟨26, [], [], [], [], 0⟩)]
noncomputable def iequal.lr4.T : ((((List Int) × ((List Int) × (Int × (Int × Unit)))) × Unit) → Option (((Bool × Unit) × Unit) ⊕ (Unit × Unit))) → (((List Int) × ((List Int) × (Int × (Int × Unit)))) × Unit) → Option (((Bool × Unit) × Unit) ⊕ (Unit × Unit)) := fun rec x =>
  cnd (ilt x.1.2.2.2.1 x.1.2.2.1) (obind (lget x.1.1 x.1.2.2.2.1) (fun x_1 => obind (lget x.1.2.1 x.1.2.2.2.1) (fun x_2 => cnd (bnot (ieq x_1 x_2)) (some (.inl ((false, ()), ()))) (rec ((x.1.1, (x.1.2.1, (x.1.2.2.1, (wrap .i64 (iadd x.1.2.2.2.1 1), ())))), ()))))) (some (.inr ((), ())))
noncomputable def iequal.lr4 : Alt := ⟨iequal.lr4.sp, iequal.lr4.es, 100, iequal.lr4.T⟩
noncomputable def iequal.H : Hints := ⟨[(64, [(4, [iequal.lr4])])], []⟩
noncomputable def iequalF (a : List Int) (b : List Int) : Option (Bool) := cnd (bnot (ieq (ilen a) (ilen b))) (some false) (obind (iter iequal.lr4.T bigL (((a, (b, (ilen a, (0, ())))), ()))) (fun x => scase x (fun x => some x.1.1) (fun y => some true)))
theorem iequal_r64_0 : Alt.Round E_iequal iequal.H 64 (oblAt iequal.H 64 Tryz.f64 0) iequal.lr4 := by intro rec x; kernel_rfl
theorem iequal_told64 : ∀ c, Tryz.f64.body = some c → ToldC E_iequal iequal.H 64 c := told_of [iequal.lr4] (by kernel_rfl) (fun i hi => match i, hi with | 0, _ => iequal_r64_0 | n + 1, h => absurd h (by simp))
theorem iequal_inl : InlsOK Tryz.prog E_iequal iequal.H E_iequal.inl := .nil
theorem iequal_walk (a : List Int) (b : List Int) : evalF E_iequal iequal.H 64 Tryz.f64 [.sl (.int .i64) a, .sl (.int .i64) b] (asR [.bool]) = iequalF a b := by kernel_rfl
theorem iequal_ctr : FnOK Tryz.prog 64 ∧ CtrOK Tryz.prog GL 64 (ctrOf [.sl (.int .i64), .sl (.int .i64)] [.bool] iequalF) :=
  fn_ctr (E := E_iequal) tyLM_ok (.nil) iequal_inl eqsLM mixedM in64 iequal_told64 (fun xs => iequal_walk xs.1 xs.2.1)
/-! innkeep/cmd.Name -/
noncomputable def E_cname : Env := { ty := tyLM, ctr := [], inl := [(85, Tryz.f85)], eqs := [(102, [.int .i64, .int .i64, .int .i64, .int .i64, .int .i64, .int .i64, .int .i64])], glob := GL, L := bigL, get := [] }
noncomputable def cname.H : Hints := ⟨[], []⟩
noncomputable def cnameF (k : Int) : Option (Str) := cnd (ilt k 0) (some (([] : List UInt8))) (cnd (ile 11 k) (some (([] : List UInt8))) (obind (lget ([([] : List UInt8), ([109, 111, 118, 101] : List UInt8), ([112, 117, 115, 104] : List UInt8), ([103, 101, 116] : List UInt8), ([100, 114, 111, 112] : List UInt8), ([112, 117, 116] : List UInt8), ([116, 97, 107, 101] : List UInt8), ([103, 105, 118, 101] : List UInt8), ([116, 114, 97, 100, 101] : List UInt8), ([108, 111, 111, 107] : List UInt8), ([111, 119, 110] : List UInt8)]) k) (fun x => some x)))
theorem cname_inl : InlsOK Tryz.prog E_cname cname.H E_cname.inl := .cons in85 (fun c _ => told_none rfl c) .nil
theorem cname_walk (k : Int) : evalF E_cname cname.H 54 Tryz.f54 [.int .i64 k] (asR [.str]) = cnameF k := by kernel_rfl
theorem cname_ctr : FnOK Tryz.prog 54 ∧ CtrOK Tryz.prog GL 54 (ctrOf [.int .i64] [.str] cnameF) :=
  fn_ctr (E := E_cname) tyLM_ok (.nil) cname_inl eqsLM mixedM in54 (fun c _ => told_none rfl c) (fun xs => cname_walk xs.1)
/-! innkeep/cmd.Kind -/
noncomputable def E_ckind : Env := { ty := tyLM, ctr := [(114, ctrOf [.sl .str, .str] [.int .i64] sindexF)], inl := [(89, Tryz.f89)], eqs := [(102, [.int .i64, .int .i64, .int .i64, .int .i64, .int .i64, .int .i64, .int .i64])], glob := GL, L := bigL, get := [] }
noncomputable def ckind.H : Hints := ⟨[], []⟩
noncomputable def ckindF (s : Str) : Option (Int × Bool) := obind (sindexF ([([] : List UInt8), ([109, 111, 118, 101] : List UInt8), ([112, 117, 115, 104] : List UInt8), ([103, 101, 116] : List UInt8), ([100, 114, 111, 112] : List UInt8), ([112, 117, 116] : List UInt8), ([116, 97, 107, 101] : List UInt8), ([103, 105, 118, 101] : List UInt8), ([116, 114, 97, 100, 101] : List UInt8), ([108, 111, 111, 107] : List UInt8), ([111, 119, 110] : List UInt8)]) s) (fun x => cnd (seq s (([] : List UInt8))) (some ((0, false))) (cnd (ilt x 0) (some ((0, false))) (some ((x, true)))))
theorem ckind_inl : InlsOK Tryz.prog E_ckind ckind.H E_ckind.inl := .cons in89 (fun c _ => told_none rfl c) .nil
theorem ckind_walk (s : Str) : evalF E_ckind ckind.H 56 Tryz.f56 [.str s] (asR [.int .i64, .bool]) = ckindF s := by kernel_rfl
theorem ckind_ctr : FnOK Tryz.prog 56 ∧ CtrOK Tryz.prog GL 56 (ctrOf [.str] [.int .i64, .bool] ckindF) :=
  fn_ctr (E := E_ckind) tyLM_ok (.cons sindex_ctr .nil) ckind_inl eqsLM mixedM in56 (fun c _ => told_none rfl c) (fun xs => ckind_walk xs.1)
/-! innkeep/cmd.Way -/
noncomputable def E_cway : Env := { ty := tyLM, ctr := [], inl := [(85, Tryz.f85)], eqs := [(102, [.int .i64, .int .i64, .int .i64, .int .i64, .int .i64, .int .i64, .int .i64])], glob := GL, L := bigL, get := [] }
noncomputable def cway.H : Hints := ⟨[], []⟩
noncomputable def cwayF (d : Int) : Option (Str) := cnd (ilt d 0) (some (([] : List UInt8))) (cnd (ile 4 d) (some (([] : List UInt8))) (obind (lget ([([110, 111, 114, 116, 104] : List UInt8), ([101, 97, 115, 116] : List UInt8), ([115, 111, 117, 116, 104] : List UInt8), ([119, 101, 115, 116] : List UInt8)]) d) (fun x => some x)))
theorem cway_inl : InlsOK Tryz.prog E_cway cway.H E_cway.inl := .cons in85 (fun c _ => told_none rfl c) .nil
theorem cway_walk (d : Int) : evalF E_cway cway.H 50 Tryz.f50 [.int .i64 d] (asR [.str]) = cwayF d := by kernel_rfl
theorem cway_ctr : FnOK Tryz.prog 50 ∧ CtrOK Tryz.prog GL 50 (ctrOf [.int .i64] [.str] cwayF) :=
  fn_ctr (E := E_cway) tyLM_ok (.nil) cway_inl eqsLM mixedM in50 (fun c _ => told_none rfl c) (fun xs => cway_walk xs.1)
/-! innkeep/cmd.Dir -/
noncomputable def E_cdir : Env := { ty := tyLM, ctr := [(114, ctrOf [.sl .str, .str] [.int .i64] sindexF)], inl := [(89, Tryz.f89)], eqs := [(102, [.int .i64, .int .i64, .int .i64, .int .i64, .int .i64, .int .i64, .int .i64])], glob := GL, L := bigL, get := [] }
noncomputable def cdir.H : Hints := ⟨[], []⟩
noncomputable def cdirF (s : Str) : Option (Int × Bool) := obind (sindexF ([([110, 111, 114, 116, 104] : List UInt8), ([101, 97, 115, 116] : List UInt8), ([115, 111, 117, 116, 104] : List UInt8), ([119, 101, 115, 116] : List UInt8)]) s) (fun x => cnd (seq s (([] : List UInt8))) (some ((0, false))) (cnd (ilt x 0) (some ((0, false))) (some ((x, true)))))
theorem cdir_inl : InlsOK Tryz.prog E_cdir cdir.H E_cdir.inl := .cons in89 (fun c _ => told_none rfl c) .nil
theorem cdir_walk (s : Str) : evalF E_cdir cdir.H 115 Tryz.f115 [.str s] (asR [.int .i64, .bool]) = cdirF s := by kernel_rfl
theorem cdir_ctr : FnOK Tryz.prog 115 ∧ CtrOK Tryz.prog GL 115 (ctrOf [.str] [.int .i64, .bool] cdirF) :=
  fn_ctr (E := E_cdir) tyLM_ok (.cons sindex_ctr .nil) cdir_inl eqsLM mixedM in115 (fun c _ => told_none rfl c) (fun xs => cdir_walk xs.1)
/-! innkeep/cmd.row -/
noncomputable def E_crow : Env := { ty := tyLM, ctr := [], inl := [(107, Tryz.f107), (120, Tryz.f120), (108, Tryz.f108), (82, Tryz.f82)], eqs := [(102, [.int .i64, .int .i64, .int .i64, .int .i64, .int .i64, .int .i64, .int .i64])], glob := GL, L := bigL, get := [] }
noncomputable def crow.lslicesIndexFuncr2.sp : SPat := ⟨19, [0, 1, 7, 8], [.sl (.int .i64), .func 108 [] [], .int .i64, .int .i64], [], [], 0⟩
noncomputable def crow.lslicesIndexFuncr2.es : List (Ex × SPat) := [(.ret, ⟨19, [4], [.int .i64], [], [], 0⟩), (.exit 0, ⟨19, [], [], [], [], 0⟩)]
noncomputable def crow.lslicesIndexFuncr2.T : ((((List Int) × (Int × (Int × Unit))) × Unit) → Option (((Int × Unit) × Unit) ⊕ (Unit × Unit))) → (((List Int) × (Int × (Int × Unit))) × Unit) → Option (((Int × Unit) × Unit) ⊕ (Unit × Unit)) := fun rec x =>
  cnd (ilt x.1.2.2.1 x.1.2.1) (obind (lget x.1.1 x.1.2.2.1) (fun x_1 => cnd (ile 0 x_1) (cnd (bnot (ile x_1 1073741824)) (some (.inl ((x.1.2.2.1, ()), ()))) (rec ((x.1.1, (x.1.2.1, (wrap .i64 (iadd x.1.2.2.1 1), ()))), ()))) (some (.inl ((x.1.2.2.1, ()), ()))))) (some (.inr ((), ())))
noncomputable def crow.lslicesIndexFuncr2 : Alt := ⟨crow.lslicesIndexFuncr2.sp, crow.lslicesIndexFuncr2.es, 100, crow.lslicesIndexFuncr2.T⟩
noncomputable def crow.H : Hints := ⟨[(120, [(2, [crow.lslicesIndexFuncr2])])], []⟩
noncomputable def crowF (l : List Int) : Option (Bool) := cnd (ile (ilen l) 16) (obind (iter crow.lslicesIndexFuncr2.T bigL (((l, (ilen l, (0, ()))), ()))) (fun x => scase x (fun x => some (bnot (ile 0 x.1.1))) (fun y => some true))) (some false)
theorem crow_r120_0 : Alt.Round E_crow crow.H 120 (oblAt crow.H 120 Tryz.f120 0) crow.lslicesIndexFuncr2 := by intro rec x; kernel_rfl
theorem crow_told120 : ∀ c, Tryz.f120.body = some c → ToldC E_crow crow.H 120 c := told_of [crow.lslicesIndexFuncr2] (by kernel_rfl) (fun i hi => match i, hi with | 0, _ => crow_r120_0 | n + 1, h => absurd h (by simp))
theorem crow_inl : InlsOK Tryz.prog E_crow crow.H E_crow.inl := .cons in107 (fun c _ => told_none rfl c) (.cons in120 crow_told120 (.cons in108 (fun c _ => told_none rfl c) (.cons in82 (fun c _ => told_none rfl c) .nil)))
theorem crow_walk (l : List Int) : evalF E_crow crow.H 83 Tryz.f83 [.sl (.int .i64) l] (asR [.bool]) = crowF l := by kernel_rfl
theorem crow_ctr : FnOK Tryz.prog 83 ∧ CtrOK Tryz.prog GL 83 (ctrOf [.sl (.int .i64)] [.bool] crowF) :=
  fn_ctr (E := E_crow) tyLM_ok (.nil) crow_inl eqsLM mixedM in83 (fun c _ => told_none rfl c) (fun xs => crow_walk xs.1)
/-! innkeep/cmd.of -/
noncomputable def E_cof : Env := { ty := tyLM, ctr := [], inl := [], eqs := [(102, [.int .i64, .int .i64, .int .i64, .int .i64, .int .i64, .int .i64, .int .i64])], glob := GL, L := bigL, get := [] }
noncomputable def cof.H : Hints := ⟨[], []⟩
noncomputable def cofF (c : Cmd) : Option (AV) := some (AV.agg [AV.int .i64 c.kind, AV.int .i64 c.dir, AV.int .i64 c.item, AV.int .i64 c.box, AV.int .i64 c.who, AV.int .i64 c.pay, AV.int .i64 c.fee])
theorem cof_inl : InlsOK Tryz.prog E_cof cof.H E_cof.inl := .nil
theorem cof_walk (c : Cmd) : evalF E_cof cof.H 63 Tryz.f63 [.agg (SN.cells .cmd c)] (fun v => some v) = cofF c := by kernel_rfl
theorem cof_ctr : FnOK Tryz.prog 63 ∧ CtrOK Tryz.prog GL 63 (ctrAV [.st .cmd] cofF) :=
  fn_ctr_av (E := E_cof) tyLM_ok (.nil) cof_inl eqsLM mixedM in63 (fun c _ => told_none rfl c) (fun xs => cof_walk xs.1)
/-! innkeep/cmd.bare -/
noncomputable def E_cbare : Env := { ty := tyLM, ctr := [], inl := [], eqs := [(102, [.int .i64, .int .i64, .int .i64, .int .i64, .int .i64, .int .i64, .int .i64])], glob := GL, L := bigL, get := [] }
noncomputable def cbare.H : Hints := ⟨[], []⟩
noncomputable def cbareF (c : Cmd) : Option (Cmd) := cnd (ieq c.kind 1) (some (⟨c.kind, c.dir, 0, 0, 0, ([] : List Int), 0, ([] : List Int), 0⟩)) (cnd (ieq c.kind 2) (some (⟨c.kind, c.dir, 0, 0, c.who, ([] : List Int), 0, ([] : List Int), 0⟩)) (cnd (ieq c.kind 3) (cnd (ieq c.kind 3) (some (⟨c.kind, 0, c.item, 0, 0, ([] : List Int), 0, ([] : List Int), 0⟩)) (cnd (ieq c.kind 5) (cnd (ieq c.kind 5) (some (⟨c.kind, 0, c.item, c.box, 0, ([] : List Int), 0, ([] : List Int), 0⟩)) (cnd (ieq c.kind 7) (some (⟨c.kind, 0, c.item, 0, c.who, ([] : List Int), 0, ([] : List Int), 0⟩)) (cnd (ieq c.kind 8) (some (⟨c.kind, 0, 0, 0, c.who, c.gives, c.pay, c.wants, c.fee⟩)) (some (⟨c.kind, 0, 0, 0, 0, ([] : List Int), 0, ([] : List Int), 0⟩))))) (cnd (ieq c.kind 6) (some (⟨c.kind, 0, c.item, c.box, 0, ([] : List Int), 0, ([] : List Int), 0⟩)) (cnd (ieq c.kind 7) (some (⟨c.kind, 0, c.item, 0, c.who, ([] : List Int), 0, ([] : List Int), 0⟩)) (cnd (ieq c.kind 8) (some (⟨c.kind, 0, 0, 0, c.who, c.gives, c.pay, c.wants, c.fee⟩)) (some (⟨c.kind, 0, 0, 0, 0, ([] : List Int), 0, ([] : List Int), 0⟩))))))) (cnd (ieq c.kind 4) (some (⟨c.kind, 0, c.item, 0, 0, ([] : List Int), 0, ([] : List Int), 0⟩)) (cnd (ieq c.kind 5) (cnd (ieq c.kind 5) (some (⟨c.kind, 0, c.item, c.box, 0, ([] : List Int), 0, ([] : List Int), 0⟩)) (cnd (ieq c.kind 7) (some (⟨c.kind, 0, c.item, 0, c.who, ([] : List Int), 0, ([] : List Int), 0⟩)) (cnd (ieq c.kind 8) (some (⟨c.kind, 0, 0, 0, c.who, c.gives, c.pay, c.wants, c.fee⟩)) (some (⟨c.kind, 0, 0, 0, 0, ([] : List Int), 0, ([] : List Int), 0⟩))))) (cnd (ieq c.kind 6) (some (⟨c.kind, 0, c.item, c.box, 0, ([] : List Int), 0, ([] : List Int), 0⟩)) (cnd (ieq c.kind 7) (some (⟨c.kind, 0, c.item, 0, c.who, ([] : List Int), 0, ([] : List Int), 0⟩)) (cnd (ieq c.kind 8) (some (⟨c.kind, 0, 0, 0, c.who, c.gives, c.pay, c.wants, c.fee⟩)) (some (⟨c.kind, 0, 0, 0, 0, ([] : List Int), 0, ([] : List Int), 0⟩)))))))))
theorem cbare_inl : InlsOK Tryz.prog E_cbare cbare.H E_cbare.inl := .nil
theorem cbare_walk (c : Cmd) : evalF E_cbare cbare.H 81 Tryz.f81 [.agg (SN.cells .cmd c)] (asR [.st .cmd]) = cbareF c := by kernel_rfl
theorem cbare_ctr : FnOK Tryz.prog 81 ∧ CtrOK Tryz.prog GL 81 (ctrOf [.st .cmd] [.st .cmd] cbareF) :=
  fn_ctr (E := E_cbare) tyLM_ok (.nil) cbare_inl eqsLM mixedM in81 (fun c _ => told_none rfl c) (fun xs => cbare_walk xs.1)
/-! innkeep/cmd.Same -/
noncomputable def E_csame : Env := { ty := tyLM, ctr := [(63, ctrAV [.st .cmd] cofF), (64, ctrOf [.sl (.int .i64), .sl (.int .i64)] [.bool] iequalF)], inl := [], eqs := [(102, [.int .i64, .int .i64, .int .i64, .int .i64, .int .i64, .int .i64, .int .i64])], glob := GL, L := bigL, get := [] }
noncomputable def csame.H : Hints := ⟨[], []⟩
noncomputable def csameF (a : Cmd) (b : Cmd) : Option (Bool) := cnd (band (ieq a.kind b.kind) (band (ieq a.dir b.dir) (band (ieq a.item b.item) (band (ieq a.box b.box) (band (ieq a.who b.who) (band (ieq a.pay b.pay) (ieq a.fee b.fee))))))) (obind (iequalF a.gives b.gives) (fun x => cnd x (obind (iequalF a.wants b.wants) (fun x_1 => some x_1)) (some false))) (some false)
theorem csame_inl : InlsOK Tryz.prog E_csame csame.H E_csame.inl := .nil
theorem csame_walk (a : Cmd) (b : Cmd) : evalF E_csame csame.H 41 Tryz.f41 [.agg (SN.cells .cmd a), .agg (SN.cells .cmd b)] (asR [.bool]) = csameF a b := by kernel_rfl
theorem csame_ctr : FnOK Tryz.prog 41 ∧ CtrOK Tryz.prog GL 41 (ctrOf [.st .cmd, .st .cmd] [.bool] csameF) :=
  fn_ctr (E := E_csame) tyLM_ok (.cons cof_ctr (.cons iequal_ctr .nil)) csame_inl eqsLM mixedM in41 (fun c _ => told_none rfl c) (fun xs => csame_walk xs.1 xs.2.1)
/-! innkeep/cmd.May -/
noncomputable def E_cmay : Env := { ty := tyLM, ctr := [(54, ctrOf [.int .i64] [.str] cnameF), (50, ctrOf [.int .i64] [.str] cwayF), (41, ctrOf [.st .cmd, .st .cmd] [.bool] csameF), (81, ctrOf [.st .cmd] [.st .cmd] cbareF), (83, ctrOf [.sl (.int .i64)] [.bool] crowF)], inl := [(82, Tryz.f82)], eqs := [(102, [.int .i64, .int .i64, .int .i64, .int .i64, .int .i64, .int .i64, .int .i64])], glob := GL, L := bigL, get := [] }
noncomputable def cmay.H : Hints := ⟨[], []⟩
noncomputable def cmayF (c : Cmd) : Option (Bool) := obind (cnameF c.kind) (fun x => cnd (bnot (seq x (([] : List UInt8)))) (obind (cbareF (⟨c.kind, c.dir, c.item, c.box, c.who, c.gives, c.pay, c.wants, c.fee⟩)) (fun x_1 => obind (csameF (⟨c.kind, c.dir, c.item, c.box, c.who, c.gives, c.pay, c.wants, c.fee⟩) (⟨x_1.kind, x_1.dir, x_1.item, x_1.box, x_1.who, x_1.gives, x_1.pay, x_1.wants, x_1.fee⟩)) (fun x_2 => cnd x_2 (obind (cwayF c.dir) (fun x_3 => cnd (bnot (seq x_3 (([] : List UInt8)))) (cnd (ile 0 c.item) (cnd (ile c.item 1073741824) (cnd (ile 0 c.box) (cnd (ile c.box 1073741824) (cnd (ile 0 c.who) (cnd (ile c.who 1073741824) (cnd (ile 0 c.pay) (cnd (ile c.pay 1073741824) (cnd (ile 0 c.fee) (cnd (ile c.fee 1073741824) (obind (crowF c.gives) (fun x_4 => cnd x_4 (obind (crowF c.wants) (fun x_5 => some x_5)) (some false))) (some false)) (some false)) (some false)) (some false)) (some false)) (some false)) (some false)) (some false)) (some false)) (some false)) (some false))) (some false)))) (some false))
theorem cmay_inl : InlsOK Tryz.prog E_cmay cmay.H E_cmay.inl := .cons in82 (fun c _ => told_none rfl c) .nil
theorem cmay_walk (c : Cmd) : evalF E_cmay cmay.H 48 Tryz.f48 [.agg (SN.cells .cmd c)] (asR [.bool]) = cmayF c := by kernel_rfl
theorem cmay_ctr : FnOK Tryz.prog 48 ∧ CtrOK Tryz.prog GL 48 (ctrOf [.st .cmd] [.bool] cmayF) :=
  fn_ctr (E := E_cmay) tyLM_ok (.cons cname_ctr (.cons cway_ctr (.cons csame_ctr (.cons cbare_ctr (.cons crow_ctr .nil))))) cmay_inl eqsLM mixedM in48 (fun c _ => told_none rfl c) (fun xs => cmay_walk xs.1)
/-! innkeep/innkeepref03.Name -/
noncomputable def E_r3name : Env := { ty := tyLM, ctr := [], inl := [], eqs := [(102, [.int .i64, .int .i64, .int .i64, .int .i64, .int .i64, .int .i64, .int .i64])], glob := GL, L := bigL, get := [] }
noncomputable def r3name.H : Hints := ⟨[], []⟩
noncomputable def r3nameF (k : Int) : Option (Str) := cnd (ilt k 1) (some (([] : List UInt8))) (cnd (ilt 10 k) (some (([] : List UInt8))) (cnd (ile 0 k) (cnd (ilt k 11) (obind (lget ([([] : List UInt8), ([109, 111, 118, 101] : List UInt8), ([112, 117, 115, 104] : List UInt8), ([103, 101, 116] : List UInt8), ([100, 114, 111, 112] : List UInt8), ([112, 117, 116] : List UInt8), ([116, 97, 107, 101] : List UInt8), ([103, 105, 118, 101] : List UInt8), ([116, 114, 97, 100, 101] : List UInt8), ([108, 111, 111, 107] : List UInt8), ([111, 119, 110] : List UInt8)]) k) (fun x => some x)) none) none))
theorem r3name_inl : InlsOK Tryz.prog E_r3name r3name.H E_r3name.inl := .nil
theorem r3name_walk (k : Int) : evalF E_r3name r3name.H 30 Tryz.f30 [.int .i64 k] (asR [.str]) = r3nameF k := by kernel_rfl
theorem r3name_ctr : FnOK Tryz.prog 30 ∧ CtrOK Tryz.prog GL 30 (ctrOf [.int .i64] [.str] r3nameF) :=
  fn_ctr (E := E_r3name) tyLM_ok (.nil) r3name_inl eqsLM mixedM in30 (fun c _ => told_none rfl c) (fun xs => r3name_walk xs.1)
/-! innkeep/innkeepref03.Way -/
noncomputable def E_r3way : Env := { ty := tyLM, ctr := [], inl := [], eqs := [(102, [.int .i64, .int .i64, .int .i64, .int .i64, .int .i64, .int .i64, .int .i64])], glob := GL, L := bigL, get := [] }
noncomputable def r3way.H : Hints := ⟨[], []⟩
noncomputable def r3wayF (d : Int) : Option (Str) := cnd (ieq d 0) (some (([110, 111, 114, 116, 104] : List UInt8))) (cnd (ieq d 1) (some (([101, 97, 115, 116] : List UInt8))) (cnd (ieq d 2) (some (([115, 111, 117, 116, 104] : List UInt8))) (cnd (ieq d 3) (some (([119, 101, 115, 116] : List UInt8))) (some (([] : List UInt8))))))
theorem r3way_inl : InlsOK Tryz.prog E_r3way r3way.H E_r3way.inl := .nil
theorem r3way_walk (d : Int) : evalF E_r3way r3way.H 60 Tryz.f60 [.int .i64 d] (asR [.str]) = r3wayF d := by kernel_rfl
theorem r3way_ctr : FnOK Tryz.prog 60 ∧ CtrOK Tryz.prog GL 60 (ctrOf [.int .i64] [.str] r3wayF) :=
  fn_ctr (E := E_r3way) tyLM_ok (.nil) r3way_inl eqsLM mixedM in60 (fun c _ => told_none rfl c) (fun xs => r3way_walk xs.1)
/-! innkeep/innkeepref03.Kind -/
noncomputable def E_r3kind : Env := { ty := tyLM, ctr := [(30, ctrOf [.int .i64] [.str] r3nameF)], inl := [], eqs := [(102, [.int .i64, .int .i64, .int .i64, .int .i64, .int .i64, .int .i64, .int .i64])], glob := GL, L := bigL, get := [] }
noncomputable def r3kind.lr2.sp : SPat := ⟨14, [0, 4], [.str, .int .i64], [], [], 0⟩
noncomputable def r3kind.lr2.es : List (Ex × SPat) := [(.ret, ⟨14, [2, 3], [.int .i64, .bool], [], [], 0⟩), (.exit 0, ⟨14, [], [], [], [], 0⟩)]
noncomputable def r3kind.lr2.T : ((((List UInt8) × (Int × Unit)) × Unit) → Option (((Int × (Bool × Unit)) × Unit) ⊕ (Unit × Unit))) → (((List UInt8) × (Int × Unit)) × Unit) → Option (((Int × (Bool × Unit)) × Unit) ⊕ (Unit × Unit)) := fun rec x =>
  cnd (ile x.1.2.1 10) (obind (r3nameF x.1.2.1) (fun x_1 => cnd (seq x_1 x.1.1) (some (.inl ((x.1.2.1, (true, ())), ()))) (rec ((x.1.1, (wrap .i64 (iadd x.1.2.1 1), ())), ())))) (some (.inr ((), ())))
noncomputable def r3kind.lr2 : Alt := ⟨r3kind.lr2.sp, r3kind.lr2.es, 100, r3kind.lr2.T⟩
noncomputable def r3kind.H : Hints := ⟨[(32, [(2, [r3kind.lr2])])], []⟩
noncomputable def r3kindF (s : Str) : Option (Int × Bool) := obind (iter r3kind.lr2.T bigL (((s, (1, ())), ()))) (fun x => scase x (fun x => some ((x.1.1, x.1.2.1))) (fun y => some ((0, false))))
theorem r3kind_r32_0 : Alt.Round E_r3kind r3kind.H 32 (oblAt r3kind.H 32 Tryz.f32 0) r3kind.lr2 := by intro rec x; kernel_rfl
theorem r3kind_told32 : ∀ c, Tryz.f32.body = some c → ToldC E_r3kind r3kind.H 32 c := told_of [r3kind.lr2] (by kernel_rfl) (fun i hi => match i, hi with | 0, _ => r3kind_r32_0 | n + 1, h => absurd h (by simp))
theorem r3kind_inl : InlsOK Tryz.prog E_r3kind r3kind.H E_r3kind.inl := .nil
theorem r3kind_walk (s : Str) : evalF E_r3kind r3kind.H 32 Tryz.f32 [.str s] (asR [.int .i64, .bool]) = r3kindF s := by kernel_rfl
theorem r3kind_ctr : FnOK Tryz.prog 32 ∧ CtrOK Tryz.prog GL 32 (ctrOf [.str] [.int .i64, .bool] r3kindF) :=
  fn_ctr (E := E_r3kind) tyLM_ok (.cons r3name_ctr .nil) r3kind_inl eqsLM mixedM in32 r3kind_told32 (fun xs => r3kind_walk xs.1)
/-! innkeep/innkeepref03.Dir -/
noncomputable def E_r3dir : Env := { ty := tyLM, ctr := [(60, ctrOf [.int .i64] [.str] r3wayF)], inl := [], eqs := [(102, [.int .i64, .int .i64, .int .i64, .int .i64, .int .i64, .int .i64, .int .i64])], glob := GL, L := bigL, get := [] }
noncomputable def r3dir.lr2.sp : SPat := ⟨14, [0, 4], [.str, .int .i64], [], [], 0⟩
noncomputable def r3dir.lr2.es : List (Ex × SPat) := [(.ret, ⟨14, [2, 3], [.int .i64, .bool], [], [], 0⟩), (.exit 0, ⟨14, [], [], [], [], 0⟩)]
noncomputable def r3dir.lr2.T : ((((List UInt8) × (Int × Unit)) × Unit) → Option (((Int × (Bool × Unit)) × Unit) ⊕ (Unit × Unit))) → (((List UInt8) × (Int × Unit)) × Unit) → Option (((Int × (Bool × Unit)) × Unit) ⊕ (Unit × Unit)) := fun rec x =>
  cnd (ilt x.1.2.1 4) (obind (r3wayF x.1.2.1) (fun x_1 => cnd (seq x_1 x.1.1) (some (.inl ((x.1.2.1, (true, ())), ()))) (rec ((x.1.1, (wrap .i64 (iadd x.1.2.1 1), ())), ())))) (some (.inr ((), ())))
noncomputable def r3dir.lr2 : Alt := ⟨r3dir.lr2.sp, r3dir.lr2.es, 100, r3dir.lr2.T⟩
noncomputable def r3dir.H : Hints := ⟨[(33, [(2, [r3dir.lr2])])], []⟩
noncomputable def r3dirF (s : Str) : Option (Int × Bool) := obind (iter r3dir.lr2.T bigL (((s, (0, ())), ()))) (fun x => scase x (fun x => some ((x.1.1, x.1.2.1))) (fun y => some ((0, false))))
theorem r3dir_r33_0 : Alt.Round E_r3dir r3dir.H 33 (oblAt r3dir.H 33 Tryz.f33 0) r3dir.lr2 := by intro rec x; kernel_rfl
theorem r3dir_told33 : ∀ c, Tryz.f33.body = some c → ToldC E_r3dir r3dir.H 33 c := told_of [r3dir.lr2] (by kernel_rfl) (fun i hi => match i, hi with | 0, _ => r3dir_r33_0 | n + 1, h => absurd h (by simp))
theorem r3dir_inl : InlsOK Tryz.prog E_r3dir r3dir.H E_r3dir.inl := .nil
theorem r3dir_walk (s : Str) : evalF E_r3dir r3dir.H 33 Tryz.f33 [.str s] (asR [.int .i64, .bool]) = r3dirF s := by kernel_rfl
theorem r3dir_ctr : FnOK Tryz.prog 33 ∧ CtrOK Tryz.prog GL 33 (ctrOf [.str] [.int .i64, .bool] r3dirF) :=
  fn_ctr (E := E_r3dir) tyLM_ok (.cons r3way_ctr .nil) r3dir_inl eqsLM mixedM in33 r3dir_told33 (fun xs => r3dir_walk xs.1)
/-! innkeep/innkeepref03.Ints -/
noncomputable def E_r3ints : Env := { ty := tyLM, ctr := [], inl := [], eqs := [(102, [.int .i64, .int .i64, .int .i64, .int .i64, .int .i64, .int .i64, .int .i64])], glob := GL, L := bigL, get := [] }
noncomputable def r3ints.lr4.sp : SPat := ⟨26, [0, 1, 5], [.sl (.int .i64), .sl (.int .i64), .int .i64], [], [], 0⟩
noncomputable def r3ints.lr4.es : List (Ex × SPat) := [(.ret, ⟨26, [4], [.bool], [], [], 0⟩), (.exit 0, ⟨26, [], [], [], [], 0⟩)]
noncomputable def r3ints.lr4.T : ((((List Int) × ((List Int) × (Int × Unit))) × Unit) → Option (((Bool × Unit) × Unit) ⊕ (Unit × Unit))) → (((List Int) × ((List Int) × (Int × Unit))) × Unit) → Option (((Bool × Unit) × Unit) ⊕ (Unit × Unit)) := fun rec x =>
  cnd (ilt x.1.2.2.1 (ilen x.1.1)) (obind (lget x.1.1 x.1.2.2.1) (fun x_1 => obind (lget x.1.2.1 x.1.2.2.1) (fun x_2 => cnd (bnot (ieq x_1 x_2)) (some (.inl ((false, ()), ()))) (rec ((x.1.1, (x.1.2.1, (wrap .i64 (iadd x.1.2.2.1 1), ()))), ()))))) (some (.inr ((), ())))
noncomputable def r3ints.lr4 : Alt := ⟨r3ints.lr4.sp, r3ints.lr4.es, 100, r3ints.lr4.T⟩
noncomputable def r3ints.H : Hints := ⟨[(37, [(4, [r3ints.lr4])])], []⟩
noncomputable def r3intsF (a : List Int) (b : List Int) : Option (Bool) := cnd (bnot (ieq (ilen a) (ilen b))) (some false) (obind (iter r3ints.lr4.T bigL (((a, (b, (0, ()))), ()))) (fun x => scase x (fun x => some x.1.1) (fun y => some true)))
theorem r3ints_r37_0 : Alt.Round E_r3ints r3ints.H 37 (oblAt r3ints.H 37 Tryz.f37 0) r3ints.lr4 := by intro rec x; kernel_rfl
theorem r3ints_told37 : ∀ c, Tryz.f37.body = some c → ToldC E_r3ints r3ints.H 37 c := told_of [r3ints.lr4] (by kernel_rfl) (fun i hi => match i, hi with | 0, _ => r3ints_r37_0 | n + 1, h => absurd h (by simp))
theorem r3ints_inl : InlsOK Tryz.prog E_r3ints r3ints.H E_r3ints.inl := .nil
theorem r3ints_walk (a : List Int) (b : List Int) : evalF E_r3ints r3ints.H 37 Tryz.f37 [.sl (.int .i64) a, .sl (.int .i64) b] (asR [.bool]) = r3intsF a b := by kernel_rfl
theorem r3ints_ctr : FnOK Tryz.prog 37 ∧ CtrOK Tryz.prog GL 37 (ctrOf [.sl (.int .i64), .sl (.int .i64)] [.bool] r3intsF) :=
  fn_ctr (E := E_r3ints) tyLM_ok (.nil) r3ints_inl eqsLM mixedM in37 r3ints_told37 (fun xs => r3ints_walk xs.1 xs.2.1)
/-! innkeep/innkeepref03.Same -/
noncomputable def E_r3same : Env := { ty := tyLM, ctr := [(37, ctrOf [.sl (.int .i64), .sl (.int .i64)] [.bool] r3intsF)], inl := [], eqs := [(102, [.int .i64, .int .i64, .int .i64, .int .i64, .int .i64, .int .i64, .int .i64])], glob := GL, L := bigL, get := [] }
noncomputable def r3same.H : Hints := ⟨[], []⟩
noncomputable def r3sameF (a : Cmd) (b : Cmd) : Option (Bool) := cnd (ieq a.kind b.kind) (cnd (ieq a.dir b.dir) (cnd (ieq a.item b.item) (cnd (ieq a.box b.box) (cnd (ieq a.who b.who) (cnd (ieq a.pay b.pay) (cnd (ieq a.fee b.fee) (obind (r3intsF a.gives b.gives) (fun x => cnd x (obind (r3intsF a.wants b.wants) (fun x_1 => some x_1)) (some false))) (some false)) (some false)) (some false)) (some false)) (some false)) (some false)) (some false)
theorem r3same_inl : InlsOK Tryz.prog E_r3same r3same.H E_r3same.inl := .nil
theorem r3same_walk (a : Cmd) (b : Cmd) : evalF E_r3same r3same.H 15 Tryz.f15 [.agg (SN.cells .cmd a), .agg (SN.cells .cmd b)] (asR [.bool]) = r3sameF a b := by kernel_rfl
theorem r3same_ctr : FnOK Tryz.prog 15 ∧ CtrOK Tryz.prog GL 15 (ctrOf [.st .cmd, .st .cmd] [.bool] r3sameF) :=
  fn_ctr (E := E_r3same) tyLM_ok (.cons r3ints_ctr .nil) r3same_inl eqsLM mixedM in15 (fun c _ => told_none rfl c) (fun xs => r3same_walk xs.1 xs.2.1)
/-! innkeep/innkeepref03.row -/
noncomputable def E_r3row : Env := { ty := tyLM, ctr := [], inl := [(58, Tryz.f58)], eqs := [(102, [.int .i64, .int .i64, .int .i64, .int .i64, .int .i64, .int .i64, .int .i64])], glob := GL, L := bigL, get := [] }
noncomputable def r3row.lr4.sp : SPat := ⟨26, [0, 5], [.sl (.int .i64), .int .i64], [], [], 0⟩
noncomputable def r3row.lr4.es : List (Ex × SPat) := [(.ret, ⟨26, [4], [.bool], [], [], 0⟩), (.exit 0, ⟨26, [0], [.sl (.int .i64)], [], [], 0⟩)]
noncomputable def r3row.lr4.T : ((((List Int) × (Int × Unit)) × Unit) → Option (((Bool × Unit) × Unit) ⊕ (((List Int) × Unit) × Unit))) → (((List Int) × (Int × Unit)) × Unit) → Option (((Bool × Unit) × Unit) ⊕ (((List Int) × Unit) × Unit)) := fun rec x =>
  cnd (ilt x.1.2.1 (ilen x.1.1)) (obind (lget x.1.1 x.1.2.1) (fun x_1 => cnd (ile 0 x_1) (cnd (bnot (ile x_1 1073741824)) (some (.inl ((false, ()), ()))) (rec ((x.1.1, (wrap .i64 (iadd x.1.2.1 1), ())), ()))) (some (.inl ((false, ()), ()))))) (some (.inr ((x.1.1, ()), ())))
noncomputable def r3row.lr4 : Alt := ⟨r3row.lr4.sp, r3row.lr4.es, 100, r3row.lr4.T⟩
noncomputable def r3row.H : Hints := ⟨[(59, [(4, [r3row.lr4])])], []⟩
noncomputable def r3rowF (l : List Int) (h : Bool) : Option (Bool) := cnd (bnot h) (some (ieq (ilen l) 0)) (obind (iter r3row.lr4.T bigL (((l, (0, ())), ()))) (fun x => scase x (fun x => some x.1.1) (fun y => some (ile (ilen y.1.1) 16))))
theorem r3row_r59_0 : Alt.Round E_r3row r3row.H 59 (oblAt r3row.H 59 Tryz.f59 0) r3row.lr4 := by intro rec x; kernel_rfl
theorem r3row_told59 : ∀ c, Tryz.f59.body = some c → ToldC E_r3row r3row.H 59 c := told_of [r3row.lr4] (by kernel_rfl) (fun i hi => match i, hi with | 0, _ => r3row_r59_0 | n + 1, h => absurd h (by simp))
theorem r3row_inl : InlsOK Tryz.prog E_r3row r3row.H E_r3row.inl := .cons in58 (fun c _ => told_none rfl c) .nil
theorem r3row_walk (l : List Int) (h : Bool) : evalF E_r3row r3row.H 59 Tryz.f59 [.sl (.int .i64) l, .bool h] (asR [.bool]) = r3rowF l h := by kernel_rfl
theorem r3row_ctr : FnOK Tryz.prog 59 ∧ CtrOK Tryz.prog GL 59 (ctrOf [.sl (.int .i64), .bool] [.bool] r3rowF) :=
  fn_ctr (E := E_r3row) tyLM_ok (.nil) r3row_inl eqsLM mixedM in59 r3row_told59 (fun xs => r3row_walk xs.1 xs.2.1)
/-! innkeep/innkeepref03.fit -/
noncomputable def E_r3fit : Env := { ty := tyLM, ctr := [], inl := [], eqs := [(102, [.int .i64, .int .i64, .int .i64, .int .i64, .int .i64, .int .i64, .int .i64])], glob := GL, L := bigL, get := [] }
noncomputable def r3fit.H : Hints := ⟨[], []⟩
noncomputable def r3fitF (n : Int) (h : Bool) : Option (Bool) := cnd (bnot h) (some (ieq n 0)) (cnd (ile 0 n) (some (ile n 1073741824)) (some false))
theorem r3fit_inl : InlsOK Tryz.prog E_r3fit r3fit.H E_r3fit.inl := .nil
theorem r3fit_walk (n : Int) (h : Bool) : evalF E_r3fit r3fit.H 58 Tryz.f58 [.int .i64 n, .bool h] (asR [.bool]) = r3fitF n h := by kernel_rfl
theorem r3fit_ctr : FnOK Tryz.prog 58 ∧ CtrOK Tryz.prog GL 58 (ctrOf [.int .i64, .bool] [.bool] r3fitF) :=
  fn_ctr (E := E_r3fit) tyLM_ok (.nil) r3fit_inl eqsLM mixedM in58 (fun c _ => told_none rfl c) (fun xs => r3fit_walk xs.1 xs.2.1)
/-! innkeep/innkeepref03.May -/
noncomputable def E_r3may : Env := { ty := tyLM, ctr := [(58, ctrOf [.int .i64, .bool] [.bool] r3fitF), (59, ctrOf [.sl (.int .i64), .bool] [.bool] r3rowF)], inl := [], eqs := [(102, [.int .i64, .int .i64, .int .i64, .int .i64, .int .i64, .int .i64, .int .i64])], glob := GL, L := bigL, get := [] }
noncomputable def r3may.H : Hints := ⟨[], []⟩
noncomputable def r3mayF (c : Cmd) : Option (Bool) := cnd (ilt c.kind 1) (some false) (cnd (ilt 10 c.kind) (some false) (cnd (ilt c.dir 0) (some false) (cnd (ilt 3 c.dir) (some false) (cnd (bnot (ieq c.dir 0)) (cnd (ilt 2 c.kind) (some false) (cnd (ile 3 c.kind) (obind (r3fitF c.item (ile c.kind 7)) (fun x => cnd x (cnd (ieq c.kind 5) (obind (r3fitF c.box true) (fun x_1 => cnd x_1 (cnd (ieq c.kind 2) (obind (r3fitF c.who true) (fun x_2 => cnd x_2 (obind (r3fitF c.pay (ieq c.kind 8)) (fun x_3 => cnd x_3 (obind (r3fitF c.fee (ieq c.kind 8)) (fun x_4 => cnd x_4 (obind (r3rowF c.gives (ieq c.kind 8)) (fun x_5 => cnd x_5 (obind (r3rowF c.wants (ieq c.kind 8)) (fun x_6 => some x_6)) (some false))) (some false))) (some false))) (some false))) (cnd (ieq c.kind 7) (obind (r3fitF c.who true) (fun x_2 => cnd x_2 (obind (r3fitF c.pay (ieq c.kind 8)) (fun x_3 => cnd x_3 (obind (r3fitF c.fee (ieq c.kind 8)) (fun x_4 => cnd x_4 (obind (r3rowF c.gives (ieq c.kind 8)) (fun x_5 => cnd x_5 (obind (r3rowF c.wants (ieq c.kind 8)) (fun x_6 => some x_6)) (some false))) (some false))) (some false))) (some false))) (obind (r3fitF c.who (ieq c.kind 8)) (fun x_2 => cnd x_2 (obind (r3fitF c.pay (ieq c.kind 8)) (fun x_3 => cnd x_3 (obind (r3fitF c.fee (ieq c.kind 8)) (fun x_4 => cnd x_4 (obind (r3rowF c.gives (ieq c.kind 8)) (fun x_5 => cnd x_5 (obind (r3rowF c.wants (ieq c.kind 8)) (fun x_6 => some x_6)) (some false))) (some false))) (some false))) (some false))))) (some false))) (obind (r3fitF c.box (ieq c.kind 6)) (fun x_1 => cnd x_1 (cnd (ieq c.kind 2) (obind (r3fitF c.who true) (fun x_2 => cnd x_2 (obind (r3fitF c.pay (ieq c.kind 8)) (fun x_3 => cnd x_3 (obind (r3fitF c.fee (ieq c.kind 8)) (fun x_4 => cnd x_4 (obind (r3rowF c.gives (ieq c.kind 8)) (fun x_5 => cnd x_5 (obind (r3rowF c.wants (ieq c.kind 8)) (fun x_6 => some x_6)) (some false))) (some false))) (some false))) (some false))) (cnd (ieq c.kind 7) (obind (r3fitF c.who true) (fun x_2 => cnd x_2 (obind (r3fitF c.pay (ieq c.kind 8)) (fun x_3 => cnd x_3 (obind (r3fitF c.fee (ieq c.kind 8)) (fun x_4 => cnd x_4 (obind (r3rowF c.gives (ieq c.kind 8)) (fun x_5 => cnd x_5 (obind (r3rowF c.wants (ieq c.kind 8)) (fun x_6 => some x_6)) (some false))) (some false))) (some false))) (some false))) (obind (r3fitF c.who (ieq c.kind 8)) (fun x_2 => cnd x_2 (obind (r3fitF c.pay (ieq c.kind 8)) (fun x_3 => cnd x_3 (obind (r3fitF c.fee (ieq c.kind 8)) (fun x_4 => cnd x_4 (obind (r3rowF c.gives (ieq c.kind 8)) (fun x_5 => cnd x_5 (obind (r3rowF c.wants (ieq c.kind 8)) (fun x_6 => some x_6)) (some false))) (some false))) (some false))) (some false))))) (some false)))) (some false))) (obind (r3fitF c.item false) (fun x => cnd x (cnd (ieq c.kind 5) (obind (r3fitF c.box true) (fun x_1 => cnd x_1 (cnd (ieq c.kind 2) (obind (r3fitF c.who true) (fun x_2 => cnd x_2 (obind (r3fitF c.pay (ieq c.kind 8)) (fun x_3 => cnd x_3 (obind (r3fitF c.fee (ieq c.kind 8)) (fun x_4 => cnd x_4 (obind (r3rowF c.gives (ieq c.kind 8)) (fun x_5 => cnd x_5 (obind (r3rowF c.wants (ieq c.kind 8)) (fun x_6 => some x_6)) (some false))) (some false))) (some false))) (some false))) (cnd (ieq c.kind 7) (obind (r3fitF c.who true) (fun x_2 => cnd x_2 (obind (r3fitF c.pay (ieq c.kind 8)) (fun x_3 => cnd x_3 (obind (r3fitF c.fee (ieq c.kind 8)) (fun x_4 => cnd x_4 (obind (r3rowF c.gives (ieq c.kind 8)) (fun x_5 => cnd x_5 (obind (r3rowF c.wants (ieq c.kind 8)) (fun x_6 => some x_6)) (some false))) (some false))) (some false))) (some false))) (obind (r3fitF c.who (ieq c.kind 8)) (fun x_2 => cnd x_2 (obind (r3fitF c.pay (ieq c.kind 8)) (fun x_3 => cnd x_3 (obind (r3fitF c.fee (ieq c.kind 8)) (fun x_4 => cnd x_4 (obind (r3rowF c.gives (ieq c.kind 8)) (fun x_5 => cnd x_5 (obind (r3rowF c.wants (ieq c.kind 8)) (fun x_6 => some x_6)) (some false))) (some false))) (some false))) (some false))))) (some false))) (obind (r3fitF c.box (ieq c.kind 6)) (fun x_1 => cnd x_1 (cnd (ieq c.kind 2) (obind (r3fitF c.who true) (fun x_2 => cnd x_2 (obind (r3fitF c.pay (ieq c.kind 8)) (fun x_3 => cnd x_3 (obind (r3fitF c.fee (ieq c.kind 8)) (fun x_4 => cnd x_4 (obind (r3rowF c.gives (ieq c.kind 8)) (fun x_5 => cnd x_5 (obind (r3rowF c.wants (ieq c.kind 8)) (fun x_6 => some x_6)) (some false))) (some false))) (some false))) (some false))) (cnd (ieq c.kind 7) (obind (r3fitF c.who true) (fun x_2 => cnd x_2 (obind (r3fitF c.pay (ieq c.kind 8)) (fun x_3 => cnd x_3 (obind (r3fitF c.fee (ieq c.kind 8)) (fun x_4 => cnd x_4 (obind (r3rowF c.gives (ieq c.kind 8)) (fun x_5 => cnd x_5 (obind (r3rowF c.wants (ieq c.kind 8)) (fun x_6 => some x_6)) (some false))) (some false))) (some false))) (some false))) (obind (r3fitF c.who (ieq c.kind 8)) (fun x_2 => cnd x_2 (obind (r3fitF c.pay (ieq c.kind 8)) (fun x_3 => cnd x_3 (obind (r3fitF c.fee (ieq c.kind 8)) (fun x_4 => cnd x_4 (obind (r3rowF c.gives (ieq c.kind 8)) (fun x_5 => cnd x_5 (obind (r3rowF c.wants (ieq c.kind 8)) (fun x_6 => some x_6)) (some false))) (some false))) (some false))) (some false))))) (some false)))) (some false))))) (cnd (ile 3 c.kind) (obind (r3fitF c.item (ile c.kind 7)) (fun x => cnd x (cnd (ieq c.kind 5) (obind (r3fitF c.box true) (fun x_1 => cnd x_1 (cnd (ieq c.kind 2) (obind (r3fitF c.who true) (fun x_2 => cnd x_2 (obind (r3fitF c.pay (ieq c.kind 8)) (fun x_3 => cnd x_3 (obind (r3fitF c.fee (ieq c.kind 8)) (fun x_4 => cnd x_4 (obind (r3rowF c.gives (ieq c.kind 8)) (fun x_5 => cnd x_5 (obind (r3rowF c.wants (ieq c.kind 8)) (fun x_6 => some x_6)) (some false))) (some false))) (some false))) (some false))) (cnd (ieq c.kind 7) (obind (r3fitF c.who true) (fun x_2 => cnd x_2 (obind (r3fitF c.pay (ieq c.kind 8)) (fun x_3 => cnd x_3 (obind (r3fitF c.fee (ieq c.kind 8)) (fun x_4 => cnd x_4 (obind (r3rowF c.gives (ieq c.kind 8)) (fun x_5 => cnd x_5 (obind (r3rowF c.wants (ieq c.kind 8)) (fun x_6 => some x_6)) (some false))) (some false))) (some false))) (some false))) (obind (r3fitF c.who (ieq c.kind 8)) (fun x_2 => cnd x_2 (obind (r3fitF c.pay (ieq c.kind 8)) (fun x_3 => cnd x_3 (obind (r3fitF c.fee (ieq c.kind 8)) (fun x_4 => cnd x_4 (obind (r3rowF c.gives (ieq c.kind 8)) (fun x_5 => cnd x_5 (obind (r3rowF c.wants (ieq c.kind 8)) (fun x_6 => some x_6)) (some false))) (some false))) (some false))) (some false))))) (some false))) (obind (r3fitF c.box (ieq c.kind 6)) (fun x_1 => cnd x_1 (cnd (ieq c.kind 2) (obind (r3fitF c.who true) (fun x_2 => cnd x_2 (obind (r3fitF c.pay (ieq c.kind 8)) (fun x_3 => cnd x_3 (obind (r3fitF c.fee (ieq c.kind 8)) (fun x_4 => cnd x_4 (obind (r3rowF c.gives (ieq c.kind 8)) (fun x_5 => cnd x_5 (obind (r3rowF c.wants (ieq c.kind 8)) (fun x_6 => some x_6)) (some false))) (some false))) (some false))) (some false))) (cnd (ieq c.kind 7) (obind (r3fitF c.who true) (fun x_2 => cnd x_2 (obind (r3fitF c.pay (ieq c.kind 8)) (fun x_3 => cnd x_3 (obind (r3fitF c.fee (ieq c.kind 8)) (fun x_4 => cnd x_4 (obind (r3rowF c.gives (ieq c.kind 8)) (fun x_5 => cnd x_5 (obind (r3rowF c.wants (ieq c.kind 8)) (fun x_6 => some x_6)) (some false))) (some false))) (some false))) (some false))) (obind (r3fitF c.who (ieq c.kind 8)) (fun x_2 => cnd x_2 (obind (r3fitF c.pay (ieq c.kind 8)) (fun x_3 => cnd x_3 (obind (r3fitF c.fee (ieq c.kind 8)) (fun x_4 => cnd x_4 (obind (r3rowF c.gives (ieq c.kind 8)) (fun x_5 => cnd x_5 (obind (r3rowF c.wants (ieq c.kind 8)) (fun x_6 => some x_6)) (some false))) (some false))) (some false))) (some false))))) (some false)))) (some false))) (obind (r3fitF c.item false) (fun x => cnd x (cnd (ieq c.kind 5) (obind (r3fitF c.box true) (fun x_1 => cnd x_1 (cnd (ieq c.kind 2) (obind (r3fitF c.who true) (fun x_2 => cnd x_2 (obind (r3fitF c.pay (ieq c.kind 8)) (fun x_3 => cnd x_3 (obind (r3fitF c.fee (ieq c.kind 8)) (fun x_4 => cnd x_4 (obind (r3rowF c.gives (ieq c.kind 8)) (fun x_5 => cnd x_5 (obind (r3rowF c.wants (ieq c.kind 8)) (fun x_6 => some x_6)) (some false))) (some false))) (some false))) (some false))) (cnd (ieq c.kind 7) (obind (r3fitF c.who true) (fun x_2 => cnd x_2 (obind (r3fitF c.pay (ieq c.kind 8)) (fun x_3 => cnd x_3 (obind (r3fitF c.fee (ieq c.kind 8)) (fun x_4 => cnd x_4 (obind (r3rowF c.gives (ieq c.kind 8)) (fun x_5 => cnd x_5 (obind (r3rowF c.wants (ieq c.kind 8)) (fun x_6 => some x_6)) (some false))) (some false))) (some false))) (some false))) (obind (r3fitF c.who (ieq c.kind 8)) (fun x_2 => cnd x_2 (obind (r3fitF c.pay (ieq c.kind 8)) (fun x_3 => cnd x_3 (obind (r3fitF c.fee (ieq c.kind 8)) (fun x_4 => cnd x_4 (obind (r3rowF c.gives (ieq c.kind 8)) (fun x_5 => cnd x_5 (obind (r3rowF c.wants (ieq c.kind 8)) (fun x_6 => some x_6)) (some false))) (some false))) (some false))) (some false))))) (some false))) (obind (r3fitF c.box (ieq c.kind 6)) (fun x_1 => cnd x_1 (cnd (ieq c.kind 2) (obind (r3fitF c.who true) (fun x_2 => cnd x_2 (obind (r3fitF c.pay (ieq c.kind 8)) (fun x_3 => cnd x_3 (obind (r3fitF c.fee (ieq c.kind 8)) (fun x_4 => cnd x_4 (obind (r3rowF c.gives (ieq c.kind 8)) (fun x_5 => cnd x_5 (obind (r3rowF c.wants (ieq c.kind 8)) (fun x_6 => some x_6)) (some false))) (some false))) (some false))) (some false))) (cnd (ieq c.kind 7) (obind (r3fitF c.who true) (fun x_2 => cnd x_2 (obind (r3fitF c.pay (ieq c.kind 8)) (fun x_3 => cnd x_3 (obind (r3fitF c.fee (ieq c.kind 8)) (fun x_4 => cnd x_4 (obind (r3rowF c.gives (ieq c.kind 8)) (fun x_5 => cnd x_5 (obind (r3rowF c.wants (ieq c.kind 8)) (fun x_6 => some x_6)) (some false))) (some false))) (some false))) (some false))) (obind (r3fitF c.who (ieq c.kind 8)) (fun x_2 => cnd x_2 (obind (r3fitF c.pay (ieq c.kind 8)) (fun x_3 => cnd x_3 (obind (r3fitF c.fee (ieq c.kind 8)) (fun x_4 => cnd x_4 (obind (r3rowF c.gives (ieq c.kind 8)) (fun x_5 => cnd x_5 (obind (r3rowF c.wants (ieq c.kind 8)) (fun x_6 => some x_6)) (some false))) (some false))) (some false))) (some false))))) (some false)))) (some false))))))))
theorem r3may_inl : InlsOK Tryz.prog E_r3may r3may.H E_r3may.inl := .nil
theorem r3may_walk (c : Cmd) : evalF E_r3may r3may.H 26 Tryz.f26 [.agg (SN.cells .cmd c)] (asR [.bool]) = r3mayF c := by kernel_rfl
theorem r3may_ctr : FnOK Tryz.prog 26 ∧ CtrOK Tryz.prog GL 26 (ctrOf [.st .cmd] [.bool] r3mayF) :=
  fn_ctr (E := E_r3may) tyLM_ok (.cons r3fit_ctr (.cons r3row_ctr .nil)) r3may_inl eqsLM mixedM in26 (fun c _ => told_none rfl c) (fun xs => r3may_walk xs.1)
/-! innkeep/innkeepref03.Few -/
noncomputable def E_r3few : Env := { ty := tyLM, ctr := [], inl := [], eqs := [(102, [.int .i64, .int .i64, .int .i64, .int .i64, .int .i64, .int .i64, .int .i64])], glob := GL, L := bigL, get := [] }
noncomputable def r3few.H : Hints := ⟨[], []⟩
noncomputable def r3fewF (c : Cmd) : Option (Bool) := cnd (ile (ilen c.gives) 40) (some (ile (ilen c.wants) 40)) (some false)
theorem r3few_inl : InlsOK Tryz.prog E_r3few r3few.H E_r3few.inl := .nil
theorem r3few_walk (c : Cmd) : evalF E_r3few r3few.H 22 Tryz.f22 [.agg (SN.cells .cmd c)] (asR [.bool]) = r3fewF c := by kernel_rfl
theorem r3few_ctr : FnOK Tryz.prog 22 ∧ CtrOK Tryz.prog GL 22 (ctrOf [.st .cmd] [.bool] r3fewF) :=
  fn_ctr (E := E_r3few) tyLM_ok (.nil) r3few_inl eqsLM mixedM in22 (fun c _ => told_none rfl c) (fun xs => r3few_walk xs.1)
end Go.Sx
