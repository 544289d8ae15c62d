/-
  commands, walked (printed by wip/dev/gen2.py)
-/
import Derived.Test.YtcpildkbkjeijaaDoorSyK
import Derived.Test.YtcpildkbkjeijaaDoorProg
import Derived.KernelRfl
set_option linter.unusedVariables false
set_option linter.unusedSimpArgs false
namespace Go.Sx
open Go Go.Proofs
def tyLM : List (Nat × TyI) :=
  [(3, ⟨false, 1, 8, [.int .i64 0], some (.int .i64), .int .i64⟩),
   (4, ⟨false, 1, 1, [.bool false], some .bool, .bool⟩),
   (9, ⟨false, 1, 16, [.str []], some .str, .str⟩),
   (23, ⟨false, 1, 24, [.nilsl], some (.sl (.int .i64)), .sl 3⟩),
   (44, ⟨true, 9, 104, [.int .i64 0, .int .i64 0, .int .i64 0, .int .i64 0, .int .i64 0, .nilsl, .int .i64 0, .nilsl, .int .i64 0], some (.st .cmd), .st [(0, 3), (1, 3), (2, 3), (3, 3), (4, 3), (5, 23), (6, 3), (7, 23), (8, 3)]⟩),
   (51, ⟨false, 1, 24, [.nilsl], some (.sl .str), .sl 9⟩),
   (63, ⟨false, 1, 8, [.nilf], none, .func⟩),
   (90, ⟨true, 11, 176, [.str [], .str [], .str [], .str [], .str [], .str [], .str [], .str [], .str [], .str [], .str []], none, .arr 11 9⟩),
   (101, ⟨true, 4, 64, [.str [], .str [], .str [], .str []], none, .arr 4 9⟩),
   (121, ⟨true, 7, 56, [.int .i64 0, .int .i64 0, .int .i64 0, .int .i64 0, .int .i64 0, .int .i64 0, .int .i64 0], none, .st [(0, 3), (1, 3), (2, 3), (3, 3), (4, 3), (5, 3), (6, 3)]⟩)]
theorem tyLM_ok : (tyLM.all fun p => tyOK Tryd.prog p.1 p.2) = true := by kernel_rfl
theorem mixedM : Tryd.prog.follows .mixedOrders = true := by kernel_rfl
theorem eqsLM : EqsOK Tryd.prog [(121, [.int .i64, .int .i64, .int .i64, .int .i64, .int .i64, .int .i64, .int .i64])] := .cons (eqFact_of (P := Tryd.prog) (t := 121) (ks := [.int .i64, .int .i64, .int .i64, .int .i64, .int .i64, .int .i64, .int .i64]) (by kernel_rfl) (by kernel_rfl) (by kernel_rfl)) .nil
theorem in21 : FnIn Tryd.prog 21 Tryd.f21 := .mk Tryd.func21 (by kernel_rfl) (by kernel_rfl)
theorem in24 : FnIn Tryd.prog 24 Tryd.f24 := .mk Tryd.func24 (by kernel_rfl) (by kernel_rfl)
theorem in30 : FnIn Tryd.prog 30 Tryd.f30 := .mk Tryd.func30 (by kernel_rfl) (by kernel_rfl)
theorem in33 : FnIn Tryd.prog 33 Tryd.f33 := .mk Tryd.func33 (by kernel_rfl) (by kernel_rfl)
theorem in34 : FnIn Tryd.prog 34 Tryd.f34 := .mk Tryd.func34 (by kernel_rfl) (by kernel_rfl)
theorem in40 : FnIn Tryd.prog 40 Tryd.f40 := .mk Tryd.func40 (by kernel_rfl) (by kernel_rfl)
theorem in42 : FnIn Tryd.prog 42 Tryd.f42 := .mk Tryd.func42 (by kernel_rfl) (by kernel_rfl)
theorem in47 : FnIn Tryd.prog 47 Tryd.f47 := .mk Tryd.func47 (by kernel_rfl) (by kernel_rfl)
theorem in48 : FnIn Tryd.prog 48 Tryd.f48 := .mk Tryd.func48 (by kernel_rfl) (by kernel_rfl)
theorem in49 : FnIn Tryd.prog 49 Tryd.f49 := .mk Tryd.func49 (by kernel_rfl) (by kernel_rfl)
theorem in52 : FnIn Tryd.prog 52 Tryd.f52 := .mk Tryd.func52 (by kernel_rfl) (by kernel_rfl)
theorem in56 : FnIn Tryd.prog 56 Tryd.f56 := .mk Tryd.func56 (by kernel_rfl) (by kernel_rfl)
theorem in57 : FnIn Tryd.prog 57 Tryd.f57 := .mk Tryd.func57 (by kernel_rfl) (by kernel_rfl)
theorem in63 : FnIn Tryd.prog 63 Tryd.f63 := .mk Tryd.func63 (by kernel_rfl) (by kernel_rfl)
theorem in64 : FnIn Tryd.prog 64 Tryd.f64 := .mk Tryd.func64 (by kernel_rfl) (by kernel_rfl)
theorem in65 : FnIn Tryd.prog 65 Tryd.f65 := .mk Tryd.func65 (by kernel_rfl) (by kernel_rfl)
theorem in66 : FnIn Tryd.prog 66 Tryd.f66 := .mk Tryd.func66 (by kernel_rfl) (by kernel_rfl)
theorem in68 : FnIn Tryd.prog 68 Tryd.f68 := .mk Tryd.func68 (by kernel_rfl) (by kernel_rfl)
theorem in86 : FnIn Tryd.prog 86 Tryd.f86 := .mk Tryd.func86 (by kernel_rfl) (by kernel_rfl)
theorem in87 : FnIn Tryd.prog 87 Tryd.f87 := .mk Tryd.func87 (by kernel_rfl) (by kernel_rfl)
theorem in88 : FnIn Tryd.prog 88 Tryd.f88 := .mk Tryd.func88 (by kernel_rfl) (by kernel_rfl)
theorem in89 : FnIn Tryd.prog 89 Tryd.f89 := .mk Tryd.func89 (by kernel_rfl) (by kernel_rfl)
/-! slices.Index[[]string,string] -/
noncomputable def E_sindex : Env := { ty := tyLM, ctr := [], inl := [], eqs := [(121, [.int .i64, .int .i64, .int .i64, .int .i64, .int .i64, .int .i64, .int .i64])], glob := GL, L := bigL, get := [] }
noncomputable def sindex.lr2.sp : SPat := ⟨19, [0, 1, 7, 8], [.sl .str, .str, .int .i64, .int .i64], [], [], 0⟩
noncomputable def sindex.lr2.es : List (Ex × SPat) := [(.ret, ⟨19, [4], [.int .i64], [], [], 0⟩), (.exit 0, ⟨19, [], [], [], [], 0⟩)]
noncomputable def sindex.lr2.T : ((((List (List UInt8)) × ((List UInt8) × (Int × (Int × Unit)))) × Unit) → Option (((Int × Unit) × Unit) ⊕ (Unit × Unit))) → (((List (List UInt8)) × ((List UInt8) × (Int × (Int × Unit)))) × Unit) → Option (((Int × Unit) × Unit) ⊕ (Unit × Unit)) := fun rec x =>
  cnd (ilt x.1.2.2.2.1 x.1.2.2.1) (obind (lget x.1.1 x.1.2.2.2.1) (fun x_1 => cnd (seq x.1.2.1 x_1) (some (.inl ((x.1.2.2.2.1, ()), ()))) (rec ((x.1.1, (x.1.2.1, (x.1.2.2.1, (wrap .i64 (iadd x.1.2.2.2.1 1), ())))), ())))) (some (.inr ((), ())))
noncomputable def sindex.lr2 : Alt := ⟨sindex.lr2.sp, sindex.lr2.es, 100, sindex.lr2.T⟩
noncomputable def sindex.H : Hints := ⟨[(86, [(2, [sindex.lr2])])], []⟩
noncomputable def sindexF (l : List Str) (s : Str) : Option (Int) := obind (iter sindex.lr2.T bigL (((l, (s, (ilen l, (0, ())))), ()))) (fun x => scase x (fun x => some x.1.1) (fun y => some (-1)))
theorem sindex_r86_0 : Alt.Round E_sindex sindex.H 86 (oblAt sindex.H 86 Tryd.f86 0) sindex.lr2 := by intro rec x; kernel_rfl
theorem sindex_told86 : ∀ c, Tryd.f86.body = some c → ToldC E_sindex sindex.H 86 c := told_of [sindex.lr2] (by kernel_rfl) (fun i hi => match i, hi with | 0, _ => sindex_r86_0 | n + 1, h => absurd h (by simp))
theorem sindex_inl : InlsOK Tryd.prog E_sindex sindex.H E_sindex.inl := .nil
theorem sindex_walk (l : List Str) (s : Str) : evalF E_sindex sindex.H 86 Tryd.f86 [.sl .str l, .str s] (asR [.int .i64]) = sindexF l s := by kernel_rfl
theorem sindex_ctr : FnOK Tryd.prog 86 ∧ CtrOK Tryd.prog GL 86 (ctrOf [.sl .str, .str] [.int .i64] sindexF) :=
  fn_ctr (E := E_sindex) tyLM_ok (.nil) sindex_inl eqsLM mixedM in86 sindex_told86 (fun xs => sindex_walk xs.1 xs.2.1)
/-! slices.Equal[[]int,int] -/
noncomputable def E_iequal : Env := { ty := tyLM, ctr := [], inl := [], eqs := [(121, [.int .i64, .int .i64, .int .i64, .int .i64, .int .i64, .int .i64, .int .i64])], glob := GL, L := bigL, get := [] }
noncomputable def iequal.lr4.sp : SPat := ⟨26, [0, 1, 12, 13], [.sl (.int .i64), .sl (.int .i64), .int .i64, .int .i64], [], [], 0⟩
noncomputable def iequal.lr4.es : List (Ex × SPat) := [(.ret, ⟨26, [4], [.bool], [], [], 0⟩), (.exit 0, ⟨26, [], [], [], [], 0⟩)]
noncomputable def iequal.lr4.T : ((((List Int) × ((List Int) × (Int × (Int × Unit)))) × Unit) → Option (((Bool × Unit) × Unit) ⊕ (Unit × Unit))) → (((List Int) × ((List Int) × (Int × (Int × Unit)))) × Unit) → Option (((Bool × Unit) × Unit) ⊕ (Unit × Unit)) := fun rec x =>
  cnd (ilt x.1.2.2.2.1 x.1.2.2.1) (obind (lget x.1.1 x.1.2.2.2.1) (fun x_1 => obind (lget x.1.2.1 x.1.2.2.2.1) (fun x_2 => cnd (bnot (ieq x_1 x_2)) (some (.inl ((false, ()), ()))) (rec ((x.1.1, (x.1.2.1, (x.1.2.2.1, (wrap .i64 (iadd x.1.2.2.2.1 1), ())))), ()))))) (some (.inr ((), ())))
noncomputable def iequal.lr4 : Alt := ⟨iequal.lr4.sp, iequal.lr4.es, 100, iequal.lr4.T⟩
noncomputable def iequal.H : Hints := ⟨[(40, [(4, [iequal.lr4])])], []⟩
noncomputable def iequalF (a : List Int) (b : List Int) : Option (Bool) := cnd (bnot (ieq (ilen a) (ilen b))) (some false) (obind (iter iequal.lr4.T bigL (((a, (b, (ilen a, (0, ())))), ()))) (fun x => scase x (fun x => some x.1.1) (fun y => some true)))
theorem iequal_r40_0 : Alt.Round E_iequal iequal.H 40 (oblAt iequal.H 40 Tryd.f40 0) iequal.lr4 := by intro rec x; kernel_rfl
theorem iequal_told40 : ∀ c, Tryd.f40.body = some c → ToldC E_iequal iequal.H 40 c := told_of [iequal.lr4] (by kernel_rfl) (fun i hi => match i, hi with | 0, _ => iequal_r40_0 | n + 1, h => absurd h (by simp))
theorem iequal_inl : InlsOK Tryd.prog E_iequal iequal.H E_iequal.inl := .nil
theorem iequal_walk (a : List Int) (b : List Int) : evalF E_iequal iequal.H 40 Tryd.f40 [.sl (.int .i64) a, .sl (.int .i64) b] (asR [.bool]) = iequalF a b := by kernel_rfl
theorem iequal_ctr : FnOK Tryd.prog 40 ∧ CtrOK Tryd.prog GL 40 (ctrOf [.sl (.int .i64), .sl (.int .i64)] [.bool] iequalF) :=
  fn_ctr (E := E_iequal) tyLM_ok (.nil) iequal_inl eqsLM mixedM in40 iequal_told40 (fun xs => iequal_walk xs.1 xs.2.1)
/-! innkeep/cmd.Name -/
noncomputable def E_cname : Env := { ty := tyLM, ctr := [], inl := [(56, Tryd.f56)], eqs := [(121, [.int .i64, .int .i64, .int .i64, .int .i64, .int .i64, .int .i64, .int .i64])], glob := GL, L := bigL, get := [] }
noncomputable def cname.H : Hints := ⟨[], []⟩
noncomputable def cnameF (k : Int) : Option (Str) := cnd (ilt k 0) (some (([] : List UInt8))) (cnd (ile 11 k) (some (([] : List UInt8))) (obind (lget ([([] : List UInt8), ([109, 111, 118, 101] : List UInt8), ([112, 117, 115, 104] : List UInt8), ([103, 101, 116] : List UInt8), ([100, 114, 111, 112] : List UInt8), ([112, 117, 116] : List UInt8), ([116, 97, 107, 101] : List UInt8), ([103, 105, 118, 101] : List UInt8), ([116, 114, 97, 100, 101] : List UInt8), ([108, 111, 111, 107] : List UInt8), ([111, 119, 110] : List UInt8)]) k) (fun x => some x)))
theorem cname_inl : InlsOK Tryd.prog E_cname cname.H E_cname.inl := .cons in56 (fun c _ => told_none rfl c) .nil
theorem cname_walk (k : Int) : evalF E_cname cname.H 30 Tryd.f30 [.int .i64 k] (asR [.str]) = cnameF k := by kernel_rfl
theorem cname_ctr : FnOK Tryd.prog 30 ∧ CtrOK Tryd.prog GL 30 (ctrOf [.int .i64] [.str] cnameF) :=
  fn_ctr (E := E_cname) tyLM_ok (.nil) cname_inl eqsLM mixedM in30 (fun c _ => told_none rfl c) (fun xs => cname_walk xs.1)
/-! innkeep/cmd.Kind -/
noncomputable def E_ckind : Env := { ty := tyLM, ctr := [(86, ctrOf [.sl .str, .str] [.int .i64] sindexF)], inl := [(68, Tryd.f68)], eqs := [(121, [.int .i64, .int .i64, .int .i64, .int .i64, .int .i64, .int .i64, .int .i64])], glob := GL, L := bigL, get := [] }
noncomputable def ckind.H : Hints := ⟨[], []⟩
noncomputable def ckindF (s : Str) : Option (Int × Bool) := obind (sindexF ([([] : List UInt8), ([109, 111, 118, 101] : List UInt8), ([112, 117, 115, 104] : List UInt8), ([103, 101, 116] : List UInt8), ([100, 114, 111, 112] : List UInt8), ([112, 117, 116] : List UInt8), ([116, 97, 107, 101] : List UInt8), ([103, 105, 118, 101] : List UInt8), ([116, 114, 97, 100, 101] : List UInt8), ([108, 111, 111, 107] : List UInt8), ([111, 119, 110] : List UInt8)]) s) (fun x => cnd (seq s (([] : List UInt8))) (some ((0, false))) (cnd (ilt x 0) (some ((0, false))) (some ((x, true)))))
theorem ckind_inl : InlsOK Tryd.prog E_ckind ckind.H E_ckind.inl := .cons in68 (fun c _ => told_none rfl c) .nil
theorem ckind_walk (s : Str) : evalF E_ckind ckind.H 52 Tryd.f52 [.str s] (asR [.int .i64, .bool]) = ckindF s := by kernel_rfl
theorem ckind_ctr : FnOK Tryd.prog 52 ∧ CtrOK Tryd.prog GL 52 (ctrOf [.str] [.int .i64, .bool] ckindF) :=
  fn_ctr (E := E_ckind) tyLM_ok (.cons sindex_ctr .nil) ckind_inl eqsLM mixedM in52 (fun c _ => told_none rfl c) (fun xs => ckind_walk xs.1)
/-! innkeep/cmd.Way -/
noncomputable def E_cway : Env := { ty := tyLM, ctr := [], inl := [(56, Tryd.f56)], eqs := [(121, [.int .i64, .int .i64, .int .i64, .int .i64, .int .i64, .int .i64, .int .i64])], glob := GL, L := bigL, get := [] }
noncomputable def cway.H : Hints := ⟨[], []⟩
noncomputable def cwayF (d : Int) : Option (Str) := cnd (ilt d 0) (some (([] : List UInt8))) (cnd (ile 4 d) (some (([] : List UInt8))) (obind (lget ([([110, 111, 114, 116, 104] : List UInt8), ([101, 97, 115, 116] : List UInt8), ([115, 111, 117, 116, 104] : List UInt8), ([119, 101, 115, 116] : List UInt8)]) d) (fun x => some x)))
theorem cway_inl : InlsOK Tryd.prog E_cway cway.H E_cway.inl := .cons in56 (fun c _ => told_none rfl c) .nil
theorem cway_walk (d : Int) : evalF E_cway cway.H 49 Tryd.f49 [.int .i64 d] (asR [.str]) = cwayF d := by kernel_rfl
theorem cway_ctr : FnOK Tryd.prog 49 ∧ CtrOK Tryd.prog GL 49 (ctrOf [.int .i64] [.str] cwayF) :=
  fn_ctr (E := E_cway) tyLM_ok (.nil) cway_inl eqsLM mixedM in49 (fun c _ => told_none rfl c) (fun xs => cway_walk xs.1)
/-! innkeep/cmd.Dir -/
noncomputable def E_cdir : Env := { ty := tyLM, ctr := [(86, ctrOf [.sl .str, .str] [.int .i64] sindexF)], inl := [(68, Tryd.f68)], eqs := [(121, [.int .i64, .int .i64, .int .i64, .int .i64, .int .i64, .int .i64, .int .i64])], glob := GL, L := bigL, get := [] }
noncomputable def cdir.H : Hints := ⟨[], []⟩
noncomputable def cdirF (s : Str) : Option (Int × Bool) := obind (sindexF ([([110, 111, 114, 116, 104] : List UInt8), ([101, 97, 115, 116] : List UInt8), ([115, 111, 117, 116, 104] : List UInt8), ([119, 101, 115, 116] : List UInt8)]) s) (fun x => cnd (seq s (([] : List UInt8))) (some ((0, false))) (cnd (ilt x 0) (some ((0, false))) (some ((x, true)))))
theorem cdir_inl : InlsOK Tryd.prog E_cdir cdir.H E_cdir.inl := .cons in68 (fun c _ => told_none rfl c) .nil
theorem cdir_walk (s : Str) : evalF E_cdir cdir.H 89 Tryd.f89 [.str s] (asR [.int .i64, .bool]) = cdirF s := by kernel_rfl
theorem cdir_ctr : FnOK Tryd.prog 89 ∧ CtrOK Tryd.prog GL 89 (ctrOf [.str] [.int .i64, .bool] cdirF) :=
  fn_ctr (E := E_cdir) tyLM_ok (.cons sindex_ctr .nil) cdir_inl eqsLM mixedM in89 (fun c _ => told_none rfl c) (fun xs => cdir_walk xs.1)
/-! innkeep/cmd.row -/
noncomputable def E_crow : Env := { ty := tyLM, ctr := [], inl := [(34, Tryd.f34), (57, Tryd.f57), (88, Tryd.f88), (65, Tryd.f65)], eqs := [(121, [.int .i64, .int .i64, .int .i64, .int .i64, .int .i64, .int .i64, .int .i64])], glob := GL, L := bigL, get := [] }
noncomputable def crow.lslicesIndexFuncr2.sp : SPat := ⟨19, [0, 1, 7, 8], [.sl (.int .i64), .func 88 [] [], .int .i64, .int .i64], [], [], 0⟩
noncomputable def crow.lslicesIndexFuncr2.es : List (Ex × SPat) := [(.ret, ⟨19, [4], [.int .i64], [], [], 0⟩), (.exit 0, ⟨19, [], [], [], [], 0⟩)]
noncomputable def crow.lslicesIndexFuncr2.T : ((((List Int) × (Int × (Int × Unit))) × Unit) → Option (((Int × Unit) × Unit) ⊕ (Unit × Unit))) → (((List Int) × (Int × (Int × Unit))) × Unit) → Option (((Int × Unit) × Unit) ⊕ (Unit × Unit)) := fun rec x =>
  cnd (ilt x.1.2.2.1 x.1.2.1) (obind (lget x.1.1 x.1.2.2.1) (fun x_1 => cnd (ile 0 x_1) (cnd (bnot (ile x_1 1073741824)) (some (.inl ((x.1.2.2.1, ()), ()))) (rec ((x.1.1, (x.1.2.1, (wrap .i64 (iadd x.1.2.2.1 1), ()))), ()))) (some (.inl ((x.1.2.2.1, ()), ()))))) (some (.inr ((), ())))
noncomputable def crow.lslicesIndexFuncr2 : Alt := ⟨crow.lslicesIndexFuncr2.sp, crow.lslicesIndexFuncr2.es, 100, crow.lslicesIndexFuncr2.T⟩
noncomputable def crow.H : Hints := ⟨[(57, [(2, [crow.lslicesIndexFuncr2])])], []⟩
noncomputable def crowF (l : List Int) : Option (Bool) := cnd (ile (ilen l) 16) (obind (iter crow.lslicesIndexFuncr2.T bigL (((l, (ilen l, (0, ()))), ()))) (fun x => scase x (fun x => some (bnot (ile 0 x.1.1))) (fun y => some true))) (some false)
theorem crow_r57_0 : Alt.Round E_crow crow.H 57 (oblAt crow.H 57 Tryd.f57 0) crow.lslicesIndexFuncr2 := by intro rec x; kernel_rfl
theorem crow_told57 : ∀ c, Tryd.f57.body = some c → ToldC E_crow crow.H 57 c := told_of [crow.lslicesIndexFuncr2] (by kernel_rfl) (fun i hi => match i, hi with | 0, _ => crow_r57_0 | n + 1, h => absurd h (by simp))
theorem crow_inl : InlsOK Tryd.prog E_crow crow.H E_crow.inl := .cons in34 (fun c _ => told_none rfl c) (.cons in57 crow_told57 (.cons in88 (fun c _ => told_none rfl c) (.cons in65 (fun c _ => told_none rfl c) .nil)))
theorem crow_walk (l : List Int) : evalF E_crow crow.H 66 Tryd.f66 [.sl (.int .i64) l] (asR [.bool]) = crowF l := by kernel_rfl
theorem crow_ctr : FnOK Tryd.prog 66 ∧ CtrOK Tryd.prog GL 66 (ctrOf [.sl (.int .i64)] [.bool] crowF) :=
  fn_ctr (E := E_crow) tyLM_ok (.nil) crow_inl eqsLM mixedM in66 (fun c _ => told_none rfl c) (fun xs => crow_walk xs.1)
/-! innkeep/cmd.of -/
noncomputable def E_cof : Env := { ty := tyLM, ctr := [], inl := [], eqs := [(121, [.int .i64, .int .i64, .int .i64, .int .i64, .int .i64, .int .i64, .int .i64])], glob := GL, L := bigL, get := [] }
noncomputable def cof.H : Hints := ⟨[], []⟩
noncomputable def cofF (c : Cmd) : Option (AV) := some (AV.agg [AV.int .i64 c.kind, AV.int .i64 c.dir, AV.int .i64 c.item, AV.int .i64 c.box, AV.int .i64 c.who, AV.int .i64 c.pay, AV.int .i64 c.fee])
theorem cof_inl : InlsOK Tryd.prog E_cof cof.H E_cof.inl := .nil
theorem cof_walk (c : Cmd) : evalF E_cof cof.H 87 Tryd.f87 [.agg (SN.cells .cmd c)] (fun v => some v) = cofF c := by kernel_rfl
theorem cof_ctr : FnOK Tryd.prog 87 ∧ CtrOK Tryd.prog GL 87 (ctrAV [.st .cmd] cofF) :=
  fn_ctr_av (E := E_cof) tyLM_ok (.nil) cof_inl eqsLM mixedM in87 (fun c _ => told_none rfl c) (fun xs => cof_walk xs.1)
/-! innkeep/cmd.bare -/
noncomputable def E_cbare : Env := { ty := tyLM, ctr := [], inl := [], eqs := [(121, [.int .i64, .int .i64, .int .i64, .int .i64, .int .i64, .int .i64, .int .i64])], glob := GL, L := bigL, get := [] }
noncomputable def cbare.H : Hints := ⟨[], []⟩
noncomputable def cbareF (c : Cmd) : Option (Cmd) := cnd (ieq c.kind 1) (some (⟨c.kind, c.dir, 0, 0, 0, ([] : List Int), 0, ([] : List Int), 0⟩)) (cnd (ieq c.kind 2) (some (⟨c.kind, c.dir, 0, 0, c.who, ([] : List Int), 0, ([] : List Int), 0⟩)) (cnd (ieq c.kind 3) (cnd (ieq c.kind 3) (some (⟨c.kind, 0, c.item, 0, 0, ([] : List Int), 0, ([] : List Int), 0⟩)) (cnd (ieq c.kind 5) (cnd (ieq c.kind 5) (some (⟨c.kind, 0, c.item, c.box, 0, ([] : List Int), 0, ([] : List Int), 0⟩)) (cnd (ieq c.kind 7) (some (⟨c.kind, 0, c.item, 0, c.who, ([] : List Int), 0, ([] : List Int), 0⟩)) (cnd (ieq c.kind 8) (some (⟨c.kind, 0, 0, 0, c.who, c.gives, c.pay, c.wants, c.fee⟩)) (some (⟨c.kind, 0, 0, 0, 0, ([] : List Int), 0, ([] : List Int), 0⟩))))) (cnd (ieq c.kind 6) (some (⟨c.kind, 0, c.item, c.box, 0, ([] : List Int), 0, ([] : List Int), 0⟩)) (cnd (ieq c.kind 7) (some (⟨c.kind, 0, c.item, 0, c.who, ([] : List Int), 0, ([] : List Int), 0⟩)) (cnd (ieq c.kind 8) (some (⟨c.kind, 0, 0, 0, c.who, c.gives, c.pay, c.wants, c.fee⟩)) (some (⟨c.kind, 0, 0, 0, 0, ([] : List Int), 0, ([] : List Int), 0⟩))))))) (cnd (ieq c.kind 4) (some (⟨c.kind, 0, c.item, 0, 0, ([] : List Int), 0, ([] : List Int), 0⟩)) (cnd (ieq c.kind 5) (cnd (ieq c.kind 5) (some (⟨c.kind, 0, c.item, c.box, 0, ([] : List Int), 0, ([] : List Int), 0⟩)) (cnd (ieq c.kind 7) (some (⟨c.kind, 0, c.item, 0, c.who, ([] : List Int), 0, ([] : List Int), 0⟩)) (cnd (ieq c.kind 8) (some (⟨c.kind, 0, 0, 0, c.who, c.gives, c.pay, c.wants, c.fee⟩)) (some (⟨c.kind, 0, 0, 0, 0, ([] : List Int), 0, ([] : List Int), 0⟩))))) (cnd (ieq c.kind 6) (some (⟨c.kind, 0, c.item, c.box, 0, ([] : List Int), 0, ([] : List Int), 0⟩)) (cnd (ieq c.kind 7) (some (⟨c.kind, 0, c.item, 0, c.who, ([] : List Int), 0, ([] : List Int), 0⟩)) (cnd (ieq c.kind 8) (some (⟨c.kind, 0, 0, 0, c.who, c.gives, c.pay, c.wants, c.fee⟩)) (some (⟨c.kind, 0, 0, 0, 0, ([] : List Int), 0, ([] : List Int), 0⟩)))))))))
theorem cbare_inl : InlsOK Tryd.prog E_cbare cbare.H E_cbare.inl := .nil
theorem cbare_walk (c : Cmd) : evalF E_cbare cbare.H 64 Tryd.f64 [.agg (SN.cells .cmd c)] (asR [.st .cmd]) = cbareF c := by kernel_rfl
theorem cbare_ctr : FnOK Tryd.prog 64 ∧ CtrOK Tryd.prog GL 64 (ctrOf [.st .cmd] [.st .cmd] cbareF) :=
  fn_ctr (E := E_cbare) tyLM_ok (.nil) cbare_inl eqsLM mixedM in64 (fun c _ => told_none rfl c) (fun xs => cbare_walk xs.1)
/-! innkeep/cmd.Same -/
noncomputable def E_csame : Env := { ty := tyLM, ctr := [(87, ctrAV [.st .cmd] cofF), (40, ctrOf [.sl (.int .i64), .sl (.int .i64)] [.bool] iequalF)], inl := [], eqs := [(121, [.int .i64, .int .i64, .int .i64, .int .i64, .int .i64, .int .i64, .int .i64])], glob := GL, L := bigL, get := [] }
noncomputable def csame.H : Hints := ⟨[], []⟩
noncomputable def csameF (a : Cmd) (b : Cmd) : Option (Bool) := cnd (band (ieq a.kind b.kind) (band (ieq a.dir b.dir) (band (ieq a.item b.item) (band (ieq a.box b.box) (band (ieq a.who b.who) (band (ieq a.pay b.pay) (ieq a.fee b.fee))))))) (obind (iequalF a.gives b.gives) (fun x => cnd x (obind (iequalF a.wants b.wants) (fun x_1 => some x_1)) (some false))) (some false)
theorem csame_inl : InlsOK Tryd.prog E_csame csame.H E_csame.inl := .nil
theorem csame_walk (a : Cmd) (b : Cmd) : evalF E_csame csame.H 63 Tryd.f63 [.agg (SN.cells .cmd a), .agg (SN.cells .cmd b)] (asR [.bool]) = csameF a b := by kernel_rfl
theorem csame_ctr : FnOK Tryd.prog 63 ∧ CtrOK Tryd.prog GL 63 (ctrOf [.st .cmd, .st .cmd] [.bool] csameF) :=
  fn_ctr (E := E_csame) tyLM_ok (.cons cof_ctr (.cons iequal_ctr .nil)) csame_inl eqsLM mixedM in63 (fun c _ => told_none rfl c) (fun xs => csame_walk xs.1 xs.2.1)
/-! innkeep/cmd.May -/
noncomputable def E_cmay : Env := { ty := tyLM, ctr := [(30, ctrOf [.int .i64] [.str] cnameF), (49, ctrOf [.int .i64] [.str] cwayF), (63, ctrOf [.st .cmd, .st .cmd] [.bool] csameF), (64, ctrOf [.st .cmd] [.st .cmd] cbareF), (66, ctrOf [.sl (.int .i64)] [.bool] crowF)], inl := [(65, Tryd.f65)], eqs := [(121, [.int .i64, .int .i64, .int .i64, .int .i64, .int .i64, .int .i64, .int .i64])], glob := GL, L := bigL, get := [] }
noncomputable def cmay.H : Hints := ⟨[], []⟩
noncomputable def cmayF (c : Cmd) : Option (Bool) := obind (cnameF c.kind) (fun x => cnd (bnot (seq x (([] : List UInt8)))) (obind (cbareF (⟨c.kind, c.dir, c.item, c.box, c.who, c.gives, c.pay, c.wants, c.fee⟩)) (fun x_1 => obind (csameF (⟨c.kind, c.dir, c.item, c.box, c.who, c.gives, c.pay, c.wants, c.fee⟩) (⟨x_1.kind, x_1.dir, x_1.item, x_1.box, x_1.who, x_1.gives, x_1.pay, x_1.wants, x_1.fee⟩)) (fun x_2 => cnd x_2 (obind (cwayF c.dir) (fun x_3 => cnd (bnot (seq x_3 (([] : List UInt8)))) (cnd (ile 0 c.item) (cnd (ile c.item 1073741824) (cnd (ile 0 c.box) (cnd (ile c.box 1073741824) (cnd (ile 0 c.who) (cnd (ile c.who 1073741824) (cnd (ile 0 c.pay) (cnd (ile c.pay 1073741824) (cnd (ile 0 c.fee) (cnd (ile c.fee 1073741824) (obind (crowF c.gives) (fun x_4 => cnd x_4 (obind (crowF c.wants) (fun x_5 => some x_5)) (some false))) (some false)) (some false)) (some false)) (some false)) (some false)) (some false)) (some false)) (some false)) (some false)) (some false)) (some false))) (some false)))) (some false))
theorem cmay_inl : InlsOK Tryd.prog E_cmay cmay.H E_cmay.inl := .cons in65 (fun c _ => told_none rfl c) .nil
theorem cmay_walk (c : Cmd) : evalF E_cmay cmay.H 48 Tryd.f48 [.agg (SN.cells .cmd c)] (asR [.bool]) = cmayF c := by kernel_rfl
theorem cmay_ctr : FnOK Tryd.prog 48 ∧ CtrOK Tryd.prog GL 48 (ctrOf [.st .cmd] [.bool] cmayF) :=
  fn_ctr (E := E_cmay) tyLM_ok (.cons cname_ctr (.cons cway_ctr (.cons csame_ctr (.cons cbare_ctr (.cons crow_ctr .nil))))) cmay_inl eqsLM mixedM in48 (fun c _ => told_none rfl c) (fun xs => cmay_walk xs.1)
/-! innkeep/innkeepref03.Name -/
noncomputable def E_r3name : Env := { ty := tyLM, ctr := [], inl := [], eqs := [(121, [.int .i64, .int .i64, .int .i64, .int .i64, .int .i64, .int .i64, .int .i64])], glob := GL, L := bigL, get := [] }
noncomputable def r3name.H : Hints := ⟨[], []⟩
noncomputable def r3nameF (k : Int) : Option (Str) := cnd (ilt k 1) (some (([] : List UInt8))) (cnd (ilt 10 k) (some (([] : List UInt8))) (cnd (ile 0 k) (cnd (ilt k 11) (obind (lget ([([] : List UInt8), ([109, 111, 118, 101] : List UInt8), ([112, 117, 115, 104] : List UInt8), ([103, 101, 116] : List UInt8), ([100, 114, 111, 112] : List UInt8), ([112, 117, 116] : List UInt8), ([116, 97, 107, 101] : List UInt8), ([103, 105, 118, 101] : List UInt8), ([116, 114, 97, 100, 101] : List UInt8), ([108, 111, 111, 107] : List UInt8), ([111, 119, 110] : List UInt8)]) k) (fun x => some x)) none) none))
theorem r3name_inl : InlsOK Tryd.prog E_r3name r3name.H E_r3name.inl := .nil
theorem r3name_walk (k : Int) : evalF E_r3name r3name.H 33 Tryd.f33 [.int .i64 k] (asR [.str]) = r3nameF k := by kernel_rfl
theorem r3name_ctr : FnOK Tryd.prog 33 ∧ CtrOK Tryd.prog GL 33 (ctrOf [.int .i64] [.str] r3nameF) :=
  fn_ctr (E := E_r3name) tyLM_ok (.nil) r3name_inl eqsLM mixedM in33 (fun c _ => told_none rfl c) (fun xs => r3name_walk xs.1)
/-! innkeep/innkeepref03.Kind -/
noncomputable def E_r3kind : Env := { ty := tyLM, ctr := [(33, ctrOf [.int .i64] [.str] r3nameF)], inl := [], eqs := [(121, [.int .i64, .int .i64, .int .i64, .int .i64, .int .i64, .int .i64, .int .i64])], glob := GL, L := bigL, get := [] }
noncomputable def r3kind.lr2.sp : SPat := ⟨14, [0, 4], [.str, .int .i64], [], [], 0⟩
noncomputable def r3kind.lr2.es : List (Ex × SPat) := [(.ret, ⟨14, [2, 3], [.int .i64, .bool], [], [], 0⟩), (.exit 0, ⟨14, [], [], [], [], 0⟩)]
noncomputable def r3kind.lr2.T : ((((List UInt8) × (Int × Unit)) × Unit) → Option (((Int × (Bool × Unit)) × Unit) ⊕ (Unit × Unit))) → (((List UInt8) × (Int × Unit)) × Unit) → Option (((Int × (Bool × Unit)) × Unit) ⊕ (Unit × Unit)) := fun rec x =>
  cnd (ile x.1.2.1 10) (obind (r3nameF x.1.2.1) (fun x_1 => cnd (seq x_1 x.1.1) (some (.inl ((x.1.2.1, (true, ())), ()))) (rec ((x.1.1, (wrap .i64 (iadd x.1.2.1 1), ())), ())))) (some (.inr ((), ())))
noncomputable def r3kind.lr2 : Alt := ⟨r3kind.lr2.sp, r3kind.lr2.es, 100, r3kind.lr2.T⟩
noncomputable def r3kind.H : Hints := ⟨[(47, [(2, [r3kind.lr2])])], []⟩
noncomputable def r3kindF (s : Str) : Option (Int × Bool) := obind (iter r3kind.lr2.T bigL (((s, (1, ())), ()))) (fun x => scase x (fun x => some ((x.1.1, x.1.2.1))) (fun y => some ((0, false))))
theorem r3kind_r47_0 : Alt.Round E_r3kind r3kind.H 47 (oblAt r3kind.H 47 Tryd.f47 0) r3kind.lr2 := by intro rec x; kernel_rfl
theorem r3kind_told47 : ∀ c, Tryd.f47.body = some c → ToldC E_r3kind r3kind.H 47 c := told_of [r3kind.lr2] (by kernel_rfl) (fun i hi => match i, hi with | 0, _ => r3kind_r47_0 | n + 1, h => absurd h (by simp))
theorem r3kind_inl : InlsOK Tryd.prog E_r3kind r3kind.H E_r3kind.inl := .nil
theorem r3kind_walk (s : Str) : evalF E_r3kind r3kind.H 47 Tryd.f47 [.str s] (asR [.int .i64, .bool]) = r3kindF s := by kernel_rfl
theorem r3kind_ctr : FnOK Tryd.prog 47 ∧ CtrOK Tryd.prog GL 47 (ctrOf [.str] [.int .i64, .bool] r3kindF) :=
  fn_ctr (E := E_r3kind) tyLM_ok (.cons r3name_ctr .nil) r3kind_inl eqsLM mixedM in47 r3kind_told47 (fun xs => r3kind_walk xs.1)
/-! innkeep/innkeepref03.Ints -/
noncomputable def E_r3ints : Env := { ty := tyLM, ctr := [], inl := [], eqs := [(121, [.int .i64, .int .i64, .int .i64, .int .i64, .int .i64, .int .i64, .int .i64])], glob := GL, L := bigL, get := [] }
noncomputable def r3ints.lr4.sp : SPat := ⟨26, [0, 1, 5], [.sl (.int .i64), .sl (.int .i64), .int .i64], [], [], 0⟩
noncomputable def r3ints.lr4.es : List (Ex × SPat) := [(.ret, ⟨26, [4], [.bool], [], [], 0⟩), (.exit 0, ⟨26, [], [], [], [], 0⟩)]
noncomputable def r3ints.lr4.T : ((((List Int) × ((List Int) × (Int × Unit))) × Unit) → Option (((Bool × Unit) × Unit) ⊕ (Unit × Unit))) → (((List Int) × ((List Int) × (Int × Unit))) × Unit) → Option (((Bool × Unit) × Unit) ⊕ (Unit × Unit)) := fun rec x =>
  cnd (ilt x.1.2.2.1 (ilen x.1.1)) (obind (lget x.1.1 x.1.2.2.1) (fun x_1 => obind (lget x.1.2.1 x.1.2.2.1) (fun x_2 => cnd (bnot (ieq x_1 x_2)) (some (.inl ((false, ()), ()))) (rec ((x.1.1, (x.1.2.1, (wrap .i64 (iadd x.1.2.2.1 1), ()))), ()))))) (some (.inr ((), ())))
noncomputable def r3ints.lr4 : Alt := ⟨r3ints.lr4.sp, r3ints.lr4.es, 100, r3ints.lr4.T⟩
noncomputable def r3ints.H : Hints := ⟨[(42, [(4, [r3ints.lr4])])], []⟩
noncomputable def r3intsF (a : List Int) (b : List Int) : Option (Bool) := cnd (bnot (ieq (ilen a) (ilen b))) (some false) (obind (iter r3ints.lr4.T bigL (((a, (b, (0, ()))), ()))) (fun x => scase x (fun x => some x.1.1) (fun y => some true)))
theorem r3ints_r42_0 : Alt.Round E_r3ints r3ints.H 42 (oblAt r3ints.H 42 Tryd.f42 0) r3ints.lr4 := by intro rec x; kernel_rfl
theorem r3ints_told42 : ∀ c, Tryd.f42.body = some c → ToldC E_r3ints r3ints.H 42 c := told_of [r3ints.lr4] (by kernel_rfl) (fun i hi => match i, hi with | 0, _ => r3ints_r42_0 | n + 1, h => absurd h (by simp))
theorem r3ints_inl : InlsOK Tryd.prog E_r3ints r3ints.H E_r3ints.inl := .nil
theorem r3ints_walk (a : List Int) (b : List Int) : evalF E_r3ints r3ints.H 42 Tryd.f42 [.sl (.int .i64) a, .sl (.int .i64) b] (asR [.bool]) = r3intsF a b := by kernel_rfl
theorem r3ints_ctr : FnOK Tryd.prog 42 ∧ CtrOK Tryd.prog GL 42 (ctrOf [.sl (.int .i64), .sl (.int .i64)] [.bool] r3intsF) :=
  fn_ctr (E := E_r3ints) tyLM_ok (.nil) r3ints_inl eqsLM mixedM in42 r3ints_told42 (fun xs => r3ints_walk xs.1 xs.2.1)
/-! innkeep/innkeepref03.Same -/
noncomputable def E_r3same : Env := { ty := tyLM, ctr := [(42, ctrOf [.sl (.int .i64), .sl (.int .i64)] [.bool] r3intsF)], inl := [], eqs := [(121, [.int .i64, .int .i64, .int .i64, .int .i64, .int .i64, .int .i64, .int .i64])], glob := GL, L := bigL, get := [] }
noncomputable def r3same.H : Hints := ⟨[], []⟩
noncomputable def r3sameF (a : Cmd) (b : Cmd) : Option (Bool) := cnd (ieq a.kind b.kind) (cnd (ieq a.dir b.dir) (cnd (ieq a.item b.item) (cnd (ieq a.box b.box) (cnd (ieq a.who b.who) (cnd (ieq a.pay b.pay) (cnd (ieq a.fee b.fee) (obind (r3intsF a.gives b.gives) (fun x => cnd x (obind (r3intsF a.wants b.wants) (fun x_1 => some x_1)) (some false))) (some false)) (some false)) (some false)) (some false)) (some false)) (some false)) (some false)
theorem r3same_inl : InlsOK Tryd.prog E_r3same r3same.H E_r3same.inl := .nil
theorem r3same_walk (a : Cmd) (b : Cmd) : evalF E_r3same r3same.H 24 Tryd.f24 [.agg (SN.cells .cmd a), .agg (SN.cells .cmd b)] (asR [.bool]) = r3sameF a b := by kernel_rfl
theorem r3same_ctr : FnOK Tryd.prog 24 ∧ CtrOK Tryd.prog GL 24 (ctrOf [.st .cmd, .st .cmd] [.bool] r3sameF) :=
  fn_ctr (E := E_r3same) tyLM_ok (.cons r3ints_ctr .nil) r3same_inl eqsLM mixedM in24 (fun c _ => told_none rfl c) (fun xs => r3same_walk xs.1 xs.2.1)
/-! innkeep/innkeepref03.Few -/
noncomputable def E_r3few : Env := { ty := tyLM, ctr := [], inl := [], eqs := [(121, [.int .i64, .int .i64, .int .i64, .int .i64, .int .i64, .int .i64, .int .i64])], glob := GL, L := bigL, get := [] }
noncomputable def r3few.H : Hints := ⟨[], []⟩
noncomputable def r3fewF (c : Cmd) : Option (Bool) := cnd (ile (ilen c.gives) 40) (some (ile (ilen c.wants) 40)) (some false)
theorem r3few_inl : InlsOK Tryd.prog E_r3few r3few.H E_r3few.inl := .nil
theorem r3few_walk (c : Cmd) : evalF E_r3few r3few.H 21 Tryd.f21 [.agg (SN.cells .cmd c)] (asR [.bool]) = r3fewF c := by kernel_rfl
theorem r3few_ctr : FnOK Tryd.prog 21 ∧ CtrOK Tryd.prog GL 21 (ctrOf [.st .cmd] [.bool] r3fewF) :=
  fn_ctr (E := E_r3few) tyLM_ok (.nil) r3few_inl eqsLM mixedM in21 (fun c _ => told_none rfl c) (fun xs => r3few_walk xs.1)
end Go.Sx
