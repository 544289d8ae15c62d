/-
  commands, walked (printed by wip/dev/gen2.py)
-/
import Derived.Test.YtcpabdpbldmmmaaGreatDoorLyC
import Derived.Test.YtcpabdpbldmmmaaGreatDoorSxBaseD
import Derived.Test.YtcpabdpbldmmmaaGreatDoorProg
import Derived.KernelRfl
set_option linter.unusedVariables false
set_option linter.unusedSimpArgs false
namespace Go.Sx
open Go Go.Proofs
def Zp : List (Nat × TyI) :=
 [(3, ⟨false, 1, 8, [.I 0], some .I, .I⟩),
  (4, ⟨false, 1, 1, [.bool false], some .bool, .bool⟩),
  (9, ⟨false, 1, 16, [.str []], some .str, .str⟩),
  (23, ⟨false, 1, 24, [.nilsl], some (.sl .I), .sl 3⟩),
  (37, ⟨true, 9, 104, [.I 0, .I 0, .I 0, .I 0, .I 0, .nilsl, .I 0, .nilsl, .I 0], some (.st .cmd), .st [(0, 3), (1, 3), (2, 3), (3, 3), (4, 3), (5, 23), (6, 3), (7, 23), (8, 3)]⟩),
  (68, ⟨false, 1, 8, [.nilf], none, .func⟩),
  (116, ⟨false, 1, 24, [.nilsl], some (.sl .str), .sl 9⟩),
  (117, ⟨true, 11, 176, [.str [], .str [], .str [], .str [], .str [], .str [], .str [], .str [], .str [], .str [], .str []], none, .arr 11 9⟩),
  (119, ⟨true, 7, 56, [.I 0, .I 0, .I 0, .I 0, .I 0, .I 0, .I 0], none, .st [(0, 3), (1, 3), (2, 3), (3, 3), (4, 3), (5, 3), (6, 3)]⟩),
  (121, ⟨true, 4, 64, [.str [], .str [], .str [], .str []], none, .arr 4 9⟩)]
theorem za : (Zp.all fun p => Zo Tryz.prog p.1 p.2) = true := by kernel_rfl
theorem zQ : Tryz.prog.follows .mixedOrders = true := by kernel_rfl
theorem gD : EqsOK Tryz.prog [(119, [.I, .I, .I, .I, .I, .I, .I])] := .cons (vd (P := Tryz.prog) (t := 119) (ks := [.I, .I, .I, .I, .I, .I, .I]) (by kernel_rfl) (by kernel_rfl) (by kernel_rfl)) .nil
theorem in13 : FnIn Tryz.prog 13 Tryz.f13 := .mk Tryz.func13 (by kernel_rfl) (by kernel_rfl)
theorem in17 : FnIn Tryz.prog 17 Tryz.f17 := .mk Tryz.func17 (by kernel_rfl) (by kernel_rfl)
theorem in29 : FnIn Tryz.prog 29 Tryz.f29 := .mk Tryz.func29 (by kernel_rfl) (by kernel_rfl)
theorem in39 : FnIn Tryz.prog 39 Tryz.f39 := .mk Tryz.func39 (by kernel_rfl) (by kernel_rfl)
theorem in41 : FnIn Tryz.prog 41 Tryz.f41 := .mk Tryz.func41 (by kernel_rfl) (by kernel_rfl)
theorem in55 : FnIn Tryz.prog 55 Tryz.f55 := .mk Tryz.func55 (by kernel_rfl) (by kernel_rfl)
theorem in56 : FnIn Tryz.prog 56 Tryz.f56 := .mk Tryz.func56 (by kernel_rfl) (by kernel_rfl)
theorem in57 : FnIn Tryz.prog 57 Tryz.f57 := .mk Tryz.func57 (by kernel_rfl) (by kernel_rfl)
theorem in58 : FnIn Tryz.prog 58 Tryz.f58 := .mk Tryz.func58 (by kernel_rfl) (by kernel_rfl)
theorem in59 : FnIn Tryz.prog 59 Tryz.f59 := .mk Tryz.func59 (by kernel_rfl) (by kernel_rfl)
theorem in60 : FnIn Tryz.prog 60 Tryz.f60 := .mk Tryz.func60 (by kernel_rfl) (by kernel_rfl)
theorem in81 : FnIn Tryz.prog 81 Tryz.f81 := .mk Tryz.func81 (by kernel_rfl) (by kernel_rfl)
theorem in82 : FnIn Tryz.prog 82 Tryz.f82 := .mk Tryz.func82 (by kernel_rfl) (by kernel_rfl)
theorem in93 : FnIn Tryz.prog 93 Tryz.f93 := .mk Tryz.func93 (by kernel_rfl) (by kernel_rfl)
theorem in94 : FnIn Tryz.prog 94 Tryz.f94 := .mk Tryz.func94 (by kernel_rfl) (by kernel_rfl)
theorem in95 : FnIn Tryz.prog 95 Tryz.f95 := .mk Tryz.func95 (by kernel_rfl) (by kernel_rfl)
theorem in96 : FnIn Tryz.prog 96 Tryz.f96 := .mk Tryz.func96 (by kernel_rfl) (by kernel_rfl)
theorem in137 : FnIn Tryz.prog 137 Tryz.f137 := .mk Tryz.func137 (by kernel_rfl) (by kernel_rfl)
noncomputable def gP : Env := { ty := Zp, ctr := [], inl := [], eqs := [(119, [.I, .I, .I, .I, .I, .I, .I])], glob := GL, L := ql, get := [] }
noncomputable def iequal.lr4.sp : SPat := ⟨26, [0, 1, 12, 13], [.sl .I, .sl .I, .I, .I], [], [], 0⟩
noncomputable def iequal.lr4.es : List (Ex × SPat) := [(.ret, ⟨26, [4], [.bool], [], [], 0⟩), (.exit 0, ⟨26, [], [], [], [], 0⟩)]
noncomputable def iequal.lr4.T : ((((List Int) × ((List Int) × (Int × (Int × Unit)))) × Unit) → Option (((Bool × Unit) × Unit) ⊕ (Unit × Unit))) → (((List Int) × ((List Int) × (Int × (Int × Unit)))) × Unit) → Option (((Bool × Unit) × Unit) ⊕ (Unit × Unit)) := fun rec x =>
 cnd (ilt x.1.2.2.2.1 x.1.2.2.1) (obind (lget x.1.1 x.1.2.2.2.1) (fun x_1 => obind (lget x.1.2.1 x.1.2.2.2.1) (fun x_2 => cnd (bnot (ieq x_1 x_2)) (some (.inl ((false, ()), ()))) (rec ((x.1.1, (x.1.2.1, (x.1.2.2.1, (wrap .i64 (iadd x.1.2.2.2.1 1), ())))), ()))))) (some (.inr ((), ())))
noncomputable def iequal.lr4 : Alt := ⟨iequal.lr4.sp, iequal.lr4.es, 100, iequal.lr4.T⟩
noncomputable def iequal.H : Hints := ⟨[(39, [(4, [iequal.lr4])])], []⟩
noncomputable def kV (a : List Int) (b : List Int) : Option (Bool) := cnd (bnot (ieq (qh a) (qh b))) (some false) (obind (qt iequal.lr4.T ql (((a, (b, (qh a, (0, ())))), ()))) (fun x => scase x (fun x_1 => some x_1.1.1) (fun x_1 => some true)))
theorem DP : Alt.Round gP iequal.H 39 (qG iequal.H 39 Tryz.f39 0) iequal.lr4 := by intro rec x; kernel_rfl
theorem Y6 : ∀ c, Tryz.f39.body = some c → ToldC gP iequal.H 39 c := qI [iequal.lr4] (by kernel_rfl) (fun i hi => match i, hi with | 0, _ => DP | n + 1, h => absurd h (by simp))
theorem qcc : InlsOK Tryz.prog gP iequal.H gP.inl := .nil
theorem NN (a : List Int) (b : List Int) : qx gP iequal.H 39 Tryz.f39 [.sl .I a, .sl .I b] (asR [.bool]) = kV a b := by kernel_rfl
theorem UA : FnOK Tryz.prog 39 ∧ CtrOK Tryz.prog GL 39 (qj [.sl .I, .sl .I] [.bool] kV) :=
 qv (E := gP) za (.nil) qcc gD zQ in39 Y6 (fun xs => NN xs.1 xs.2.1)
noncomputable def G5 : Env := { ty := Zp, ctr := [], inl := [(93, Tryz.f93)], eqs := [(119, [.I, .I, .I, .I, .I, .I, .I])], glob := GL, L := ql, get := [] }
noncomputable def cname.H : Hints := ⟨[], []⟩
noncomputable def KZ (k : Int) : Option (Str) := cnd (ilt k 0) (some (([] : List UInt8))) (cnd (ile 11 k) (some (([] : List UInt8))) (obind (lget ([([] : List UInt8), ([109, 111, 118, 101] : List UInt8), ([112, 117, 115, 104] : List UInt8), ([103, 101, 116] : List UInt8), ([100, 114, 111, 112] : List UInt8), ([112, 117, 116] : List UInt8), ([116, 97, 107, 101] : List UInt8), ([103, 105, 118, 101] : List UInt8), ([116, 114, 97, 100, 101] : List UInt8), ([108, 111, 111, 107] : List UInt8), ([111, 119, 110] : List UInt8)]) k) (fun x => some x)))
theorem qh1 : InlsOK Tryz.prog G5 cname.H G5.inl := .cons in93 (fun c _ => qi rfl c) .nil
theorem qc2 (k : Int) : qx G5 cname.H 55 Tryz.f55 [.I k] (asR [.str]) = KZ k := by kernel_rfl
theorem qh2 : FnOK Tryz.prog 55 ∧ CtrOK Tryz.prog GL 55 (qj [.I] [.str] KZ) :=
 qv (E := G5) za (.nil) qh1 gD zQ in55 (fun c _ => qi rfl c) (fun xs => qc2 xs.1)
noncomputable def Rt : Env := { ty := Zp, ctr := [], inl := [(93, Tryz.f93)], eqs := [(119, [.I, .I, .I, .I, .I, .I, .I])], glob := GL, L := ql, get := [] }
noncomputable def cway.H : Hints := ⟨[], []⟩
noncomputable def BA (d : Int) : Option (Str) := cnd (ilt d 0) (some (([] : List UInt8))) (cnd (ile 4 d) (some (([] : List UInt8))) (obind (lget ([([110, 111, 114, 116, 104] : List UInt8), ([101, 97, 115, 116] : List UInt8), ([115, 111, 117, 116, 104] : List UInt8), ([119, 101, 115, 116] : List UInt8)]) d) (fun x => some x)))
theorem qlp : InlsOK Tryz.prog Rt cway.H Rt.inl := .cons in93 (fun c _ => qi rfl c) .nil
theorem qhu (d : Int) : qx Rt cway.H 58 Tryz.f58 [.I d] (asR [.str]) = BA d := by kernel_rfl
theorem qlq : FnOK Tryz.prog 58 ∧ CtrOK Tryz.prog GL 58 (qj [.I] [.str] BA) :=
 qv (E := Rt) za (.nil) qlp gD zQ in58 (fun c _ => qi rfl c) (fun xs => qhu xs.1)
noncomputable def Vh : Env := { ty := Zp, ctr := [], inl := [(95, Tryz.f95), (137, Tryz.f137), (96, Tryz.f96), (59, Tryz.f59)], eqs := [(119, [.I, .I, .I, .I, .I, .I, .I])], glob := GL, L := ql, get := [] }
noncomputable def crow.l1.sp : SPat := ⟨19, [0, 1, 7, 8], [.sl .I, .func 96 [] [], .I, .I], [], [], 0⟩
noncomputable def crow.l1.es : List (Ex × SPat) := [(.ret, ⟨19, [4], [.I], [], [], 0⟩), (.exit 0, ⟨19, [], [], [], [], 0⟩)]
noncomputable def crow.l1.T : ((((List Int) × (Int × (Int × Unit))) × Unit) → Option (((Int × Unit) × Unit) ⊕ (Unit × Unit))) → (((List Int) × (Int × (Int × Unit))) × Unit) → Option (((Int × Unit) × Unit) ⊕ (Unit × Unit)) := fun rec x =>
 cnd (ilt x.1.2.2.1 x.1.2.1) (obind (lget x.1.1 x.1.2.2.1) (fun x_1 => cnd (ile 0 x_1) (cnd (bnot (ile x_1 1073741824)) (some (.inl ((x.1.2.2.1, ()), ()))) (rec ((x.1.1, (x.1.2.1, (wrap .i64 (iadd x.1.2.2.1 1), ()))), ()))) (some (.inl ((x.1.2.2.1, ()), ()))))) (some (.inr ((), ())))
noncomputable def crow.l1 : Alt := ⟨crow.l1.sp, crow.l1.es, 100, crow.l1.T⟩
noncomputable def crow.H : Hints := ⟨[(137, [(2, [crow.l1])])], []⟩
noncomputable def UU (l : List Int) : Option (Bool) := cnd (ile (qh l) 16) (obind (qt crow.l1.T ql (((l, (qh l, (0, ()))), ()))) (fun x => scase x (fun x_1 => some (bnot (ile 0 x_1.1.1))) (fun x_1 => some true))) (some false)
theorem Mn : Alt.Round Vh crow.H 137 (qG crow.H 137 Tryz.f137 0) crow.l1 := by intro rec x; kernel_rfl
theorem Rf : ∀ c, Tryz.f137.body = some c → ToldC Vh crow.H 137 c := qI [crow.l1] (by kernel_rfl) (fun i hi => match i, hi with | 0, _ => Mn | n + 1, h => absurd h (by simp))
theorem qlu : InlsOK Tryz.prog Vh crow.H Vh.inl := .cons in95 (fun c _ => qi rfl c) (.cons in137 Rf (.cons in96 (fun c _ => qi rfl c) (.cons in59 (fun c _ => qi rfl c) .nil)))
theorem qh0 (l : List Int) : qx Vh crow.H 60 Tryz.f60 [.sl .I l] (asR [.bool]) = UU l := by kernel_rfl
theorem qlv : FnOK Tryz.prog 60 ∧ CtrOK Tryz.prog GL 60 (qj [.sl .I] [.bool] UU) :=
 qv (E := Vh) za (.nil) qlu gD zQ in60 (fun c _ => qi rfl c) (fun xs => qh0 xs.1)
noncomputable def qe0 : Env := { ty := Zp, ctr := [], inl := [], eqs := [(119, [.I, .I, .I, .I, .I, .I, .I])], glob := GL, L := ql, get := [] }
noncomputable def cof.H : Hints := ⟨[], []⟩
noncomputable def cofF (c : Cmd) : Option (AV) := some (AV.agg [AV.int .i64 c.kind, AV.int .i64 c.dir, AV.int .i64 c.item, AV.int .i64 c.box, AV.int .i64 c.who, AV.int .i64 c.pay, AV.int .i64 c.fee])
theorem cof_inl : InlsOK Tryz.prog qe0 cof.H qe0.inl := .nil
theorem qlx (c : Cmd) : qx qe0 cof.H 94 Tryz.f94 [.agg (SN.cells .cmd c)] (fun v => some v) = cofF c := by kernel_rfl
theorem cof_ctr : FnOK Tryz.prog 94 ∧ CtrOK Tryz.prog GL 94 (BB [.st .cmd] cofF) :=
 B3 (E := qe0) za (.nil) cof_inl gD zQ in94 (fun c _ => qi rfl c) (fun xs => qlx xs.1)
noncomputable def G6 : Env := { ty := Zp, ctr := [], inl := [], eqs := [(119, [.I, .I, .I, .I, .I, .I, .I])], glob := GL, L := ql, get := [] }
noncomputable def cbare.H : Hints := ⟨[], []⟩
noncomputable def Ya (c : Cmd) : Option (Cmd) := cnd (ieq c.kind 1) (some (⟨c.kind, c.dir, 0, 0, 0, ([] : List Int), 0, ([] : List Int), 0⟩)) (cnd (ieq c.kind 2) (some (⟨c.kind, c.dir, 0, 0, c.who, ([] : List Int), 0, ([] : List Int), 0⟩)) (cnd (ieq c.kind 3) (cnd (ieq c.kind 3) (some (⟨c.kind, 0, c.item, 0, 0, ([] : List Int), 0, ([] : List Int), 0⟩)) (cnd (ieq c.kind 5) (cnd (ieq c.kind 5) (some (⟨c.kind, 0, c.item, c.box, 0, ([] : List Int), 0, ([] : List Int), 0⟩)) (cnd (ieq c.kind 7) (some (⟨c.kind, 0, c.item, 0, c.who, ([] : List Int), 0, ([] : List Int), 0⟩)) (cnd (ieq c.kind 8) (some (⟨c.kind, 0, 0, 0, c.who, c.gives, c.pay, c.wants, c.fee⟩)) (some (⟨c.kind, 0, 0, 0, 0, ([] : List Int), 0, ([] : List Int), 0⟩))))) (cnd (ieq c.kind 6) (some (⟨c.kind, 0, c.item, c.box, 0, ([] : List Int), 0, ([] : List Int), 0⟩)) (cnd (ieq c.kind 7) (some (⟨c.kind, 0, c.item, 0, c.who, ([] : List Int), 0, ([] : List Int), 0⟩)) (cnd (ieq c.kind 8) (some (⟨c.kind, 0, 0, 0, c.who, c.gives, c.pay, c.wants, c.fee⟩)) (some (⟨c.kind, 0, 0, 0, 0, ([] : List Int), 0, ([] : List Int), 0⟩))))))) (cnd (ieq c.kind 4) (some (⟨c.kind, 0, c.item, 0, 0, ([] : List Int), 0, ([] : List Int), 0⟩)) (cnd (ieq c.kind 5) (cnd (ieq c.kind 5) (some (⟨c.kind, 0, c.item, c.box, 0, ([] : List Int), 0, ([] : List Int), 0⟩)) (cnd (ieq c.kind 7) (some (⟨c.kind, 0, c.item, 0, c.who, ([] : List Int), 0, ([] : List Int), 0⟩)) (cnd (ieq c.kind 8) (some (⟨c.kind, 0, 0, 0, c.who, c.gives, c.pay, c.wants, c.fee⟩)) (some (⟨c.kind, 0, 0, 0, 0, ([] : List Int), 0, ([] : List Int), 0⟩))))) (cnd (ieq c.kind 6) (some (⟨c.kind, 0, c.item, c.box, 0, ([] : List Int), 0, ([] : List Int), 0⟩)) (cnd (ieq c.kind 7) (some (⟨c.kind, 0, c.item, 0, c.who, ([] : List Int), 0, ([] : List Int), 0⟩)) (cnd (ieq c.kind 8) (some (⟨c.kind, 0, 0, 0, c.who, c.gives, c.pay, c.wants, c.fee⟩)) (some (⟨c.kind, 0, 0, 0, 0, ([] : List Int), 0, ([] : List Int), 0⟩)))))))))
theorem qh6 : InlsOK Tryz.prog G6 cbare.H G6.inl := .nil
theorem qc7 (c : Cmd) : qx G6 cbare.H 57 Tryz.f57 [.agg (SN.cells .cmd c)] (asR [.st .cmd]) = Ya c := by kernel_rfl
theorem qh7 : FnOK Tryz.prog 57 ∧ CtrOK Tryz.prog GL 57 (qj [.st .cmd] [.st .cmd] Ya) :=
 qv (E := G6) za (.nil) qh6 gD zQ in57 (fun c _ => qi rfl c) (fun xs => qc7 xs.1)
noncomputable def G4 : Env := { ty := Zp, ctr := [(94, BB [.st .cmd] cofF), (39, qj [.sl .I, .sl .I] [.bool] kV)], inl := [], eqs := [(119, [.I, .I, .I, .I, .I, .I, .I])], glob := GL, L := ql, get := [] }
noncomputable def csame.H : Hints := ⟨[], []⟩
noncomputable def UT (a : Cmd) (b : Cmd) : Option (Bool) := cnd (band (ieq a.kind b.kind) (band (ieq a.dir b.dir) (band (ieq a.item b.item) (band (ieq a.box b.box) (band (ieq a.who b.who) (band (ieq a.pay b.pay) (ieq a.fee b.fee))))))) (obind (kV a.gives b.gives) (fun x => cnd x (obind (kV a.wants b.wants) (fun x_1 => some x_1)) (some false))) (some false)
theorem qhy : InlsOK Tryz.prog G4 csame.H G4.inl := .nil
theorem qc0 (a : Cmd) (b : Cmd) : qx G4 csame.H 56 Tryz.f56 [.agg (SN.cells .cmd a), .agg (SN.cells .cmd b)] (asR [.bool]) = UT a b := by kernel_rfl
theorem qhz : FnOK Tryz.prog 56 ∧ CtrOK Tryz.prog GL 56 (qj [.st .cmd, .st .cmd] [.bool] UT) :=
 qv (E := G4) za (.cons cof_ctr (.cons UA .nil)) qhy gD zQ in56 (fun c _ => qi rfl c) (fun xs => qc0 xs.1 xs.2.1)
noncomputable def Ru : Env := { ty := Zp, ctr := [(55, qj [.I] [.str] KZ), (58, qj [.I] [.str] BA), (56, qj [.st .cmd, .st .cmd] [.bool] UT), (57, qj [.st .cmd] [.st .cmd] Ya), (60, qj [.sl .I] [.bool] UU)], inl := [(59, Tryz.f59)], eqs := [(119, [.I, .I, .I, .I, .I, .I, .I])], glob := GL, L := ql, get := [] }
noncomputable def cmay.H : Hints := ⟨[], []⟩
noncomputable def UX (c : Cmd) : Option (Bool) := obind (KZ c.kind) (fun x => cnd (bnot (seq x (([] : List UInt8)))) (obind (Ya (⟨c.kind, c.dir, c.item, c.box, c.who, c.gives, c.pay, c.wants, c.fee⟩)) (fun x_1 => obind (UT (⟨c.kind, c.dir, c.item, c.box, c.who, c.gives, c.pay, c.wants, c.fee⟩) (⟨x_1.kind, x_1.dir, x_1.item, x_1.box, x_1.who, x_1.gives, x_1.pay, x_1.wants, x_1.fee⟩)) (fun x_2 => cnd x_2 (obind (BA c.dir) (fun x_3 => cnd (bnot (seq x_3 (([] : List UInt8)))) (cnd (ile 0 c.item) (cnd (ile c.item 1073741824) (cnd (ile 0 c.box) (cnd (ile c.box 1073741824) (cnd (ile 0 c.who) (cnd (ile c.who 1073741824) (cnd (ile 0 c.pay) (cnd (ile c.pay 1073741824) (cnd (ile 0 c.fee) (cnd (ile c.fee 1073741824) (obind (UU c.gives) (fun x_4 => cnd x_4 (obind (UU c.wants) (fun x_5 => some x_5)) (some false))) (some false)) (some false)) (some false)) (some false)) (some false)) (some false)) (some false)) (some false)) (some false)) (some false)) (some false))) (some false)))) (some false))
theorem ql2 : InlsOK Tryz.prog Ru cmay.H Ru.inl := .cons in59 (fun c _ => qi rfl c) .nil
theorem qh3 (c : Cmd) : qx Ru cmay.H 29 Tryz.f29 [.agg (SN.cells .cmd c)] (asR [.bool]) = UX c := by kernel_rfl
theorem ql3 : FnOK Tryz.prog 29 ∧ CtrOK Tryz.prog GL 29 (qj [.st .cmd] [.bool] UX) :=
 qv (E := Ru) za (.cons qh2 (.cons qlq (.cons qhz (.cons qh7 (.cons qlv .nil))))) ql2 gD zQ in29 (fun c _ => qi rfl c) (fun xs => qh3 xs.1)
noncomputable def gO : Env := { ty := Zp, ctr := [], inl := [], eqs := [(119, [.I, .I, .I, .I, .I, .I, .I])], glob := GL, L := ql, get := [] }
noncomputable def r3ints.lr4.sp : SPat := ⟨26, [0, 1, 5], [.sl .I, .sl .I, .I], [], [], 0⟩
noncomputable def r3ints.lr4.es : List (Ex × SPat) := [(.ret, ⟨26, [4], [.bool], [], [], 0⟩), (.exit 0, ⟨26, [], [], [], [], 0⟩)]
noncomputable def r3ints.lr4.T : ((((List Int) × ((List Int) × (Int × Unit))) × Unit) → Option (((Bool × Unit) × Unit) ⊕ (Unit × Unit))) → (((List Int) × ((List Int) × (Int × Unit))) × Unit) → Option (((Bool × Unit) × Unit) ⊕ (Unit × Unit)) := fun rec x =>
 cnd (ilt x.1.2.2.1 (qh x.1.1)) (obind (lget x.1.1 x.1.2.2.1) (fun x_1 => obind (lget x.1.2.1 x.1.2.2.1) (fun x_2 => cnd (bnot (ieq x_1 x_2)) (some (.inl ((false, ()), ()))) (rec ((x.1.1, (x.1.2.1, (wrap .i64 (iadd x.1.2.2.1 1), ()))), ()))))) (some (.inr ((), ())))
noncomputable def r3ints.lr4 : Alt := ⟨r3ints.lr4.sp, r3ints.lr4.es, 100, r3ints.lr4.T⟩
noncomputable def r3ints.H : Hints := ⟨[(13, [(4, [r3ints.lr4])])], []⟩
noncomputable def kU (a : List Int) (b : List Int) : Option (Bool) := cnd (bnot (ieq (qh a) (qh b))) (some false) (obind (qt r3ints.lr4.T ql (((a, (b, (0, ()))), ()))) (fun x => scase x (fun x_1 => some x_1.1.1) (fun x_1 => some true)))
theorem D4 : Alt.Round gO r3ints.H 13 (qG r3ints.H 13 Tryz.f13 0) r3ints.lr4 := by intro rec x; kernel_rfl
theorem Y1 : ∀ c, Tryz.f13.body = some c → ToldC gO r3ints.H 13 c := qI [r3ints.lr4] (by kernel_rfl) (fun i hi => match i, hi with | 0, _ => D4 | n + 1, h => absurd h (by simp))
theorem qbk : InlsOK Tryz.prog gO r3ints.H gO.inl := .nil
theorem Nm (a : List Int) (b : List Int) : qx gO r3ints.H 13 Tryz.f13 [.sl .I a, .sl .I b] (asR [.bool]) = kU a b := by kernel_rfl
theorem Ui : FnOK Tryz.prog 13 ∧ CtrOK Tryz.prog GL 13 (qj [.sl .I, .sl .I] [.bool] kU) :=
 qv (E := gO) za (.nil) qbk gD zQ in13 Y1 (fun xs => Nm xs.1 xs.2.1)
noncomputable def J7 : Env := { ty := Zp, ctr := [], inl := [(81, Tryz.f81)], eqs := [(119, [.I, .I, .I, .I, .I, .I, .I])], glob := GL, L := ql, get := [] }
noncomputable def r3row.lr4.sp : SPat := ⟨26, [0, 5], [.sl .I, .I], [], [], 0⟩
noncomputable def r3row.lr4.es : List (Ex × SPat) := [(.ret, ⟨26, [4], [.bool], [], [], 0⟩), (.exit 0, ⟨26, [0], [.sl .I], [], [], 0⟩)]
noncomputable def r3row.lr4.T : ((((List Int) × (Int × Unit)) × Unit) → Option (((Bool × Unit) × Unit) ⊕ (((List Int) × Unit) × Unit))) → (((List Int) × (Int × Unit)) × Unit) → Option (((Bool × Unit) × Unit) ⊕ (((List Int) × Unit) × Unit)) := fun rec x =>
 cnd (ilt x.1.2.1 (qh x.1.1)) (obind (lget x.1.1 x.1.2.1) (fun x_1 => cnd (ile 0 x_1) (cnd (bnot (ile x_1 1073741824)) (some (.inl ((false, ()), ()))) (rec ((x.1.1, (wrap .i64 (iadd x.1.2.1 1), ())), ()))) (some (.inl ((false, ()), ()))))) (some (.inr ((x.1.1, ()), ())))
noncomputable def r3row.lr4 : Alt := ⟨r3row.lr4.sp, r3row.lr4.es, 100, r3row.lr4.T⟩
noncomputable def r3row.H : Hints := ⟨[(82, [(4, [r3row.lr4])])], []⟩
noncomputable def qD (l : List Int) (h : Bool) : Option (Bool) := cnd (bnot h) (some (ieq (qh l) 0)) (obind (qt r3row.lr4.T ql (((l, (0, ())), ()))) (fun x => scase x (fun x_1 => some x_1.1.1) (fun x_1 => some (ile (qh x_1.1.1) 16))))
theorem Nk : Alt.Round J7 r3row.H 82 (qG r3row.H 82 Tryz.f82 0) r3row.lr4 := by intro rec x; kernel_rfl
theorem D3 : ∀ c, Tryz.f82.body = some c → ToldC J7 r3row.H 82 c := qI [r3row.lr4] (by kernel_rfl) (fun i hi => match i, hi with | 0, _ => Nk | n + 1, h => absurd h (by simp))
theorem qgk : InlsOK Tryz.prog J7 r3row.H J7.inl := .cons in81 (fun c _ => qi rfl c) .nil
theorem qbi (l : List Int) (h : Bool) : qx J7 r3row.H 82 Tryz.f82 [.sl .I l, .bool h] (asR [.bool]) = qD l h := by kernel_rfl
theorem qgl : FnOK Tryz.prog 82 ∧ CtrOK Tryz.prog GL 82 (qj [.sl .I, .bool] [.bool] qD) :=
 qv (E := J7) za (.nil) qgk gD zQ in82 D3 (fun xs => qbi xs.1 xs.2.1)
noncomputable def Gu : Env := { ty := Zp, ctr := [], inl := [], eqs := [(119, [.I, .I, .I, .I, .I, .I, .I])], glob := GL, L := ql, get := [] }
noncomputable def r3fit.H : Hints := ⟨[], []⟩
noncomputable def qu (n : Int) (h : Bool) : Option (Bool) := cnd (bnot h) (some (ieq n 0)) (cnd (ile 0 n) (some (ile n 1073741824)) (some false))
theorem qgp : InlsOK Tryz.prog Gu r3fit.H Gu.inl := .nil
theorem qbl (n : Int) (h : Bool) : qx Gu r3fit.H 81 Tryz.f81 [.I n, .bool h] (asR [.bool]) = qu n h := by kernel_rfl
theorem qgq : FnOK Tryz.prog 81 ∧ CtrOK Tryz.prog GL 81 (qj [.I, .bool] [.bool] qu) :=
 qv (E := Gu) za (.nil) qgp gD zQ in81 (fun c _ => qi rfl c) (fun xs => qbl xs.1 xs.2.1)
noncomputable def Gt : Env := { ty := Zp, ctr := [(81, qj [.I, .bool] [.bool] qu), (82, qj [.sl .I, .bool] [.bool] qD)], inl := [], eqs := [(119, [.I, .I, .I, .I, .I, .I, .I])], glob := GL, L := ql, get := [] }
noncomputable def r3may.H : Hints := ⟨[], []⟩
noncomputable def JY (c : Cmd) : Option (Bool) := cnd (ilt c.kind 1) (some false) (cnd (ilt 10 c.kind) (some false) (cnd (ilt c.dir 0) (some false) (cnd (ilt 3 c.dir) (some false) (cnd (bnot (ieq c.dir 0)) (cnd (ilt 2 c.kind) (some false) (cnd (ile 3 c.kind) (obind (qu c.item (ile c.kind 7)) (fun x => cnd x (cnd (ieq c.kind 5) (obind (qu c.box true) (fun x_1 => cnd x_1 (cnd (ieq c.kind 2) (obind (qu c.who true) (fun x_2 => cnd x_2 (obind (qu c.pay (ieq c.kind 8)) (fun x_3 => cnd x_3 (obind (qu c.fee (ieq c.kind 8)) (fun x_4 => cnd x_4 (obind (qD c.gives (ieq c.kind 8)) (fun x_5 => cnd x_5 (obind (qD c.wants (ieq c.kind 8)) (fun x_6 => some x_6)) (some false))) (some false))) (some false))) (some false))) (cnd (ieq c.kind 7) (obind (qu c.who true) (fun x_2 => cnd x_2 (obind (qu c.pay (ieq c.kind 8)) (fun x_3 => cnd x_3 (obind (qu c.fee (ieq c.kind 8)) (fun x_4 => cnd x_4 (obind (qD c.gives (ieq c.kind 8)) (fun x_5 => cnd x_5 (obind (qD c.wants (ieq c.kind 8)) (fun x_6 => some x_6)) (some false))) (some false))) (some false))) (some false))) (obind (qu c.who (ieq c.kind 8)) (fun x_2 => cnd x_2 (obind (qu c.pay (ieq c.kind 8)) (fun x_3 => cnd x_3 (obind (qu c.fee (ieq c.kind 8)) (fun x_4 => cnd x_4 (obind (qD c.gives (ieq c.kind 8)) (fun x_5 => cnd x_5 (obind (qD c.wants (ieq c.kind 8)) (fun x_6 => some x_6)) (some false))) (some false))) (some false))) (some false))))) (some false))) (obind (qu c.box (ieq c.kind 6)) (fun x_1 => cnd x_1 (cnd (ieq c.kind 2) (obind (qu c.who true) (fun x_2 => cnd x_2 (obind (qu c.pay (ieq c.kind 8)) (fun x_3 => cnd x_3 (obind (qu c.fee (ieq c.kind 8)) (fun x_4 => cnd x_4 (obind (qD c.gives (ieq c.kind 8)) (fun x_5 => cnd x_5 (obind (qD c.wants (ieq c.kind 8)) (fun x_6 => some x_6)) (some false))) (some false))) (some false))) (some false))) (cnd (ieq c.kind 7) (obind (qu c.who true) (fun x_2 => cnd x_2 (obind (qu c.pay (ieq c.kind 8)) (fun x_3 => cnd x_3 (obind (qu c.fee (ieq c.kind 8)) (fun x_4 => cnd x_4 (obind (qD c.gives (ieq c.kind 8)) (fun x_5 => cnd x_5 (obind (qD c.wants (ieq c.kind 8)) (fun x_6 => some x_6)) (some false))) (some false))) (some false))) (some false))) (obind (qu c.who (ieq c.kind 8)) (fun x_2 => cnd x_2 (obind (qu c.pay (ieq c.kind 8)) (fun x_3 => cnd x_3 (obind (qu c.fee (ieq c.kind 8)) (fun x_4 => cnd x_4 (obind (qD c.gives (ieq c.kind 8)) (fun x_5 => cnd x_5 (obind (qD c.wants (ieq c.kind 8)) (fun x_6 => some x_6)) (some false))) (some false))) (some false))) (some false))))) (some false)))) (some false))) (obind (qu c.item false) (fun x => cnd x (cnd (ieq c.kind 5) (obind (qu c.box true) (fun x_1 => cnd x_1 (cnd (ieq c.kind 2) (obind (qu c.who true) (fun x_2 => cnd x_2 (obind (qu c.pay (ieq c.kind 8)) (fun x_3 => cnd x_3 (obind (qu c.fee (ieq c.kind 8)) (fun x_4 => cnd x_4 (obind (qD c.gives (ieq c.kind 8)) (fun x_5 => cnd x_5 (obind (qD c.wants (ieq c.kind 8)) (fun x_6 => some x_6)) (some false))) (some false))) (some false))) (some false))) (cnd (ieq c.kind 7) (obind (qu c.who true) (fun x_2 => cnd x_2 (obind (qu c.pay (ieq c.kind 8)) (fun x_3 => cnd x_3 (obind (qu c.fee (ieq c.kind 8)) (fun x_4 => cnd x_4 (obind (qD c.gives (ieq c.kind 8)) (fun x_5 => cnd x_5 (obind (qD c.wants (ieq c.kind 8)) (fun x_6 => some x_6)) (some false))) (some false))) (some false))) (some false))) (obind (qu c.who (ieq c.kind 8)) (fun x_2 => cnd x_2 (obind (qu c.pay (ieq c.kind 8)) (fun x_3 => cnd x_3 (obind (qu c.fee (ieq c.kind 8)) (fun x_4 => cnd x_4 (obind (qD c.gives (ieq c.kind 8)) (fun x_5 => cnd x_5 (obind (qD c.wants (ieq c.kind 8)) (fun x_6 => some x_6)) (some false))) (some false))) (some false))) (some false))))) (some false))) (obind (qu c.box (ieq c.kind 6)) (fun x_1 => cnd x_1 (cnd (ieq c.kind 2) (obind (qu c.who true) (fun x_2 => cnd x_2 (obind (qu c.pay (ieq c.kind 8)) (fun x_3 => cnd x_3 (obind (qu c.fee (ieq c.kind 8)) (fun x_4 => cnd x_4 (obind (qD c.gives (ieq c.kind 8)) (fun x_5 => cnd x_5 (obind (qD c.wants (ieq c.kind 8)) (fun x_6 => some x_6)) (some false))) (some false))) (some false))) (some false))) (cnd (ieq c.kind 7) (obind (qu c.who true) (fun x_2 => cnd x_2 (obind (qu c.pay (ieq c.kind 8)) (fun x_3 => cnd x_3 (obind (qu c.fee (ieq c.kind 8)) (fun x_4 => cnd x_4 (obind (qD c.gives (ieq c.kind 8)) (fun x_5 => cnd x_5 (obind (qD c.wants (ieq c.kind 8)) (fun x_6 => some x_6)) (some false))) (some false))) (some false))) (some false))) (obind (qu c.who (ieq c.kind 8)) (fun x_2 => cnd x_2 (obind (qu c.pay (ieq c.kind 8)) (fun x_3 => cnd x_3 (obind (qu c.fee (ieq c.kind 8)) (fun x_4 => cnd x_4 (obind (qD c.gives (ieq c.kind 8)) (fun x_5 => cnd x_5 (obind (qD c.wants (ieq c.kind 8)) (fun x_6 => some x_6)) (some false))) (some false))) (some false))) (some false))))) (some false)))) (some false))))) (cnd (ile 3 c.kind) (obind (qu c.item (ile c.kind 7)) (fun x => cnd x (cnd (ieq c.kind 5) (obind (qu c.box true) (fun x_1 => cnd x_1 (cnd (ieq c.kind 2) (obind (qu c.who true) (fun x_2 => cnd x_2 (obind (qu c.pay (ieq c.kind 8)) (fun x_3 => cnd x_3 (obind (qu c.fee (ieq c.kind 8)) (fun x_4 => cnd x_4 (obind (qD c.gives (ieq c.kind 8)) (fun x_5 => cnd x_5 (obind (qD c.wants (ieq c.kind 8)) (fun x_6 => some x_6)) (some false))) (some false))) (some false))) (some false))) (cnd (ieq c.kind 7) (obind (qu c.who true) (fun x_2 => cnd x_2 (obind (qu c.pay (ieq c.kind 8)) (fun x_3 => cnd x_3 (obind (qu c.fee (ieq c.kind 8)) (fun x_4 => cnd x_4 (obind (qD c.gives (ieq c.kind 8)) (fun x_5 => cnd x_5 (obind (qD c.wants (ieq c.kind 8)) (fun x_6 => some x_6)) (some false))) (some false))) (some false))) (some false))) (obind (qu c.who (ieq c.kind 8)) (fun x_2 => cnd x_2 (obind (qu c.pay (ieq c.kind 8)) (fun x_3 => cnd x_3 (obind (qu c.fee (ieq c.kind 8)) (fun x_4 => cnd x_4 (obind (qD c.gives (ieq c.kind 8)) (fun x_5 => cnd x_5 (obind (qD c.wants (ieq c.kind 8)) (fun x_6 => some x_6)) (some false))) (some false))) (some false))) (some false))))) (some false))) (obind (qu c.box (ieq c.kind 6)) (fun x_1 => cnd x_1 (cnd (ieq c.kind 2) (obind (qu c.who true) (fun x_2 => cnd x_2 (obind (qu c.pay (ieq c.kind 8)) (fun x_3 => cnd x_3 (obind (qu c.fee (ieq c.kind 8)) (fun x_4 => cnd x_4 (obind (qD c.gives (ieq c.kind 8)) (fun x_5 => cnd x_5 (obind (qD c.wants (ieq c.kind 8)) (fun x_6 => some x_6)) (some false))) (some false))) (some false))) (some false))) (cnd (ieq c.kind 7) (obind (qu c.who true) (fun x_2 => cnd x_2 (obind (qu c.pay (ieq c.kind 8)) (fun x_3 => cnd x_3 (obind (qu c.fee (ieq c.kind 8)) (fun x_4 => cnd x_4 (obind (qD c.gives (ieq c.kind 8)) (fun x_5 => cnd x_5 (obind (qD c.wants (ieq c.kind 8)) (fun x_6 => some x_6)) (some false))) (some false))) (some false))) (some false))) (obind (qu c.who (ieq c.kind 8)) (fun x_2 => cnd x_2 (obind (qu c.pay (ieq c.kind 8)) (fun x_3 => cnd x_3 (obind (qu c.fee (ieq c.kind 8)) (fun x_4 => cnd x_4 (obind (qD c.gives (ieq c.kind 8)) (fun x_5 => cnd x_5 (obind (qD c.wants (ieq c.kind 8)) (fun x_6 => some x_6)) (some false))) (some false))) (some false))) (some false))))) (some false)))) (some false))) (obind (qu c.item false) (fun x => cnd x (cnd (ieq c.kind 5) (obind (qu c.box true) (fun x_1 => cnd x_1 (cnd (ieq c.kind 2) (obind (qu c.who true) (fun x_2 => cnd x_2 (obind (qu c.pay (ieq c.kind 8)) (fun x_3 => cnd x_3 (obind (qu c.fee (ieq c.kind 8)) (fun x_4 => cnd x_4 (obind (qD c.gives (ieq c.kind 8)) (fun x_5 => cnd x_5 (obind (qD c.wants (ieq c.kind 8)) (fun x_6 => some x_6)) (some false))) (some false))) (some false))) (some false))) (cnd (ieq c.kind 7) (obind (qu c.who true) (fun x_2 => cnd x_2 (obind (qu c.pay (ieq c.kind 8)) (fun x_3 => cnd x_3 (obind (qu c.fee (ieq c.kind 8)) (fun x_4 => cnd x_4 (obind (qD c.gives (ieq c.kind 8)) (fun x_5 => cnd x_5 (obind (qD c.wants (ieq c.kind 8)) (fun x_6 => some x_6)) (some false))) (some false))) (some false))) (some false))) (obind (qu c.who (ieq c.kind 8)) (fun x_2 => cnd x_2 (obind (qu c.pay (ieq c.kind 8)) (fun x_3 => cnd x_3 (obind (qu c.fee (ieq c.kind 8)) (fun x_4 => cnd x_4 (obind (qD c.gives (ieq c.kind 8)) (fun x_5 => cnd x_5 (obind (qD c.wants (ieq c.kind 8)) (fun x_6 => some x_6)) (some false))) (some false))) (some false))) (some false))))) (some false))) (obind (qu c.box (ieq c.kind 6)) (fun x_1 => cnd x_1 (cnd (ieq c.kind 2) (obind (qu c.who true) (fun x_2 => cnd x_2 (obind (qu c.pay (ieq c.kind 8)) (fun x_3 => cnd x_3 (obind (qu c.fee (ieq c.kind 8)) (fun x_4 => cnd x_4 (obind (qD c.gives (ieq c.kind 8)) (fun x_5 => cnd x_5 (obind (qD c.wants (ieq c.kind 8)) (fun x_6 => some x_6)) (some false))) (some false))) (some false))) (some false))) (cnd (ieq c.kind 7) (obind (qu c.who true) (fun x_2 => cnd x_2 (obind (qu c.pay (ieq c.kind 8)) (fun x_3 => cnd x_3 (obind (qu c.fee (ieq c.kind 8)) (fun x_4 => cnd x_4 (obind (qD c.gives (ieq c.kind 8)) (fun x_5 => cnd x_5 (obind (qD c.wants (ieq c.kind 8)) (fun x_6 => some x_6)) (some false))) (some false))) (some false))) (some false))) (obind (qu c.who (ieq c.kind 8)) (fun x_2 => cnd x_2 (obind (qu c.pay (ieq c.kind 8)) (fun x_3 => cnd x_3 (obind (qu c.fee (ieq c.kind 8)) (fun x_4 => cnd x_4 (obind (qD c.gives (ieq c.kind 8)) (fun x_5 => cnd x_5 (obind (qD c.wants (ieq c.kind 8)) (fun x_6 => some x_6)) (some false))) (some false))) (some false))) (some false))))) (some false)))) (some false))))))))
theorem qgm : InlsOK Tryz.prog Gt r3may.H Gt.inl := .nil
theorem qbj (c : Cmd) : qx Gt r3may.H 41 Tryz.f41 [.agg (SN.cells .cmd c)] (asR [.bool]) = JY c := by kernel_rfl
theorem qgn : FnOK Tryz.prog 41 ∧ CtrOK Tryz.prog GL 41 (qj [.st .cmd] [.bool] JY) :=
 qv (E := Gt) za (.cons qgq (.cons qgl .nil)) qgm gD zQ in41 (fun c _ => qi rfl c) (fun xs => qbj xs.1)
noncomputable def Gv : Env := { ty := Zp, ctr := [], inl := [], eqs := [(119, [.I, .I, .I, .I, .I, .I, .I])], glob := GL, L := ql, get := [] }
noncomputable def r3few.H : Hints := ⟨[], []⟩
noncomputable def KC (c : Cmd) : Option (Bool) := cnd (ile (qh c.gives) 40) (some (ile (qh c.wants) 40)) (some false)
theorem qgr : InlsOK Tryz.prog Gv r3few.H Gv.inl := .nil
theorem qbm (c : Cmd) : qx Gv r3few.H 17 Tryz.f17 [.agg (SN.cells .cmd c)] (asR [.bool]) = KC c := by kernel_rfl
theorem qgs : FnOK Tryz.prog 17 ∧ CtrOK Tryz.prog GL 17 (qj [.st .cmd] [.bool] KC) :=
 qv (E := Gv) za (.nil) qgr gD zQ in17 (fun c _ => qi rfl c) (fun xs => qbm xs.1)
end Go.Sx
