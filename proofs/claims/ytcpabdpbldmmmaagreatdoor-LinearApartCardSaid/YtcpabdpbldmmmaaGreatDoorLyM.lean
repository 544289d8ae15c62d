/-
  commands, walked (printed by wip/dev/gen2.py)
-/
import Derived.Test.YtcpabdpbldmmmaaGreatDoorLyC
import Derived.Test.YtcpabdpbldmmmaaGreatDoorSxBaseD
import Derived.Test.YtcpabdpbldmmmaaGreatDoorProg
import Derived.KernelRfl
set_option linter.unusedVariables false
set_option linter.unusedSimpArgs false
namespace Go.Sx
open Go Go.Proofs
def VO : List (Nat × TyI) :=
 [(3, ⟨false, 1, 8, [.I 0], some .I, .I⟩),
  (4, ⟨false, 1, 1, [.bool false], some .bool, .bool⟩),
  (9, ⟨false, 1, 16, [.str []], some .str, .str⟩),
  (23, ⟨false, 1, 24, [.nilsl], some (.sl .I), .sl 3⟩),
  (37, ⟨true, 9, 104, [.I 0, .I 0, .I 0, .I 0, .I 0, .nilsl, .I 0, .nilsl, .I 0], some (.st .cmd), .st [(0, 3), (1, 3), (2, 3), (3, 3), (4, 3), (5, 23), (6, 3), (7, 23), (8, 3)]⟩),
  (68, ⟨false, 1, 8, [.nilf], none, .func⟩),
  (116, ⟨false, 1, 24, [.nilsl], some (.sl .str), .sl 9⟩),
  (117, ⟨true, 11, 176, [.str [], .str [], .str [], .str [], .str [], .str [], .str [], .str [], .str [], .str [], .str []], none, .arr 11 9⟩),
  (119, ⟨true, 7, 56, [.I 0, .I 0, .I 0, .I 0, .I 0, .I 0, .I 0], none, .st [(0, 3), (1, 3), (2, 3), (3, 3), (4, 3), (5, 3), (6, 3)]⟩),
  (121, ⟨true, 4, 64, [.str [], .str [], .str [], .str []], none, .arr 4 9⟩)]
theorem zR : (VO.all fun p => J7 Tryz.prog p.1 p.2) = true := by kernel_rfl
theorem vV : Tryz.prog.follows .mixedOrders = true := by kernel_rfl
theorem J3 : EqsOK Tryz.prog [(119, [.I, .I, .I, .I, .I, .I, .I])] := .cons (kV (P := Tryz.prog) (t := 119) (ks := [.I, .I, .I, .I, .I, .I, .I]) (by kernel_rfl) (by kernel_rfl) (by kernel_rfl)) .nil
theorem in13 : FnIn Tryz.prog 13 Tryz.f13 := .mk Tryz.func13 (by kernel_rfl) (by kernel_rfl)
theorem in17 : FnIn Tryz.prog 17 Tryz.f17 := .mk Tryz.func17 (by kernel_rfl) (by kernel_rfl)
theorem in29 : FnIn Tryz.prog 29 Tryz.f29 := .mk Tryz.func29 (by kernel_rfl) (by kernel_rfl)
theorem in39 : FnIn Tryz.prog 39 Tryz.f39 := .mk Tryz.func39 (by kernel_rfl) (by kernel_rfl)
theorem in55 : FnIn Tryz.prog 55 Tryz.f55 := .mk Tryz.func55 (by kernel_rfl) (by kernel_rfl)
theorem in56 : FnIn Tryz.prog 56 Tryz.f56 := .mk Tryz.func56 (by kernel_rfl) (by kernel_rfl)
theorem in57 : FnIn Tryz.prog 57 Tryz.f57 := .mk Tryz.func57 (by kernel_rfl) (by kernel_rfl)
theorem in58 : FnIn Tryz.prog 58 Tryz.f58 := .mk Tryz.func58 (by kernel_rfl) (by kernel_rfl)
theorem in59 : FnIn Tryz.prog 59 Tryz.f59 := .mk Tryz.func59 (by kernel_rfl) (by kernel_rfl)
theorem in60 : FnIn Tryz.prog 60 Tryz.f60 := .mk Tryz.func60 (by kernel_rfl) (by kernel_rfl)
theorem in93 : FnIn Tryz.prog 93 Tryz.f93 := .mk Tryz.func93 (by kernel_rfl) (by kernel_rfl)
theorem in94 : FnIn Tryz.prog 94 Tryz.f94 := .mk Tryz.func94 (by kernel_rfl) (by kernel_rfl)
theorem in95 : FnIn Tryz.prog 95 Tryz.f95 := .mk Tryz.func95 (by kernel_rfl) (by kernel_rfl)
theorem in96 : FnIn Tryz.prog 96 Tryz.f96 := .mk Tryz.func96 (by kernel_rfl) (by kernel_rfl)
theorem in137 : FnIn Tryz.prog 137 Tryz.f137 := .mk Tryz.func137 (by kernel_rfl) (by kernel_rfl)
noncomputable def gL : Env := { ty := VO, ctr := [], inl := [], eqs := [(119, [.I, .I, .I, .I, .I, .I, .I])], glob := GL, L := qn, get := [] }
noncomputable def iequal.lr4.sp : SPat := ⟨26, [0, 1, 12, 13], [.sl .I, .sl .I, .I, .I], [], [], 0⟩
noncomputable def iequal.lr4.es : List (Ex × SPat) := [(.ret, ⟨26, [4], [.bool], [], [], 0⟩), (.exit 0, ⟨26, [], [], [], [], 0⟩)]
noncomputable def iequal.lr4.T : ((((List Int) × ((List Int) × (Int × (Int × Unit)))) × Unit) → Option (((Bool × Unit) × Unit) ⊕ (Unit × Unit))) → (((List Int) × ((List Int) × (Int × (Int × Unit)))) × Unit) → Option (((Bool × Unit) × Unit) ⊕ (Unit × Unit)) := fun rec x =>
 cnd (ilt x.1.2.2.2.1 x.1.2.2.1) (obind (lget x.1.1 x.1.2.2.2.1) (fun x_1 => obind (lget x.1.2.1 x.1.2.2.2.1) (fun x_2 => cnd (bnot (ieq x_1 x_2)) (some (.inl ((false, ()), ()))) (rec ((x.1.1, (x.1.2.1, (x.1.2.2.1, (wrap .i64 (iadd x.1.2.2.2.1 1), ())))), ()))))) (some (.inr ((), ())))
noncomputable def iequal.lr4 : Alt := ⟨iequal.lr4.sp, iequal.lr4.es, 100, iequal.lr4.T⟩
noncomputable def iequal.H : Hints := ⟨[(39, [(4, [iequal.lr4])])], []⟩
noncomputable def kP (a : List Int) (b : List Int) : Option (Bool) := cnd (bnot (ieq (qh a) (qh b))) (some false) (obind (qr iequal.lr4.T qn (((a, (b, (qh a, (0, ())))), ()))) (fun x => scase x (fun x_1 => some x_1.1.1) (fun x_1 => some true)))
theorem BL : Alt.Round gL iequal.H 39 (qN iequal.H 39 Tryz.f39 0) iequal.lr4 := by intro rec x; kernel_rfl
theorem UG : ∀ c, Tryz.f39.body = some c → ToldC gL iequal.H 39 c := qV [iequal.lr4] (by kernel_rfl) (fun i hi => match i, hi with | 0, _ => BL | n + 1, h => absurd h (by simp))
theorem M6 : InlsOK Tryz.prog gL iequal.H gL.inl := .nil
theorem R9 (a : List Int) (b : List Int) : q9 gL iequal.H 39 Tryz.f39 [.sl .I a, .sl .I b] (asR [.bool]) = kP a b := by kernel_rfl
theorem GK : FnOK Tryz.prog 39 ∧ CtrOK Tryz.prog GL 39 (ql [.sl .I, .sl .I] [.bool] kP) :=
 q7 (E := gL) zR (.nil) M6 J3 vV in39 UG (fun xs => R9 xs.1 xs.2.1)
noncomputable def VF : Env := { ty := VO, ctr := [], inl := [(93, Tryz.f93)], eqs := [(119, [.I, .I, .I, .I, .I, .I, .I])], glob := GL, L := qn, get := [] }
noncomputable def cname.H : Hints := ⟨[], []⟩
noncomputable def Kz (k : Int) : Option (Str) := cnd (ilt k 0) (some (([] : List UInt8))) (cnd (ile 11 k) (some (([] : List UInt8))) (obind (lget ([([] : List UInt8), ([109, 111, 118, 101] : List UInt8), ([112, 117, 115, 104] : List UInt8), ([103, 101, 116] : List UInt8), ([100, 114, 111, 112] : List UInt8), ([112, 117, 116] : List UInt8), ([116, 97, 107, 101] : List UInt8), ([103, 105, 118, 101] : List UInt8), ([116, 114, 97, 100, 101] : List UInt8), ([108, 111, 111, 107] : List UInt8), ([111, 119, 110] : List UInt8)]) k) (fun x => some x)))
theorem qeb : InlsOK Tryz.prog VF cname.H VF.inl := .cons in93 (fun c _ => qi rfl c) .nil
theorem MW (k : Int) : q9 VF cname.H 55 Tryz.f55 [.I k] (asR [.str]) = Kz k := by kernel_rfl
theorem qec : FnOK Tryz.prog 55 ∧ CtrOK Tryz.prog GL 55 (ql [.I] [.str] Kz) :=
 q7 (E := VF) zR (.nil) qeb J3 vV in55 (fun c _ => qi rfl c) (fun xs => MW xs.1)
noncomputable def Dq : Env := { ty := VO, ctr := [], inl := [(93, Tryz.f93)], eqs := [(119, [.I, .I, .I, .I, .I, .I, .I])], glob := GL, L := qn, get := [] }
noncomputable def cway.H : Hints := ⟨[], []⟩
noncomputable def YB (d : Int) : Option (Str) := cnd (ilt d 0) (some (([] : List UInt8))) (cnd (ile 4 d) (some (([] : List UInt8))) (obind (lget ([([110, 111, 114, 116, 104] : List UInt8), ([101, 97, 115, 116] : List UInt8), ([115, 111, 117, 116, 104] : List UInt8), ([119, 101, 115, 116] : List UInt8)]) d) (fun x => some x)))
theorem qh3 : InlsOK Tryz.prog Dq cway.H Dq.inl := .cons in93 (fun c _ => qi rfl c) .nil
theorem qd4 (d : Int) : q9 Dq cway.H 58 Tryz.f58 [.I d] (asR [.str]) = YB d := by kernel_rfl
theorem qh4 : FnOK Tryz.prog 58 ∧ CtrOK Tryz.prog GL 58 (ql [.I] [.str] YB) :=
 q7 (E := Dq) zR (.nil) qh3 J3 vV in58 (fun c _ => qi rfl c) (fun xs => qd4 xs.1)
noncomputable def K7 : Env := { ty := VO, ctr := [], inl := [(95, Tryz.f95), (137, Tryz.f137), (96, Tryz.f96), (59, Tryz.f59)], eqs := [(119, [.I, .I, .I, .I, .I, .I, .I])], glob := GL, L := qn, get := [] }
noncomputable def crow.l1.sp : SPat := ⟨19, [0, 1, 7, 8], [.sl .I, .func 96 [] [], .I, .I], [], [], 0⟩
noncomputable def crow.l1.es : List (Ex × SPat) := [(.ret, ⟨19, [4], [.I], [], [], 0⟩), (.exit 0, ⟨19, [], [], [], [], 0⟩)]
noncomputable def crow.l1.T : ((((List Int) × (Int × (Int × Unit))) × Unit) → Option (((Int × Unit) × Unit) ⊕ (Unit × Unit))) → (((List Int) × (Int × (Int × Unit))) × Unit) → Option (((Int × Unit) × Unit) ⊕ (Unit × Unit)) := fun rec x =>
 cnd (ilt x.1.2.2.1 x.1.2.1) (obind (lget x.1.1 x.1.2.2.1) (fun x_1 => cnd (ile 0 x_1) (cnd (bnot (ile x_1 1073741824)) (some (.inl ((x.1.2.2.1, ()), ()))) (rec ((x.1.1, (x.1.2.1, (wrap .i64 (iadd x.1.2.2.1 1), ()))), ()))) (some (.inl ((x.1.2.2.1, ()), ()))))) (some (.inr ((), ())))
noncomputable def crow.l1 : Alt := ⟨crow.l1.sp, crow.l1.es, 100, crow.l1.T⟩
noncomputable def crow.H : Hints := ⟨[(137, [(2, [crow.l1])])], []⟩
noncomputable def Uh (l : List Int) : Option (Bool) := cnd (ile (qh l) 16) (obind (qr crow.l1.T qn (((l, (qh l, (0, ()))), ()))) (fun x => scase x (fun x_1 => some (bnot (ile 0 x_1.1.1))) (fun x_1 => some true))) (some false)
theorem RY : Alt.Round K7 crow.H 137 (qN crow.H 137 Tryz.f137 0) crow.l1 := by intro rec x; kernel_rfl
theorem Dc : ∀ c, Tryz.f137.body = some c → ToldC K7 crow.H 137 c := qV [crow.l1] (by kernel_rfl) (fun i hi => match i, hi with | 0, _ => RY | n + 1, h => absurd h (by simp))
theorem qh8 : InlsOK Tryz.prog K7 crow.H K7.inl := .cons in95 (fun c _ => qi rfl c) (.cons in137 Dc (.cons in96 (fun c _ => qi rfl c) (.cons in59 (fun c _ => qi rfl c) .nil)))
theorem qea (l : List Int) : q9 K7 crow.H 60 Tryz.f60 [.sl .I l] (asR [.bool]) = Uh l := by kernel_rfl
theorem qh9 : FnOK Tryz.prog 60 ∧ CtrOK Tryz.prog GL 60 (ql [.sl .I] [.bool] Uh) :=
 q7 (E := K7) zR (.nil) qh8 J3 vV in60 (fun c _ => qi rfl c) (fun xs => qea xs.1)
noncomputable def qb2 : Env := { ty := VO, ctr := [], inl := [], eqs := [(119, [.I, .I, .I, .I, .I, .I, .I])], glob := GL, L := qn, get := [] }
noncomputable def cof.H : Hints := ⟨[], []⟩
noncomputable def cofF (c : Cmd) : Option (AV) := some (AV.agg [AV.int .i64 c.kind, AV.int .i64 c.dir, AV.int .i64 c.item, AV.int .i64 c.box, AV.int .i64 c.who, AV.int .i64 c.pay, AV.int .i64 c.fee])
theorem cof_inl : InlsOK Tryz.prog qb2 cof.H qb2.inl := .nil
theorem qib (c : Cmd) : q9 qb2 cof.H 94 Tryz.f94 [.agg (SN.cells .cmd c)] (fun v => some v) = cofF c := by kernel_rfl
theorem cof_ctr : FnOK Tryz.prog 94 ∧ CtrOK Tryz.prog GL 94 (YC [.st .cmd] cofF) :=
 Y5 (E := qb2) zR (.nil) cof_inl J3 vV in94 (fun c _ => qi rfl c) (fun xs => qib xs.1)
noncomputable def VG : Env := { ty := VO, ctr := [], inl := [], eqs := [(119, [.I, .I, .I, .I, .I, .I, .I])], glob := GL, L := qn, get := [] }
noncomputable def cbare.H : Hints := ⟨[], []⟩
noncomputable def Un (c : Cmd) : Option (Cmd) := cnd (ieq c.kind 1) (some (⟨c.kind, c.dir, 0, 0, 0, ([] : List Int), 0, ([] : List Int), 0⟩)) (cnd (ieq c.kind 2) (some (⟨c.kind, c.dir, 0, 0, c.who, ([] : List Int), 0, ([] : List Int), 0⟩)) (cnd (ieq c.kind 3) (cnd (ieq c.kind 3) (some (⟨c.kind, 0, c.item, 0, 0, ([] : List Int), 0, ([] : List Int), 0⟩)) (cnd (ieq c.kind 5) (cnd (ieq c.kind 5) (some (⟨c.kind, 0, c.item, c.box, 0, ([] : List Int), 0, ([] : List Int), 0⟩)) (cnd (ieq c.kind 7) (some (⟨c.kind, 0, c.item, 0, c.who, ([] : List Int), 0, ([] : List Int), 0⟩)) (cnd (ieq c.kind 8) (some (⟨c.kind, 0, 0, 0, c.who, c.gives, c.pay, c.wants, c.fee⟩)) (some (⟨c.kind, 0, 0, 0, 0, ([] : List Int), 0, ([] : List Int), 0⟩))))) (cnd (ieq c.kind 6) (some (⟨c.kind, 0, c.item, c.box, 0, ([] : List Int), 0, ([] : List Int), 0⟩)) (cnd (ieq c.kind 7) (some (⟨c.kind, 0, c.item, 0, c.who, ([] : List Int), 0, ([] : List Int), 0⟩)) (cnd (ieq c.kind 8) (some (⟨c.kind, 0, 0, 0, c.who, c.gives, c.pay, c.wants, c.fee⟩)) (some (⟨c.kind, 0, 0, 0, 0, ([] : List Int), 0, ([] : List Int), 0⟩))))))) (cnd (ieq c.kind 4) (some (⟨c.kind, 0, c.item, 0, 0, ([] : List Int), 0, ([] : List Int), 0⟩)) (cnd (ieq c.kind 5) (cnd (ieq c.kind 5) (some (⟨c.kind, 0, c.item, c.box, 0, ([] : List Int), 0, ([] : List Int), 0⟩)) (cnd (ieq c.kind 7) (some (⟨c.kind, 0, c.item, 0, c.who, ([] : List Int), 0, ([] : List Int), 0⟩)) (cnd (ieq c.kind 8) (some (⟨c.kind, 0, 0, 0, c.who, c.gives, c.pay, c.wants, c.fee⟩)) (some (⟨c.kind, 0, 0, 0, 0, ([] : List Int), 0, ([] : List Int), 0⟩))))) (cnd (ieq c.kind 6) (some (⟨c.kind, 0, c.item, c.box, 0, ([] : List Int), 0, ([] : List Int), 0⟩)) (cnd (ieq c.kind 7) (some (⟨c.kind, 0, c.item, 0, c.who, ([] : List Int), 0, ([] : List Int), 0⟩)) (cnd (ieq c.kind 8) (some (⟨c.kind, 0, 0, 0, c.who, c.gives, c.pay, c.wants, c.fee⟩)) (some (⟨c.kind, 0, 0, 0, 0, ([] : List Int), 0, ([] : List Int), 0⟩)))))))))
theorem qeg : InlsOK Tryz.prog VG cbare.H VG.inl := .nil
theorem qab (c : Cmd) : q9 VG cbare.H 57 Tryz.f57 [.agg (SN.cells .cmd c)] (asR [.st .cmd]) = Un c := by kernel_rfl
theorem qeh : FnOK Tryz.prog 57 ∧ CtrOK Tryz.prog GL 57 (ql [.st .cmd] [.st .cmd] Un) :=
 q7 (E := VG) zR (.nil) qeg J3 vV in57 (fun c _ => qi rfl c) (fun xs => qab xs.1)
noncomputable def VE : Env := { ty := VO, ctr := [(94, YC [.st .cmd] cofF), (39, ql [.sl .I, .sl .I] [.bool] kP)], inl := [], eqs := [(119, [.I, .I, .I, .I, .I, .I, .I])], glob := GL, L := qn, get := [] }
noncomputable def csame.H : Hints := ⟨[], []⟩
noncomputable def Ug (a : Cmd) (b : Cmd) : Option (Bool) := cnd (band (ieq a.kind b.kind) (band (ieq a.dir b.dir) (band (ieq a.item b.item) (band (ieq a.box b.box) (band (ieq a.who b.who) (band (ieq a.pay b.pay) (ieq a.fee b.fee))))))) (obind (kP a.gives b.gives) (fun x => cnd x (obind (kP a.wants b.wants) (fun x_1 => some x_1)) (some false))) (some false)
theorem qd8 : InlsOK Tryz.prog VE csame.H VE.inl := .nil
theorem MU (a : Cmd) (b : Cmd) : q9 VE csame.H 56 Tryz.f56 [.agg (SN.cells .cmd a), .agg (SN.cells .cmd b)] (asR [.bool]) = Ug a b := by kernel_rfl
theorem qd9 : FnOK Tryz.prog 56 ∧ CtrOK Tryz.prog GL 56 (ql [.st .cmd, .st .cmd] [.bool] Ug) :=
 q7 (E := VE) zR (.cons cof_ctr (.cons GK .nil)) qd8 J3 vV in56 (fun c _ => qi rfl c) (fun xs => MU xs.1 xs.2.1)
noncomputable def Dr : Env := { ty := VO, ctr := [(55, ql [.I] [.str] Kz), (58, ql [.I] [.str] YB), (56, ql [.st .cmd, .st .cmd] [.bool] Ug), (57, ql [.st .cmd] [.st .cmd] Un), (60, ql [.sl .I] [.bool] Uh)], inl := [(59, Tryz.f59)], eqs := [(119, [.I, .I, .I, .I, .I, .I, .I])], glob := GL, L := qn, get := [] }
noncomputable def cmay.H : Hints := ⟨[], []⟩
noncomputable def Uk (c : Cmd) : Option (Bool) := obind (Kz c.kind) (fun x => cnd (bnot (seq x (([] : List UInt8)))) (obind (Un (⟨c.kind, c.dir, c.item, c.box, c.who, c.gives, c.pay, c.wants, c.fee⟩)) (fun x_1 => obind (Ug (⟨c.kind, c.dir, c.item, c.box, c.who, c.gives, c.pay, c.wants, c.fee⟩) (⟨x_1.kind, x_1.dir, x_1.item, x_1.box, x_1.who, x_1.gives, x_1.pay, x_1.wants, x_1.fee⟩)) (fun x_2 => cnd x_2 (obind (YB c.dir) (fun x_3 => cnd (bnot (seq x_3 (([] : List UInt8)))) (cnd (ile 0 c.item) (cnd (ile c.item 1073741824) (cnd (ile 0 c.box) (cnd (ile c.box 1073741824) (cnd (ile 0 c.who) (cnd (ile c.who 1073741824) (cnd (ile 0 c.pay) (cnd (ile c.pay 1073741824) (cnd (ile 0 c.fee) (cnd (ile c.fee 1073741824) (obind (Uh c.gives) (fun x_4 => cnd x_4 (obind (Uh c.wants) (fun x_5 => some x_5)) (some false))) (some false)) (some false)) (some false)) (some false)) (some false)) (some false)) (some false)) (some false)) (some false)) (some false)) (some false))) (some false)))) (some false))
theorem qig : InlsOK Tryz.prog Dr cmay.H Dr.inl := .cons in59 (fun c _ => qi rfl c) .nil
theorem qed (c : Cmd) : q9 Dr cmay.H 29 Tryz.f29 [.agg (SN.cells .cmd c)] (asR [.bool]) = Uk c := by kernel_rfl
theorem qih : FnOK Tryz.prog 29 ∧ CtrOK Tryz.prog GL 29 (ql [.st .cmd] [.bool] Uk) :=
 q7 (E := Dr) zR (.cons qec (.cons qh4 (.cons qd9 (.cons qeh (.cons qh9 .nil))))) qig J3 vV in29 (fun c _ => qi rfl c) (fun xs => qed xs.1)
noncomputable def gK : Env := { ty := VO, ctr := [], inl := [], eqs := [(119, [.I, .I, .I, .I, .I, .I, .I])], glob := GL, L := qn, get := [] }
noncomputable def r3ints.lr4.sp : SPat := ⟨26, [0, 1, 5], [.sl .I, .sl .I, .I], [], [], 0⟩
noncomputable def r3ints.lr4.es : List (Ex × SPat) := [(.ret, ⟨26, [4], [.bool], [], [], 0⟩), (.exit 0, ⟨26, [], [], [], [], 0⟩)]
noncomputable def r3ints.lr4.T : ((((List Int) × ((List Int) × (Int × Unit))) × Unit) → Option (((Bool × Unit) × Unit) ⊕ (Unit × Unit))) → (((List Int) × ((List Int) × (Int × Unit))) × Unit) → Option (((Bool × Unit) × Unit) ⊕ (Unit × Unit)) := fun rec x =>
 cnd (ilt x.1.2.2.1 (qh x.1.1)) (obind (lget x.1.1 x.1.2.2.1) (fun x_1 => obind (lget x.1.2.1 x.1.2.2.1) (fun x_2 => cnd (bnot (ieq x_1 x_2)) (some (.inl ((false, ()), ()))) (rec ((x.1.1, (x.1.2.1, (wrap .i64 (iadd x.1.2.2.1 1), ()))), ()))))) (some (.inr ((), ())))
noncomputable def r3ints.lr4 : Alt := ⟨r3ints.lr4.sp, r3ints.lr4.es, 100, r3ints.lr4.T⟩
noncomputable def r3ints.H : Hints := ⟨[(13, [(4, [r3ints.lr4])])], []⟩
noncomputable def zU (a : List Int) (b : List Int) : Option (Bool) := cnd (bnot (ieq (qh a) (qh b))) (some false) (obind (qr r3ints.lr4.T qn (((a, (b, (0, ()))), ()))) (fun x => scase x (fun x_1 => some x_1.1.1) (fun x_1 => some true)))
theorem B0 : Alt.Round gK r3ints.H 13 (qN r3ints.H 13 Tryz.f13 0) r3ints.lr4 := by intro rec x; kernel_rfl
theorem UD : ∀ c, Tryz.f13.body = some c → ToldC gK r3ints.H 13 c := qV [r3ints.lr4] (by kernel_rfl) (fun i hi => match i, hi with | 0, _ => B0 | n + 1, h => absurd h (by simp))
theorem Mi : InlsOK Tryz.prog gK r3ints.H gK.inl := .nil
theorem DV (a : List Int) (b : List Int) : q9 gK r3ints.H 13 Tryz.f13 [.sl .I a, .sl .I b] (asR [.bool]) = zU a b := by kernel_rfl
theorem Gv : FnOK Tryz.prog 13 ∧ CtrOK Tryz.prog GL 13 (ql [.sl .I, .sl .I] [.bool] zU) :=
 q7 (E := gK) zR (.nil) Mi J3 vV in13 UD (fun xs => DV xs.1 xs.2.1)
noncomputable def r3row.lr4.sp : SPat := ⟨26, [0, 5], [.sl .I, .I], [], [], 0⟩
noncomputable def r3row.lr4.es : List (Ex × SPat) := [(.ret, ⟨26, [4], [.bool], [], [], 0⟩), (.exit 0, ⟨26, [0], [.sl .I], [], [], 0⟩)]
noncomputable def r3row.lr4.T : ((((List Int) × (Int × Unit)) × Unit) → Option (((Bool × Unit) × Unit) ⊕ (((List Int) × Unit) × Unit))) → (((List Int) × (Int × Unit)) × Unit) → Option (((Bool × Unit) × Unit) ⊕ (((List Int) × Unit) × Unit)) := fun rec x =>
 cnd (ilt x.1.2.1 (qh x.1.1)) (obind (lget x.1.1 x.1.2.1) (fun x_1 => cnd (ile 0 x_1) (cnd (bnot (ile x_1 1073741824)) (some (.inl ((false, ()), ()))) (rec ((x.1.1, (wrap .i64 (iadd x.1.2.1 1), ())), ()))) (some (.inl ((false, ()), ()))))) (some (.inr ((x.1.1, ()), ())))
noncomputable def r3row.lr4 : Alt := ⟨r3row.lr4.sp, r3row.lr4.es, 100, r3row.lr4.T⟩
noncomputable def r3row.H : Hints := ⟨[(82, [(4, [r3row.lr4])])], []⟩
noncomputable def qC (l : List Int) (h : Bool) : Option (Bool) := cnd (bnot h) (some (ieq (qh l) 0)) (obind (qr r3row.lr4.T qn (((l, (0, ())), ()))) (fun x => scase x (fun x_1 => some x_1.1.1) (fun x_1 => some (ile (qh x_1.1.1) 16))))
noncomputable def r3fit.H : Hints := ⟨[], []⟩
noncomputable def qt (n : Int) (h : Bool) : Option (Bool) := cnd (bnot h) (some (ieq n 0)) (cnd (ile 0 n) (some (ile n 1073741824)) (some false))
noncomputable def r3may.H : Hints := ⟨[], []⟩
noncomputable def Bz (c : Cmd) : Option (Bool) := cnd (ilt c.kind 1) (some false) (cnd (ilt 10 c.kind) (some false) (cnd (ilt c.dir 0) (some false) (cnd (ilt 3 c.dir) (some false) (cnd (bnot (ieq c.dir 0)) (cnd (ilt 2 c.kind) (some false) (cnd (ile 3 c.kind) (obind (qt c.item (ile c.kind 7)) (fun x => cnd x (cnd (ieq c.kind 5) (obind (qt c.box true) (fun x_1 => cnd x_1 (cnd (ieq c.kind 2) (obind (qt c.who true) (fun x_2 => cnd x_2 (obind (qt c.pay (ieq c.kind 8)) (fun x_3 => cnd x_3 (obind (qt c.fee (ieq c.kind 8)) (fun x_4 => cnd x_4 (obind (qC c.gives (ieq c.kind 8)) (fun x_5 => cnd x_5 (obind (qC c.wants (ieq c.kind 8)) (fun x_6 => some x_6)) (some false))) (some false))) (some false))) (some false))) (cnd (ieq c.kind 7) (obind (qt c.who true) (fun x_2 => cnd x_2 (obind (qt c.pay (ieq c.kind 8)) (fun x_3 => cnd x_3 (obind (qt c.fee (ieq c.kind 8)) (fun x_4 => cnd x_4 (obind (qC c.gives (ieq c.kind 8)) (fun x_5 => cnd x_5 (obind (qC c.wants (ieq c.kind 8)) (fun x_6 => some x_6)) (some false))) (some false))) (some false))) (some false))) (obind (qt c.who (ieq c.kind 8)) (fun x_2 => cnd x_2 (obind (qt c.pay (ieq c.kind 8)) (fun x_3 => cnd x_3 (obind (qt c.fee (ieq c.kind 8)) (fun x_4 => cnd x_4 (obind (qC c.gives (ieq c.kind 8)) (fun x_5 => cnd x_5 (obind (qC c.wants (ieq c.kind 8)) (fun x_6 => some x_6)) (some false))) (some false))) (some false))) (some false))))) (some false))) (obind (qt c.box (ieq c.kind 6)) (fun x_1 => cnd x_1 (cnd (ieq c.kind 2) (obind (qt c.who true) (fun x_2 => cnd x_2 (obind (qt c.pay (ieq c.kind 8)) (fun x_3 => cnd x_3 (obind (qt c.fee (ieq c.kind 8)) (fun x_4 => cnd x_4 (obind (qC c.gives (ieq c.kind 8)) (fun x_5 => cnd x_5 (obind (qC c.wants (ieq c.kind 8)) (fun x_6 => some x_6)) (some false))) (some false))) (some false))) (some false))) (cnd (ieq c.kind 7) (obind (qt c.who true) (fun x_2 => cnd x_2 (obind (qt c.pay (ieq c.kind 8)) (fun x_3 => cnd x_3 (obind (qt c.fee (ieq c.kind 8)) (fun x_4 => cnd x_4 (obind (qC c.gives (ieq c.kind 8)) (fun x_5 => cnd x_5 (obind (qC c.wants (ieq c.kind 8)) (fun x_6 => some x_6)) (some false))) (some false))) (some false))) (some false))) (obind (qt c.who (ieq c.kind 8)) (fun x_2 => cnd x_2 (obind (qt c.pay (ieq c.kind 8)) (fun x_3 => cnd x_3 (obind (qt c.fee (ieq c.kind 8)) (fun x_4 => cnd x_4 (obind (qC c.gives (ieq c.kind 8)) (fun x_5 => cnd x_5 (obind (qC c.wants (ieq c.kind 8)) (fun x_6 => some x_6)) (some false))) (some false))) (some false))) (some false))))) (some false)))) (some false))) (obind (qt c.item false) (fun x => cnd x (cnd (ieq c.kind 5) (obind (qt c.box true) (fun x_1 => cnd x_1 (cnd (ieq c.kind 2) (obind (qt c.who true) (fun x_2 => cnd x_2 (obind (qt c.pay (ieq c.kind 8)) (fun x_3 => cnd x_3 (obind (qt c.fee (ieq c.kind 8)) (fun x_4 => cnd x_4 (obind (qC c.gives (ieq c.kind 8)) (fun x_5 => cnd x_5 (obind (qC c.wants (ieq c.kind 8)) (fun x_6 => some x_6)) (some false))) (some false))) (some false))) (some false))) (cnd (ieq c.kind 7) (obind (qt c.who true) (fun x_2 => cnd x_2 (obind (qt c.pay (ieq c.kind 8)) (fun x_3 => cnd x_3 (obind (qt c.fee (ieq c.kind 8)) (fun x_4 => cnd x_4 (obind (qC c.gives (ieq c.kind 8)) (fun x_5 => cnd x_5 (obind (qC c.wants (ieq c.kind 8)) (fun x_6 => some x_6)) (some false))) (some false))) (some false))) (some false))) (obind (qt c.who (ieq c.kind 8)) (fun x_2 => cnd x_2 (obind (qt c.pay (ieq c.kind 8)) (fun x_3 => cnd x_3 (obind (qt c.fee (ieq c.kind 8)) (fun x_4 => cnd x_4 (obind (qC c.gives (ieq c.kind 8)) (fun x_5 => cnd x_5 (obind (qC c.wants (ieq c.kind 8)) (fun x_6 => some x_6)) (some false))) (some false))) (some false))) (some false))))) (some false))) (obind (qt c.box (ieq c.kind 6)) (fun x_1 => cnd x_1 (cnd (ieq c.kind 2) (obind (qt c.who true) (fun x_2 => cnd x_2 (obind (qt c.pay (ieq c.kind 8)) (fun x_3 => cnd x_3 (obind (qt c.fee (ieq c.kind 8)) (fun x_4 => cnd x_4 (obind (qC c.gives (ieq c.kind 8)) (fun x_5 => cnd x_5 (obind (qC c.wants (ieq c.kind 8)) (fun x_6 => some x_6)) (some false))) (some false))) (some false))) (some false))) (cnd (ieq c.kind 7) (obind (qt c.who true) (fun x_2 => cnd x_2 (obind (qt c.pay (ieq c.kind 8)) (fun x_3 => cnd x_3 (obind (qt c.fee (ieq c.kind 8)) (fun x_4 => cnd x_4 (obind (qC c.gives (ieq c.kind 8)) (fun x_5 => cnd x_5 (obind (qC c.wants (ieq c.kind 8)) (fun x_6 => some x_6)) (some false))) (some false))) (some false))) (some false))) (obind (qt c.who (ieq c.kind 8)) (fun x_2 => cnd x_2 (obind (qt c.pay (ieq c.kind 8)) (fun x_3 => cnd x_3 (obind (qt c.fee (ieq c.kind 8)) (fun x_4 => cnd x_4 (obind (qC c.gives (ieq c.kind 8)) (fun x_5 => cnd x_5 (obind (qC c.wants (ieq c.kind 8)) (fun x_6 => some x_6)) (some false))) (some false))) (some false))) (some false))))) (some false)))) (some false))))) (cnd (ile 3 c.kind) (obind (qt c.item (ile c.kind 7)) (fun x => cnd x (cnd (ieq c.kind 5) (obind (qt c.box true) (fun x_1 => cnd x_1 (cnd (ieq c.kind 2) (obind (qt c.who true) (fun x_2 => cnd x_2 (obind (qt c.pay (ieq c.kind 8)) (fun x_3 => cnd x_3 (obind (qt c.fee (ieq c.kind 8)) (fun x_4 => cnd x_4 (obind (qC c.gives (ieq c.kind 8)) (fun x_5 => cnd x_5 (obind (qC c.wants (ieq c.kind 8)) (fun x_6 => some x_6)) (some false))) (some false))) (some false))) (some false))) (cnd (ieq c.kind 7) (obind (qt c.who true) (fun x_2 => cnd x_2 (obind (qt c.pay (ieq c.kind 8)) (fun x_3 => cnd x_3 (obind (qt c.fee (ieq c.kind 8)) (fun x_4 => cnd x_4 (obind (qC c.gives (ieq c.kind 8)) (fun x_5 => cnd x_5 (obind (qC c.wants (ieq c.kind 8)) (fun x_6 => some x_6)) (some false))) (some false))) (some false))) (some false))) (obind (qt c.who (ieq c.kind 8)) (fun x_2 => cnd x_2 (obind (qt c.pay (ieq c.kind 8)) (fun x_3 => cnd x_3 (obind (qt c.fee (ieq c.kind 8)) (fun x_4 => cnd x_4 (obind (qC c.gives (ieq c.kind 8)) (fun x_5 => cnd x_5 (obind (qC c.wants (ieq c.kind 8)) (fun x_6 => some x_6)) (some false))) (some false))) (some false))) (some false))))) (some false))) (obind (qt c.box (ieq c.kind 6)) (fun x_1 => cnd x_1 (cnd (ieq c.kind 2) (obind (qt c.who true) (fun x_2 => cnd x_2 (obind (qt c.pay (ieq c.kind 8)) (fun x_3 => cnd x_3 (obind (qt c.fee (ieq c.kind 8)) (fun x_4 => cnd x_4 (obind (qC c.gives (ieq c.kind 8)) (fun x_5 => cnd x_5 (obind (qC c.wants (ieq c.kind 8)) (fun x_6 => some x_6)) (some false))) (some false))) (some false))) (some false))) (cnd (ieq c.kind 7) (obind (qt c.who true) (fun x_2 => cnd x_2 (obind (qt c.pay (ieq c.kind 8)) (fun x_3 => cnd x_3 (obind (qt c.fee (ieq c.kind 8)) (fun x_4 => cnd x_4 (obind (qC c.gives (ieq c.kind 8)) (fun x_5 => cnd x_5 (obind (qC c.wants (ieq c.kind 8)) (fun x_6 => some x_6)) (some false))) (some false))) (some false))) (some false))) (obind (qt c.who (ieq c.kind 8)) (fun x_2 => cnd x_2 (obind (qt c.pay (ieq c.kind 8)) (fun x_3 => cnd x_3 (obind (qt c.fee (ieq c.kind 8)) (fun x_4 => cnd x_4 (obind (qC c.gives (ieq c.kind 8)) (fun x_5 => cnd x_5 (obind (qC c.wants (ieq c.kind 8)) (fun x_6 => some x_6)) (some false))) (some false))) (some false))) (some false))))) (some false)))) (some false))) (obind (qt c.item false) (fun x => cnd x (cnd (ieq c.kind 5) (obind (qt c.box true) (fun x_1 => cnd x_1 (cnd (ieq c.kind 2) (obind (qt c.who true) (fun x_2 => cnd x_2 (obind (qt c.pay (ieq c.kind 8)) (fun x_3 => cnd x_3 (obind (qt c.fee (ieq c.kind 8)) (fun x_4 => cnd x_4 (obind (qC c.gives (ieq c.kind 8)) (fun x_5 => cnd x_5 (obind (qC c.wants (ieq c.kind 8)) (fun x_6 => some x_6)) (some false))) (some false))) (some false))) (some false))) (cnd (ieq c.kind 7) (obind (qt c.who true) (fun x_2 => cnd x_2 (obind (qt c.pay (ieq c.kind 8)) (fun x_3 => cnd x_3 (obind (qt c.fee (ieq c.kind 8)) (fun x_4 => cnd x_4 (obind (qC c.gives (ieq c.kind 8)) (fun x_5 => cnd x_5 (obind (qC c.wants (ieq c.kind 8)) (fun x_6 => some x_6)) (some false))) (some false))) (some false))) (some false))) (obind (qt c.who (ieq c.kind 8)) (fun x_2 => cnd x_2 (obind (qt c.pay (ieq c.kind 8)) (fun x_3 => cnd x_3 (obind (qt c.fee (ieq c.kind 8)) (fun x_4 => cnd x_4 (obind (qC c.gives (ieq c.kind 8)) (fun x_5 => cnd x_5 (obind (qC c.wants (ieq c.kind 8)) (fun x_6 => some x_6)) (some false))) (some false))) (some false))) (some false))))) (some false))) (obind (qt c.box (ieq c.kind 6)) (fun x_1 => cnd x_1 (cnd (ieq c.kind 2) (obind (qt c.who true) (fun x_2 => cnd x_2 (obind (qt c.pay (ieq c.kind 8)) (fun x_3 => cnd x_3 (obind (qt c.fee (ieq c.kind 8)) (fun x_4 => cnd x_4 (obind (qC c.gives (ieq c.kind 8)) (fun x_5 => cnd x_5 (obind (qC c.wants (ieq c.kind 8)) (fun x_6 => some x_6)) (some false))) (some false))) (some false))) (some false))) (cnd (ieq c.kind 7) (obind (qt c.who true) (fun x_2 => cnd x_2 (obind (qt c.pay (ieq c.kind 8)) (fun x_3 => cnd x_3 (obind (qt c.fee (ieq c.kind 8)) (fun x_4 => cnd x_4 (obind (qC c.gives (ieq c.kind 8)) (fun x_5 => cnd x_5 (obind (qC c.wants (ieq c.kind 8)) (fun x_6 => some x_6)) (some false))) (some false))) (some false))) (some false))) (obind (qt c.who (ieq c.kind 8)) (fun x_2 => cnd x_2 (obind (qt c.pay (ieq c.kind 8)) (fun x_3 => cnd x_3 (obind (qt c.fee (ieq c.kind 8)) (fun x_4 => cnd x_4 (obind (qC c.gives (ieq c.kind 8)) (fun x_5 => cnd x_5 (obind (qC c.wants (ieq c.kind 8)) (fun x_6 => some x_6)) (some false))) (some false))) (some false))) (some false))))) (some false)))) (some false))))))))
noncomputable def V8 : Env := { ty := VO, ctr := [], inl := [], eqs := [(119, [.I, .I, .I, .I, .I, .I, .I])], glob := GL, L := qn, get := [] }
noncomputable def r3few.H : Hints := ⟨[], []⟩
noncomputable def Kb (c : Cmd) : Option (Bool) := cnd (ile (qh c.gives) 40) (some (ile (qh c.wants) 40)) (some false)
theorem qc1 : InlsOK Tryz.prog V8 r3few.H V8.inl := .nil
theorem Mj (c : Cmd) : q9 V8 r3few.H 17 Tryz.f17 [.agg (SN.cells .cmd c)] (asR [.bool]) = Kb c := by kernel_rfl
theorem qc2 : FnOK Tryz.prog 17 ∧ CtrOK Tryz.prog GL 17 (ql [.st .cmd] [.bool] Kb) :=
 q7 (E := V8) zR (.nil) qc1 J3 vV in17 (fun c _ => qi rfl c) (fun xs => Mj xs.1)
end Go.Sx
