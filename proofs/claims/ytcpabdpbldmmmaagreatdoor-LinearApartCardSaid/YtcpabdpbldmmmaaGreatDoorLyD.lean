/-
  commands done at once, walked (printed by wip/dev/gen2.py)
-/
import Derived.Test.YtcpabdpbldmmmaaGreatDoorLyB
import Derived.Test.YtcpabdpbldmmmaaGreatDoorLyH
import Derived.Test.YtcpabdpbldmmmaaGreatDoorProg
import Derived.KernelRfl
set_option linter.unusedVariables false
set_option linter.unusedSimpArgs false
namespace Go.Sx
open Go Go.Proofs
def VQ : List (Nat × TyI) :=
 [(3, ⟨false, 1, 8, [.I 0], some .I, .I⟩),
  (4, ⟨false, 1, 1, [.bool false], some .bool, .bool⟩),
  (22, ⟨false, 1, 24, [.nilsl], some (.sl (.st .exits)), .sl 104⟩),
  (23, ⟨false, 1, 24, [.nilsl], some (.sl .I), .sl 3⟩),
  (24, ⟨false, 1, 24, [.nilsl], some (.sl .bool), .sl 4⟩),
  (26, ⟨true, 8, 144, [.nilsl, .nilsl, .nilsl, .nilsl, .nilsl, .I 0, .I 0, .I 0], some (.st .desc), .st [(0, 22), (1, 23), (2, 23), (3, 23), (4, 24), (5, 3), (6, 3), (7, 3)]⟩),
  (27, ⟨false, 1, 24, [.nilsl], some (.sl (.st .place)), .sl 65⟩),
  (29, ⟨true, 11, 216, [.nilsl, .nilsl, .nilsl, .nilsl, .nilsl, .I 0, .I 0, .I 0, .nilsl, .nilsl, .nilsl], some (.st .world), .st [(0, 26), (8, 23), (9, 23), (10, 27)]⟩),
  (31, ⟨false, 1, 8, [.nilf], none, .func⟩),
  (37, ⟨true, 9, 104, [.I 0, .I 0, .I 0, .I 0, .I 0, .nilsl, .I 0, .nilsl, .I 0], some (.st .cmd), .st [(0, 3), (1, 3), (2, 3), (3, 3), (4, 3), (5, 23), (6, 3), (7, 23), (8, 3)]⟩),
  (38, ⟨false, 1, 8, [.I 0], some .I, .I⟩),
  (39, ⟨false, 1, 24, [.nilsl], some (.sl (.st .seen)), .sl 77⟩),
  (41, ⟨true, 6, 80, [.I 0, .I 0, .I 0, .nilsl, .nilsl, .I 0], some (.st .reply), .st [(0, 38), (1, 3), (2, 3), (3, 23), (4, 39), (5, 3)]⟩),
  (45, ⟨false, 1, 8, [.nilf], none, .func⟩),
  (61, ⟨false, 1, 8, [.nilf], none, .func⟩),
  (62, ⟨false, 1, 8, [.nilm], none, .map 3 61⟩),
  (65, ⟨true, 2, 16, [.I 0, .I 0], some (.st .place), .st [(0, 3), (1, 3)]⟩),
  (77, ⟨true, 3, 24, [.I 0, .I 0, .I 0], some (.st .seen), .st [(0, 3), (1, 65)]⟩),
  (85, ⟨false, 1, 8, [.nilf], none, .func⟩),
  (96, ⟨false, 1, 8, [.nilf], none, .func⟩),
  (101, ⟨false, 1, 8, [.nilf], none, .func⟩),
  (104, ⟨true, 4, 32, [.I 0, .I 0, .I 0, .I 0], some (.st .exits), .arr 4 3⟩),
  (132, ⟨true, 2, 16, [.nilf, .I 0], none, .st [(0, 31), (1, 38)]⟩),
  (141, ⟨false, 1, 24, [.nilsl], none, .sl 132⟩)]
theorem zT : (VQ.all fun p => J7 Tryz.prog p.1 p.2) = true := by kernel_rfl
theorem vX : Tryz.prog.follows .mixedOrders = true := by kernel_rfl
theorem J5 : EqsOK Tryz.prog [(65, [.I, .I])] := .cons (kV (P := Tryz.prog) (t := 65) (ks := [.I, .I]) (by kernel_rfl) (by kernel_rfl) (by kernel_rfl)) .nil
theorem in12 : FnIn Tryz.prog 12 Tryz.f12 := .mk Tryz.func12 (by kernel_rfl) (by kernel_rfl)
theorem in30 : FnIn Tryz.prog 30 Tryz.f30 := .mk Tryz.func30 (by kernel_rfl) (by kernel_rfl)
theorem in61 : FnIn Tryz.prog 61 Tryz.f61 := .mk Tryz.func61 (by kernel_rfl) (by kernel_rfl)
theorem in62 : FnIn Tryz.prog 62 Tryz.f62 := .mk Tryz.func62 (by kernel_rfl) (by kernel_rfl)
theorem in64 : FnIn Tryz.prog 64 Tryz.f64 := .mk Tryz.func64 (by kernel_rfl) (by kernel_rfl)
theorem in66 : FnIn Tryz.prog 66 Tryz.f66 := .mk Tryz.func66 (by kernel_rfl) (by kernel_rfl)
theorem in67 : FnIn Tryz.prog 67 Tryz.f67 := .mk Tryz.func67 (by kernel_rfl) (by kernel_rfl)
theorem in69 : FnIn Tryz.prog 69 Tryz.f69 := .mk Tryz.func69 (by kernel_rfl) (by kernel_rfl)
theorem in71 : FnIn Tryz.prog 71 Tryz.f71 := .mk Tryz.func71 (by kernel_rfl) (by kernel_rfl)
theorem in72 : FnIn Tryz.prog 72 Tryz.f72 := .mk Tryz.func72 (by kernel_rfl) (by kernel_rfl)
theorem in73 : FnIn Tryz.prog 73 Tryz.f73 := .mk Tryz.func73 (by kernel_rfl) (by kernel_rfl)
theorem in74 : FnIn Tryz.prog 74 Tryz.f74 := .mk Tryz.func74 (by kernel_rfl) (by kernel_rfl)
theorem in75 : FnIn Tryz.prog 75 Tryz.f75 := .mk Tryz.func75 (by kernel_rfl) (by kernel_rfl)
theorem in78 : FnIn Tryz.prog 78 Tryz.f78 := .mk Tryz.func78 (by kernel_rfl) (by kernel_rfl)
theorem in79 : FnIn Tryz.prog 79 Tryz.f79 := .mk Tryz.func79 (by kernel_rfl) (by kernel_rfl)
theorem in80 : FnIn Tryz.prog 80 Tryz.f80 := .mk Tryz.func80 (by kernel_rfl) (by kernel_rfl)
theorem in97 : FnIn Tryz.prog 97 Tryz.f97 := .mk Tryz.func97 (by kernel_rfl) (by kernel_rfl)
theorem in98 : FnIn Tryz.prog 98 Tryz.f98 := .mk Tryz.func98 (by kernel_rfl) (by kernel_rfl)
theorem in102 : FnIn Tryz.prog 102 Tryz.f102 := .mk Tryz.func102 (by kernel_rfl) (by kernel_rfl)
theorem in105 : FnIn Tryz.prog 105 Tryz.f105 := .mk Tryz.func105 (by kernel_rfl) (by kernel_rfl)
theorem in106 : FnIn Tryz.prog 106 Tryz.f106 := .mk Tryz.func106 (by kernel_rfl) (by kernel_rfl)
theorem in107 : FnIn Tryz.prog 107 Tryz.f107 := .mk Tryz.func107 (by kernel_rfl) (by kernel_rfl)
theorem in108 : FnIn Tryz.prog 108 Tryz.f108 := .mk Tryz.func108 (by kernel_rfl) (by kernel_rfl)
theorem in109 : FnIn Tryz.prog 109 Tryz.f109 := .mk Tryz.func109 (by kernel_rfl) (by kernel_rfl)
theorem in110 : FnIn Tryz.prog 110 Tryz.f110 := .mk Tryz.func110 (by kernel_rfl) (by kernel_rfl)
theorem in111 : FnIn Tryz.prog 111 Tryz.f111 := .mk Tryz.func111 (by kernel_rfl) (by kernel_rfl)
theorem in113 : FnIn Tryz.prog 113 Tryz.f113 := .mk Tryz.func113 (by kernel_rfl) (by kernel_rfl)
theorem in115 : FnIn Tryz.prog 115 Tryz.f115 := .mk Tryz.func115 (by kernel_rfl) (by kernel_rfl)
theorem in116 : FnIn Tryz.prog 116 Tryz.f116 := .mk Tryz.func116 (by kernel_rfl) (by kernel_rfl)
theorem in119 : FnIn Tryz.prog 119 Tryz.f119 := .mk Tryz.func119 (by kernel_rfl) (by kernel_rfl)
theorem in120 : FnIn Tryz.prog 120 Tryz.f120 := .mk Tryz.func120 (by kernel_rfl) (by kernel_rfl)
theorem in121 : FnIn Tryz.prog 121 Tryz.f121 := .mk Tryz.func121 (by kernel_rfl) (by kernel_rfl)
theorem in122 : FnIn Tryz.prog 122 Tryz.f122 := .mk Tryz.func122 (by kernel_rfl) (by kernel_rfl)
theorem in123 : FnIn Tryz.prog 123 Tryz.f123 := .mk Tryz.func123 (by kernel_rfl) (by kernel_rfl)
theorem in133 : FnIn Tryz.prog 133 Tryz.f133 := .mk Tryz.func133 (by kernel_rfl) (by kernel_rfl)
theorem in135 : FnIn Tryz.prog 135 Tryz.f135 := .mk Tryz.func135 (by kernel_rfl) (by kernel_rfl)
noncomputable def kX : Env := { ty := VQ, ctr := [(112, ql [.st .world, .I, .I] [.bool] zx), (114, ql [.st .world, .I] [.I] kM)], inl := [], eqs := [(65, [.I, .I])], glob := GL, L := qn, get := [] }
noncomputable def theight.lr3.sp : SPat := ⟨28, [1, 2, 5, 9, 10], [.I, .ptr 0 0, .I, .I, .I], [wBP], [], 0⟩
noncomputable def theight.lr3.es : List (Ex × SPat) := [(.exit 0, ⟨28, [5], [.I], [], [], 0⟩)]
abbrev theight.lr3.X : Type := ((Int × (Int × (Int × (Int × Unit)))) × (WTy × Unit))
abbrev theight.lr3.O : Type := ((Int × Unit) × Unit)
noncomputable def theight.lr3.T : (theight.lr3.X → Option theight.lr3.O) → theight.lr3.X → Option theight.lr3.O := fun rec x =>
 let a1 := x.1.2.1; let a2 := x.1.2.2.1; let a3 := x.1.2.2.2.1; cnd (ilt a3 a2) (obind (zx ((wOf x.2.1)) a3 x.1.1) (fun x_1 => cnd x_1 (obind (kM ((wOf x.2.1)) a3) (fun x_2 => obind (kM ((wOf x.2.1)) x.1.1) (fun x_3 => rec ((x.1.1, (BK a1 (wrap .i64 (isub x_2 x_3)), (a2, (wrap .i64 (iadd a3 1), ())))), (x.2.1, ()))))) (rec ((x.1.1, (a1, (a2, (wrap .i64 (iadd a3 1), ())))), (x.2.1, ()))))) (some ((a1, ()), ()))
noncomputable def theight.lr3 : Alt := ⟨theight.lr3.sp, theight.lr3.es, 100, theight.lr3.T⟩
noncomputable def theight.H : Hints := ⟨[(115, [(3, [theight.lr3])])], []⟩
noncomputable def gn (w : Sx.World) (i : Int) : Option (Int) := obind (qr theight.lr3.T qn (((i, (0, (qh w.where_, (0, ())))), ((wTo w), ())))) (fun x => some x.1.1)
theorem VY : Alt.Round kX theight.H 115 (qN theight.H 115 Tryz.f115 0) theight.lr3 := by intro rec x; kernel_rfl
theorem Ve : ∀ c, Tryz.f115.body = some c → ToldC kX theight.H 115 c := qV [theight.lr3] (by kernel_rfl) (fun i hi => match i, hi with | 0, _ => VY | n + 1, h => absurd h (by simp))
theorem D0 : InlsOK Tryz.prog kX theight.H kX.inl := .nil
theorem YX (w : Sx.World) (i : Int) : q9 kX theight.H 115 Tryz.f115 [.agg (SN.cells .world w), .I i] (asR [.I]) = gn w i := by kernel_rfl
theorem D1 : FnOK Tryz.prog 115 ∧ CtrOK Tryz.prog GL 115 (ql [.st .world, .I] [.I] gn) :=
 q7 (E := kX) zT (.cons KB (.cons VZ .nil)) D0 J5 vX in115 Ve (fun xs => YX xs.1 xs.2.1)
noncomputable def gI : Env := { ty := VQ, ctr := [(140, ql [.st .world, .I] [.st .place] vQ)], inl := [], eqs := [(65, [.I, .I])], glob := GL, L := qn, get := [] }
noncomputable def tunder.lr3.sp : SPat := ⟨29, [2, 3, 5, 9, 10, 11], [.ptr 0 0, .ptr 1 0, .vec 3, .sl (.st .place), .I, .I], [wBP, .cells [.I, .I], .dead, .vec (.st .seen)], [], 0⟩
noncomputable def tunder.lr3.es : List (Ex × SPat) := [(.exit 0, ⟨29, [5], [.vec 3], [.dead, .dead, .dead, .vec (.st .seen)], [], 0⟩)]
abbrev tunder.lr3.X : Type := (((List Sx.Place) × (Int × (Int × Unit))) × (WTy × ((Int × (Int × Unit)) × ((List Sx.Seen) × Unit))))
abbrev tunder.lr3.O : Type := (Unit × ((List Sx.Seen) × Unit))
noncomputable def tunder.lr3.T : (tunder.lr3.X → Option tunder.lr3.O) → tunder.lr3.X → Option tunder.lr3.O := fun rec x =>
 let a1 := x.1.2.1; let a2 := x.1.2.2.1; let a3 := x.2.2.1.1; let a4 := x.2.2.1.2.1; let a5 := x.2.2.2.1; cnd (ilt a2 a1) (obind (lget x.1.1 a2) (fun x_1 => obind (vQ ((wOf x.2.1)) a2) (fun x_2 => cnd (band (ieq x_2.kind a3) (ieq x_2.id a4)) (cnd (ilt (imul (iadd (qh a5) 1) 24) 140737488355329) (rec ((x.1.1, (a1, (wrap .i64 (iadd a2 1), ()))), (x.2.1, ((a3, (a4, ())), (lapp a5 ([⟨a2, x_1⟩]), ()))))) (none)) (rec ((x.1.1, (a1, (wrap .i64 (iadd a2 1), ()))), (x.2.1, ((a3, (a4, ())), (a5, ())))))))) (some ((), (a5, ())))
noncomputable def tunder.lr3 : Alt := ⟨tunder.lr3.sp, tunder.lr3.es, 100, tunder.lr3.T⟩
noncomputable def tunder.H : Hints := ⟨[(135, [(3, [tunder.lr3])])], []⟩
noncomputable def vz (w : Sx.World) (p : Sx.Place) : Option (List Seen) := obind (qr tunder.lr3.T qn (((w.where_, (qh w.where_, (0, ()))), ((wTo w), ((p.kind, (p.id, ())), ([], ())))))) (fun x => some x.2.1)
theorem Uz : Alt.Round gI tunder.H 135 (qN tunder.H 135 Tryz.f135 0) tunder.lr3 := by intro rec x; kernel_rfl
theorem VT : ∀ c, Tryz.f135.body = some c → ToldC gI tunder.H 135 c := qV [tunder.lr3] (by kernel_rfl) (fun i hi => match i, hi with | 0, _ => Uz | n + 1, h => absurd h (by simp))
theorem N3 : InlsOK Tryz.prog gI tunder.H gI.inl := .nil
theorem Dy (w : Sx.World) (p : Sx.Place) : q9 gI tunder.H 135 Tryz.f135 [.agg (SN.cells .world w), .agg (SN.cells .place p)] (asR [.sl (.st .seen)]) = vz w p := by kernel_rfl
theorem VU : FnOK Tryz.prog 135 ∧ CtrOK Tryz.prog GL 135 (ql [.st .world, .st .place] [.sl (.st .seen)] vz) :=
 q7 (E := gI) zT (.cons UW .nil) N3 J5 vX in135 VT (fun xs => Dy xs.1 xs.2.1)
noncomputable def VI : Env := { ty := VQ, ctr := [], inl := [], eqs := [(65, [.I, .I])], glob := GL, L := qn, get := [] }
noncomputable def bnone.H : Hints := ⟨[], []⟩
noncomputable def ge (w : Sx.World) (i : Int) : Option (Bool) := cnd (ilt i 0) (some true) (some (ile (qh w.where_) i))
theorem qen : InlsOK Tryz.prog VI bnone.H VI.inl := .nil
theorem qaf (w : Sx.World) (i : Int) : q9 VI bnone.H 107 Tryz.f107 [.agg (SN.cells .world w), .I i] (asR [.bool]) = ge w i := by kernel_rfl
theorem YL : FnOK Tryz.prog 107 ∧ CtrOK Tryz.prog GL 107 (ql [.st .world, .I] [.bool] ge) :=
 q7 (E := VI) zT (.nil) qen J5 vX in107 (fun c _ => qi rfl c) (fun xs => qaf xs.1 xs.2.1)
noncomputable def VJ : Env := { ty := VQ, ctr := [(140, ql [.st .world, .I] [.st .place] vQ)], inl := [], eqs := [(65, [.I, .I])], glob := GL, L := qn, get := [] }
noncomputable def bnear.H : Hints := ⟨[], []⟩
noncomputable def QN (w : Sx.World) (p : Int) (i : Int) : Option (Bool) := obind (vQ (w) i) (fun x => obind (lget w.at_ p) (fun x_1 => cnd (band (ieq x.kind 0) (ieq x.id x_1)) (some true) (some (band (ieq x.kind 1) (ieq x.id p)))))
theorem qeo : InlsOK Tryz.prog VJ bnear.H VJ.inl := .nil
theorem qag (w : Sx.World) (p : Int) (i : Int) : q9 VJ bnear.H 109 Tryz.f109 [.agg (SN.cells .world w), .I p, .I i] (asR [.bool]) = QN w p i := by kernel_rfl
theorem YM : FnOK Tryz.prog 109 ∧ CtrOK Tryz.prog GL 109 (ql [.st .world, .I, .I] [.bool] QN) :=
 q7 (E := VJ) zT (.cons UW .nil) qeo J5 vX in109 (fun c _ => qi rfl c) (fun xs => qag xs.1 xs.2.1 xs.2.2.1)
noncomputable def Ds : Env := { ty := VQ, ctr := [(107, ql [.st .world, .I] [.bool] ge), (109, ql [.st .world, .I, .I] [.bool] QN), (112, ql [.st .world, .I, .I] [.bool] zx), (114, ql [.st .world, .I] [.I] kM), (115, ql [.st .world, .I] [.I] gn), (117, ql [.st .world, .st .place] [.I] zc), (118, ql [.st .world, .I, .st .place] [.st .world] Kq)], inl := [(105, Tryz.f105), (106, Tryz.f106), (108, Tryz.f108), (110, Tryz.f110), (111, Tryz.f111), (113, Tryz.f113), (116, Tryz.f116)], eqs := [(65, [.I, .I])], glob := GL, L := qn, get := [] }
noncomputable def bput.H : Hints := ⟨[], []⟩
noncomputable def YJ (w : Sx.World) (p : Int) (i : Int) (b : Int) : Option (Sx.World × Int) := obind (ge (w) i) (fun x => cnd x (some ((w, 3))) (obind (ge (w) b) (fun x_1 => cnd x_1 (some ((w, 3))) (obind (lget w.where_ i) (fun x_2 => cnd (bnot (band (ieq x_2.kind 1) (ieq x_2.id p))) (some ((w, 5))) (obind (QN (w) p b) (fun x_3 => cnd (bnot x_3) (some ((w, 5))) (obind (lget w.desc.boxes b) (fun x_4 => cnd (bnot x_4) (some ((w, 6))) (obind (zx (w) b i) (fun x_5 => cnd x_5 (some ((w, 7))) (obind (kM (w) b) (fun x_6 => obind (gn (w) i) (fun x_7 => cnd (ilt 4 (wrap .i64 (iadd (wrap .i64 (iadd x_6 1)) x_7))) (some ((w, 8))) (obind (zc (w) (⟨2, b⟩)) (fun x_8 => cnd (ilt x_8 1) (some ((w, 9))) (obind (Kq (w) i (⟨2, b⟩)) (fun x_9 => some ((x_9, 0))))))))))))))))))))
theorem qim : InlsOK Tryz.prog Ds bput.H Ds.inl := .cons in105 (fun c _ => qi rfl c) (.cons in106 (fun c _ => qi rfl c) (.cons in108 (fun c _ => qi rfl c) (.cons in110 (fun c _ => qi rfl c) (.cons in111 (fun c _ => qi rfl c) (.cons in113 (fun c _ => qi rfl c) (.cons in116 (fun c _ => qi rfl c) .nil))))))
theorem qem (w : Sx.World) (p : Int) (i : Int) (b : Int) : q9 Ds bput.H 72 Tryz.f72 [.agg (SN.cells .world w), .I p, .I i, .I b] (asR [.st .world, .I]) = YJ w p i b := by kernel_rfl
theorem qin : FnOK Tryz.prog 72 ∧ CtrOK Tryz.prog GL 72 (ql [.st .world, .I, .I, .I] [.st .world, .I] YJ) :=
 q7 (E := Ds) zT (.cons YL (.cons YM (.cons KB (.cons VZ (.cons D1 (.cons gm (.cons Vt .nil))))))) qim J5 vX in72 (fun c _ => qi rfl c) (fun xs => qem xs.1 xs.2.1 xs.2.2.1 xs.2.2.2.1)
noncomputable def VH : Env := { ty := VQ, ctr := [(107, ql [.st .world, .I] [.bool] ge), (109, ql [.st .world, .I, .I] [.bool] QN), (117, ql [.st .world, .st .place] [.I] zc), (118, ql [.st .world, .I, .st .place] [.st .world] Kq)], inl := [(105, Tryz.f105), (119, Tryz.f119), (120, Tryz.f120), (121, Tryz.f121), (122, Tryz.f122), (123, Tryz.f123)], eqs := [(65, [.I, .I])], glob := GL, L := qn, get := [] }
noncomputable def btake.H : Hints := ⟨[], []⟩
noncomputable def K2 (w : Sx.World) (p : Int) (i : Int) (b : Int) : Option (Sx.World × Int) := obind (ge (w) i) (fun x => cnd x (some ((w, 3))) (obind (ge (w) b) (fun x_1 => cnd x_1 (some ((w, 3))) (obind (QN (w) p b) (fun x_2 => cnd (bnot x_2) (some ((w, 5))) (obind (lget w.desc.boxes b) (fun x_3 => cnd (bnot x_3) (some ((w, 6))) (obind (lget w.where_ i) (fun x_4 => cnd (bnot (band (ieq x_4.kind 2) (ieq x_4.id b))) (some ((w, 5))) (obind (zc (w) (⟨1, p⟩)) (fun x_5 => cnd (ilt x_5 1) (some ((w, 9))) (obind (Kq (w) i (⟨1, p⟩)) (fun x_6 => some ((x_6, 0)))))))))))))))
theorem qek : InlsOK Tryz.prog VH btake.H VH.inl := .cons in105 (fun c _ => qi rfl c) (.cons in119 (fun c _ => qi rfl c) (.cons in120 (fun c _ => qi rfl c) (.cons in121 (fun c _ => qi rfl c) (.cons in122 (fun c _ => qi rfl c) (.cons in123 (fun c _ => qi rfl c) .nil)))))
theorem qae (w : Sx.World) (p : Int) (i : Int) (b : Int) : q9 VH btake.H 74 Tryz.f74 [.agg (SN.cells .world w), .I p, .I i, .I b] (asR [.st .world, .I]) = K2 w p i b := by kernel_rfl
theorem qel : FnOK Tryz.prog 74 ∧ CtrOK Tryz.prog GL 74 (ql [.st .world, .I, .I, .I] [.st .world, .I] K2) :=
 q7 (E := VH) zT (.cons YL (.cons YM (.cons gm (.cons Vt .nil)))) qek J5 vX in74 (fun c _ => qi rfl c) (fun xs => qae xs.1 xs.2.1 xs.2.2.1 xs.2.2.2.1)
noncomputable def V5 : Env := { ty := VQ, ctr := [(134, ql [.st .world, .I] [.sl .I] ZT), (135, ql [.st .world, .st .place] [.sl (.st .seen)] vz)], inl := [], eqs := [(65, [.I, .I])], glob := GL, L := qn, get := [] }
noncomputable def slook.H : Hints := ⟨[], []⟩
noncomputable def ZU (w : Sx.World) (p : Int) : Option (Reply) := obind (lget w.at_ p) (fun x => obind (ZT (w) x) (fun x_1 => obind (vz (w) (⟨0, x⟩)) (fun x_2 => some (⟨0, 9, x, x_1, x_2, 0⟩))))
theorem qck : InlsOK Tryz.prog V5 slook.H V5.inl := .nil
theorem ND (w : Sx.World) (p : Int) : q9 V5 slook.H 79 Tryz.f79 [.agg (SN.cells .world w), .I p] (asR [.st .reply]) = ZU w p := by kernel_rfl
theorem qcl : FnOK Tryz.prog 79 ∧ CtrOK Tryz.prog GL 79 (ql [.st .world, .I] [.st .reply] ZU) :=
 q7 (E := V5) zT (.cons qci (.cons VU .nil)) qck J5 vX in79 (fun c _ => qi rfl c) (fun xs => ND xs.1 xs.2.1)
noncomputable def Dm : Env := { ty := VQ, ctr := [(135, ql [.st .world, .st .place] [.sl (.st .seen)] vz)], inl := [], eqs := [(65, [.I, .I])], glob := GL, L := qn, get := [] }
noncomputable def sown.H : Hints := ⟨[], []⟩
noncomputable def Ya (w : Sx.World) (p : Int) : Option (Reply) := obind (lget w.coins p) (fun x => obind (vz (w) (⟨1, p⟩)) (fun x_1 => some (⟨0, 10, 0, ([] : List Int), x_1, x⟩)))
theorem qe8 : InlsOK Tryz.prog Dm sown.H Dm.inl := .nil
theorem qcj (w : Sx.World) (p : Int) : q9 Dm sown.H 80 Tryz.f80 [.agg (SN.cells .world w), .I p] (asR [.st .reply]) = Ya w p := by kernel_rfl
theorem qe9 : FnOK Tryz.prog 80 ∧ CtrOK Tryz.prog GL 80 (ql [.st .world, .I] [.st .reply] Ya) :=
 q7 (E := Dm) zT (.cons VU .nil) qe8 J5 vX in80 (fun c _ => qi rfl c) (fun xs => qcj xs.1 xs.2.1)
noncomputable def Jq : Env := { ty := VQ, ctr := [], inl := [], eqs := [(65, [.I, .I])], glob := GL, L := qn, get := [] }
noncomputable def aanswer.H : Hints := ⟨[], []⟩
noncomputable def j7 (k : Int) (r : Int) (e : Int) : Option (Reply) := cnd (bnot (ieq e 0)) (some (⟨e, 0, 0, ([] : List Int), [], 0⟩)) (some (⟨0, k, r, ([] : List Int), [], 0⟩))
theorem Nt : InlsOK Tryz.prog Jq aanswer.H Jq.inl := .nil
theorem Dk (k : Int) (r : Int) (e : Int) : q9 Jq aanswer.H 98 Tryz.f98 [.I k, .I r, .I e] (asR [.st .reply]) = j7 k r e := by kernel_rfl
theorem Nu : FnOK Tryz.prog 98 ∧ CtrOK Tryz.prog GL 98 (ql [.I, .I, .I] [.st .reply] j7) :=
 q7 (E := Jq) zT (.nil) Nt J5 vX in98 (fun c _ => qi rfl c) (fun xs => Dk xs.1 xs.2.1 xs.2.2.1)
noncomputable def qb4 : Env := { ty := VQ, ctr := [(29, ql [.st .cmd] [.bool] Uk), (63, ql [.st .world, .I, .I] [.st .world, .I, .I] ZL), (65, ql [.st .world, .I, .I, .I] [.st .world, .I, .I] ZJ), (68, ql [.st .world, .I, .I] [.st .world, .I] Y2), (70, ql [.st .world, .I, .I] [.st .world, .I] Ks), (72, ql [.st .world, .I, .I, .I] [.st .world, .I] YJ), (74, ql [.st .world, .I, .I, .I] [.st .world, .I] K2), (76, ql [.st .world, .I, .I, .I] [.st .world, .I] Kt), (77, ql [.st .world, .I, .st .cmd] [.st .world, .I] Jd), (79, ql [.st .world, .I] [.st .reply] ZU), (80, ql [.st .world, .I] [.st .reply] Ya), (98, ql [.I, .I, .I] [.st .reply] j7)], inl := [(30, Tryz.f30), (61, Tryz.f61), (97, Tryz.f97), (66, Tryz.f66), (102, Tryz.f102), (78, Tryz.f78), (133, Tryz.f133), (62, Tryz.f62), (64, Tryz.f64), (67, Tryz.f67), (69, Tryz.f69), (71, Tryz.f71), (73, Tryz.f73), (75, Tryz.f75)], eqs := [(65, [.I, .I])], glob := GL, L := qn, get := [] }
noncomputable def ado.H : Hints := ⟨[], []⟩
noncomputable def Qn (w : Sx.World) (p : Int) (c : Cmd) : Option (Sx.World × Reply) := obind (Uk (c)) (fun x => cnd (bnot x) (some ((w, ⟨2, 0, 0, ([] : List Int), [], 0⟩))) (cnd (ieq c.kind 1) (obind (ZL (w) p c.dir) (fun x_1 => obind (j7 c.kind x_1.2.1 x_1.2.2) (fun x_2 => some ((x_1.1, x_2))))) (cnd (ieq c.kind 2) (obind (ZJ (w) p c.who c.dir) (fun x_1 => obind (j7 c.kind x_1.2.1 x_1.2.2) (fun x_2 => some ((x_1.1, x_2))))) (cnd (ieq c.kind 3) (obind (Y2 (w) p c.item) (fun x_1 => obind (j7 c.kind 0 x_1.2) (fun x_2 => some ((x_1.1, x_2))))) (cnd (ieq c.kind 4) (obind (Ks (w) p c.item) (fun x_1 => obind (j7 c.kind 0 x_1.2) (fun x_2 => some ((x_1.1, x_2))))) (cnd (ieq c.kind 5) (obind (YJ (w) p c.item c.box) (fun x_1 => obind (j7 c.kind 0 x_1.2) (fun x_2 => some ((x_1.1, x_2))))) (cnd (ieq c.kind 6) (obind (K2 (w) p c.item c.box) (fun x_1 => obind (j7 c.kind 0 x_1.2) (fun x_2 => some ((x_1.1, x_2))))) (cnd (ieq c.kind 7) (obind (Kt (w) p c.item c.who) (fun x_1 => obind (j7 c.kind 0 x_1.2) (fun x_2 => some ((x_1.1, x_2))))) (cnd (ieq c.kind 8) (obind (Jd (w) p (c)) (fun x_1 => obind (j7 c.kind 0 x_1.2) (fun x_2 => some ((x_1.1, x_2))))) (cnd (ieq c.kind 9) (obind (ZU (w) p) (fun x_1 => some ((w, x_1)))) (cnd (ieq c.kind 10) (obind (Ya (w) p) (fun x_1 => some ((w, x_1)))) none)))))))))))
theorem ado_inl : InlsOK Tryz.prog qb4 ado.H qb4.inl := .cons in30 (fun c _ => qi rfl c) (.cons in61 (fun c _ => qi rfl c) (.cons in97 (fun c _ => qi rfl c) (.cons in66 (fun c _ => qi rfl c) (.cons in102 (fun c _ => qi rfl c) (.cons in78 (fun c _ => qi rfl c) (.cons in133 (fun c _ => qi rfl c) (.cons in62 (fun c _ => qi rfl c) (.cons in64 (fun c _ => qi rfl c) (.cons in67 (fun c _ => qi rfl c) (.cons in69 (fun c _ => qi rfl c) (.cons in71 (fun c _ => qi rfl c) (.cons in73 (fun c _ => qi rfl c) (.cons in75 (fun c _ => qi rfl c) .nil)))))))))))))
theorem qiu (w : Sx.World) (p : Int) (c : Cmd) : q9 qb4 ado.H 12 Tryz.f12 [.agg (SN.cells .world w), .I p, .agg (SN.cells .cmd c)] (asR [.st .world, .st .reply]) = Qn w p c := by kernel_rfl
theorem Di : FnOK Tryz.prog 12 ∧ CtrOK Tryz.prog GL 12 (ql [.st .world, .I, .st .cmd] [.st .world, .st .reply] Qn) :=
 q7 (E := qb4) zT (.cons qih (.cons qb8 (.cons qb6 (.cons qhd (.cons qdu (.cons qin (.cons qel (.cons qd0 (.cons MH (.cons qcl (.cons qe9 (.cons Nu .nil)))))))))))) ado_inl J5 vX in12 (fun c _ => qi rfl c) (fun xs => qiu xs.1 xs.2.1 xs.2.2.1)
end Go.Sx
