/-
  commands done at once, walked (printed by wip/dev/gen2.py)
-/
import Derived.Test.YtcpabdpbldmmmaaGreatDoorLyB
import Derived.Test.YtcpabdpbldmmmaaGreatDoorLyH
import Derived.Test.YtcpabdpbldmmmaaGreatDoorProg
import Derived.KernelRfl
set_option linter.unusedVariables false
set_option linter.unusedSimpArgs false
namespace Go.Sx
open Go Go.Proofs
def GE : List (Nat × TyI) :=
 [(3, ⟨false, 1, 8, [.I 0], some .I, .I⟩),
  (4, ⟨false, 1, 1, [.bool false], some .bool, .bool⟩),
  (22, ⟨false, 1, 24, [.nilsl], some (.sl (.st .exits)), .sl 104⟩),
  (23, ⟨false, 1, 24, [.nilsl], some (.sl .I), .sl 3⟩),
  (24, ⟨false, 1, 24, [.nilsl], some (.sl .bool), .sl 4⟩),
  (26, ⟨true, 8, 144, [.nilsl, .nilsl, .nilsl, .nilsl, .nilsl, .I 0, .I 0, .I 0], some (.st .desc), .st [(0, 22), (1, 23), (2, 23), (3, 23), (4, 24), (5, 3), (6, 3), (7, 3)]⟩),
  (27, ⟨false, 1, 24, [.nilsl], some (.sl (.st .place)), .sl 65⟩),
  (29, ⟨true, 11, 216, [.nilsl, .nilsl, .nilsl, .nilsl, .nilsl, .I 0, .I 0, .I 0, .nilsl, .nilsl, .nilsl], some (.st .world), .st [(0, 26), (8, 23), (9, 23), (10, 27)]⟩),
  (31, ⟨false, 1, 8, [.nilf], none, .func⟩),
  (37, ⟨true, 9, 104, [.I 0, .I 0, .I 0, .I 0, .I 0, .nilsl, .I 0, .nilsl, .I 0], some (.st .cmd), .st [(0, 3), (1, 3), (2, 3), (3, 3), (4, 3), (5, 23), (6, 3), (7, 23), (8, 3)]⟩),
  (38, ⟨false, 1, 8, [.I 0], some .I, .I⟩),
  (39, ⟨false, 1, 24, [.nilsl], some (.sl (.st .seen)), .sl 77⟩),
  (41, ⟨true, 6, 80, [.I 0, .I 0, .I 0, .nilsl, .nilsl, .I 0], some (.st .reply), .st [(0, 38), (1, 3), (2, 3), (3, 23), (4, 39), (5, 3)]⟩),
  (45, ⟨false, 1, 8, [.nilf], none, .func⟩),
  (61, ⟨false, 1, 8, [.nilf], none, .func⟩),
  (62, ⟨false, 1, 8, [.nilm], none, .map 3 61⟩),
  (65, ⟨true, 2, 16, [.I 0, .I 0], some (.st .place), .st [(0, 3), (1, 3)]⟩),
  (77, ⟨true, 3, 24, [.I 0, .I 0, .I 0], some (.st .seen), .st [(0, 3), (1, 65)]⟩),
  (85, ⟨false, 1, 8, [.nilf], none, .func⟩),
  (96, ⟨false, 1, 8, [.nilf], none, .func⟩),
  (101, ⟨false, 1, 8, [.nilf], none, .func⟩),
  (104, ⟨true, 4, 32, [.I 0, .I 0, .I 0, .I 0], some (.st .exits), .arr 4 3⟩),
  (132, ⟨true, 2, 16, [.nilf, .I 0], none, .st [(0, 31), (1, 38)]⟩),
  (141, ⟨false, 1, 24, [.nilsl], none, .sl 132⟩)]
theorem zZ : (GE.all fun p => Zo Tryz.prog p.1 p.2) = true := by kernel_rfl
theorem vV : Tryz.prog.follows .mixedOrders = true := by kernel_rfl
theorem JP : EqsOK Tryz.prog [(65, [.I, .I])] := .cons (vd (P := Tryz.prog) (t := 65) (ks := [.I, .I]) (by kernel_rfl) (by kernel_rfl) (by kernel_rfl)) .nil
theorem in12 : FnIn Tryz.prog 12 Tryz.f12 := .mk Tryz.func12 (by kernel_rfl) (by kernel_rfl)
theorem in30 : FnIn Tryz.prog 30 Tryz.f30 := .mk Tryz.func30 (by kernel_rfl) (by kernel_rfl)
theorem in61 : FnIn Tryz.prog 61 Tryz.f61 := .mk Tryz.func61 (by kernel_rfl) (by kernel_rfl)
theorem in62 : FnIn Tryz.prog 62 Tryz.f62 := .mk Tryz.func62 (by kernel_rfl) (by kernel_rfl)
theorem in64 : FnIn Tryz.prog 64 Tryz.f64 := .mk Tryz.func64 (by kernel_rfl) (by kernel_rfl)
theorem in66 : FnIn Tryz.prog 66 Tryz.f66 := .mk Tryz.func66 (by kernel_rfl) (by kernel_rfl)
theorem in67 : FnIn Tryz.prog 67 Tryz.f67 := .mk Tryz.func67 (by kernel_rfl) (by kernel_rfl)
theorem in69 : FnIn Tryz.prog 69 Tryz.f69 := .mk Tryz.func69 (by kernel_rfl) (by kernel_rfl)
theorem in71 : FnIn Tryz.prog 71 Tryz.f71 := .mk Tryz.func71 (by kernel_rfl) (by kernel_rfl)
theorem in72 : FnIn Tryz.prog 72 Tryz.f72 := .mk Tryz.func72 (by kernel_rfl) (by kernel_rfl)
theorem in73 : FnIn Tryz.prog 73 Tryz.f73 := .mk Tryz.func73 (by kernel_rfl) (by kernel_rfl)
theorem in74 : FnIn Tryz.prog 74 Tryz.f74 := .mk Tryz.func74 (by kernel_rfl) (by kernel_rfl)
theorem in75 : FnIn Tryz.prog 75 Tryz.f75 := .mk Tryz.func75 (by kernel_rfl) (by kernel_rfl)
theorem in78 : FnIn Tryz.prog 78 Tryz.f78 := .mk Tryz.func78 (by kernel_rfl) (by kernel_rfl)
theorem in79 : FnIn Tryz.prog 79 Tryz.f79 := .mk Tryz.func79 (by kernel_rfl) (by kernel_rfl)
theorem in80 : FnIn Tryz.prog 80 Tryz.f80 := .mk Tryz.func80 (by kernel_rfl) (by kernel_rfl)
theorem in97 : FnIn Tryz.prog 97 Tryz.f97 := .mk Tryz.func97 (by kernel_rfl) (by kernel_rfl)
theorem in98 : FnIn Tryz.prog 98 Tryz.f98 := .mk Tryz.func98 (by kernel_rfl) (by kernel_rfl)
theorem in102 : FnIn Tryz.prog 102 Tryz.f102 := .mk Tryz.func102 (by kernel_rfl) (by kernel_rfl)
theorem in105 : FnIn Tryz.prog 105 Tryz.f105 := .mk Tryz.func105 (by kernel_rfl) (by kernel_rfl)
theorem in106 : FnIn Tryz.prog 106 Tryz.f106 := .mk Tryz.func106 (by kernel_rfl) (by kernel_rfl)
theorem in107 : FnIn Tryz.prog 107 Tryz.f107 := .mk Tryz.func107 (by kernel_rfl) (by kernel_rfl)
theorem in108 : FnIn Tryz.prog 108 Tryz.f108 := .mk Tryz.func108 (by kernel_rfl) (by kernel_rfl)
theorem in109 : FnIn Tryz.prog 109 Tryz.f109 := .mk Tryz.func109 (by kernel_rfl) (by kernel_rfl)
theorem in110 : FnIn Tryz.prog 110 Tryz.f110 := .mk Tryz.func110 (by kernel_rfl) (by kernel_rfl)
theorem in111 : FnIn Tryz.prog 111 Tryz.f111 := .mk Tryz.func111 (by kernel_rfl) (by kernel_rfl)
theorem in113 : FnIn Tryz.prog 113 Tryz.f113 := .mk Tryz.func113 (by kernel_rfl) (by kernel_rfl)
theorem in115 : FnIn Tryz.prog 115 Tryz.f115 := .mk Tryz.func115 (by kernel_rfl) (by kernel_rfl)
theorem in116 : FnIn Tryz.prog 116 Tryz.f116 := .mk Tryz.func116 (by kernel_rfl) (by kernel_rfl)
theorem in119 : FnIn Tryz.prog 119 Tryz.f119 := .mk Tryz.func119 (by kernel_rfl) (by kernel_rfl)
theorem in120 : FnIn Tryz.prog 120 Tryz.f120 := .mk Tryz.func120 (by kernel_rfl) (by kernel_rfl)
theorem in121 : FnIn Tryz.prog 121 Tryz.f121 := .mk Tryz.func121 (by kernel_rfl) (by kernel_rfl)
theorem in122 : FnIn Tryz.prog 122 Tryz.f122 := .mk Tryz.func122 (by kernel_rfl) (by kernel_rfl)
theorem in123 : FnIn Tryz.prog 123 Tryz.f123 := .mk Tryz.func123 (by kernel_rfl) (by kernel_rfl)
theorem in133 : FnIn Tryz.prog 133 Tryz.f133 := .mk Tryz.func133 (by kernel_rfl) (by kernel_rfl)
theorem in135 : FnIn Tryz.prog 135 Tryz.f135 := .mk Tryz.func135 (by kernel_rfl) (by kernel_rfl)
noncomputable def vf : Env := { ty := GE, ctr := [(112, qj [.st .world, .I, .I] [.bool] z7), (114, qj [.st .world, .I] [.I] kS)], inl := [], eqs := [(65, [.I, .I])], glob := GL, L := ql, get := [] }
noncomputable def theight.lr3.sp : SPat := ⟨28, [1, 2, 5, 9, 10], [.I, .ptr 0 0, .I, .I, .I], [wBP], [], 0⟩
noncomputable def theight.lr3.es : List (Ex × SPat) := [(.exit 0, ⟨28, [5], [.I], [], [], 0⟩)]
abbrev theight.lr3.X : Type := ((Int × (Int × (Int × (Int × Unit)))) × (WTy × Unit))
abbrev theight.lr3.O : Type := ((Int × Unit) × Unit)
noncomputable def theight.lr3.T : (theight.lr3.X → Option theight.lr3.O) → theight.lr3.X → Option theight.lr3.O := fun rec x =>
 let a1 := x.1.2.1; let a2 := x.1.2.2.1; let a3 := x.1.2.2.2.1; cnd (ilt a3 a2) (obind (z7 ((wOf x.2.1)) a3 x.1.1) (fun x_1 => cnd x_1 (obind (kS ((wOf x.2.1)) a3) (fun x_2 => obind (kS ((wOf x.2.1)) x.1.1) (fun x_3 => rec ((x.1.1, (DO a1 (wrap .i64 (isub x_2 x_3)), (a2, (wrap .i64 (iadd a3 1), ())))), (x.2.1, ()))))) (rec ((x.1.1, (a1, (a2, (wrap .i64 (iadd a3 1), ())))), (x.2.1, ()))))) (some ((a1, ()), ()))
noncomputable def theight.lr3 : Alt := ⟨theight.lr3.sp, theight.lr3.es, 100, theight.lr3.T⟩
noncomputable def theight.H : Hints := ⟨[(115, [(3, [theight.lr3])])], []⟩
noncomputable def gf (w : Sx.World) (i : Int) : Option (Int) := obind (qt theight.lr3.T ql (((i, (0, (qh w.where_, (0, ())))), ((wTo w), ())))) (fun x => some x.1.1)
theorem GM : Alt.Round vf theight.H 115 (qG theight.H 115 Tryz.f115 0) theight.lr3 := by intro rec x; kernel_rfl
theorem VH : ∀ c, Tryz.f115.body = some c → ToldC vf theight.H 115 c := qI [theight.lr3] (by kernel_rfl) (fun i hi => match i, hi with | 0, _ => GM | n + 1, h => absurd h (by simp))
theorem R2 : InlsOK Tryz.prog vf theight.H vf.inl := .nil
theorem BZ (w : Sx.World) (i : Int) : qx vf theight.H 115 Tryz.f115 [.agg (SN.cells .world w), .I i] (asR [.I]) = gf w i := by kernel_rfl
theorem R3 : FnOK Tryz.prog 115 ∧ CtrOK Tryz.prog GL 115 (qj [.st .world, .I] [.I] gf) :=
 qv (E := vf) zZ (.cons Vl (.cons GN .nil)) R2 JP vV in115 VH (fun xs => BZ xs.1 xs.2.1)
noncomputable def gK : Env := { ty := GE, ctr := [(140, qj [.st .world, .I] [.st .place] vS)], inl := [], eqs := [(65, [.I, .I])], glob := GL, L := ql, get := [] }
noncomputable def tunder.lr3.sp : SPat := ⟨29, [2, 3, 5, 9, 10, 11], [.ptr 0 0, .ptr 1 0, .vec 3, .sl (.st .place), .I, .I], [wBP, .cells [.I, .I], .dead, .vec (.st .seen)], [], 0⟩
noncomputable def tunder.lr3.es : List (Ex × SPat) := [(.exit 0, ⟨29, [5], [.vec 3], [.dead, .dead, .dead, .vec (.st .seen)], [], 0⟩)]
abbrev tunder.lr3.X : Type := (((List Sx.Place) × (Int × (Int × Unit))) × (WTy × ((Int × (Int × Unit)) × ((List Sx.Seen) × Unit))))
abbrev tunder.lr3.O : Type := (Unit × ((List Sx.Seen) × Unit))
noncomputable def tunder.lr3.T : (tunder.lr3.X → Option tunder.lr3.O) → tunder.lr3.X → Option tunder.lr3.O := fun rec x =>
 let a1 := x.1.2.1; let a2 := x.1.2.2.1; let a3 := x.2.2.1.1; let a4 := x.2.2.1.2.1; let a5 := x.2.2.2.1; cnd (ilt a2 a1) (obind (lget x.1.1 a2) (fun x_1 => obind (vS ((wOf x.2.1)) a2) (fun x_2 => cnd (band (ieq x_2.kind a3) (ieq x_2.id a4)) (cnd (ilt (imul (iadd (qh a5) 1) 24) 140737488355329) (rec ((x.1.1, (a1, (wrap .i64 (iadd a2 1), ()))), (x.2.1, ((a3, (a4, ())), (lapp a5 ([⟨a2, x_1⟩]), ()))))) (none)) (rec ((x.1.1, (a1, (wrap .i64 (iadd a2 1), ()))), (x.2.1, ((a3, (a4, ())), (a5, ())))))))) (some ((), (a5, ())))
noncomputable def tunder.lr3 : Alt := ⟨tunder.lr3.sp, tunder.lr3.es, 100, tunder.lr3.T⟩
noncomputable def tunder.H : Hints := ⟨[(135, [(3, [tunder.lr3])])], []⟩
noncomputable def vF (w : Sx.World) (p : Sx.Place) : Option (List Seen) := obind (qt tunder.lr3.T ql (((w.where_, (qh w.where_, (0, ()))), ((wTo w), ((p.kind, (p.id, ())), ([], ())))))) (fun x => some x.2.1)
theorem Yo : Alt.Round gK tunder.H 135 (qG tunder.H 135 Tryz.f135 0) tunder.lr3 := by intro rec x; kernel_rfl
theorem GG : ∀ c, Tryz.f135.body = some c → ToldC gK tunder.H 135 c := qI [tunder.lr3] (by kernel_rfl) (fun i hi => match i, hi with | 0, _ => Yo | n + 1, h => absurd h (by simp))
theorem MJ : InlsOK Tryz.prog gK tunder.H gK.inl := .nil
theorem R0 (w : Sx.World) (p : Sx.Place) : qx gK tunder.H 135 Tryz.f135 [.agg (SN.cells .world w), .agg (SN.cells .place p)] (asR [.sl (.st .seen)]) = vF w p := by kernel_rfl
theorem GH : FnOK Tryz.prog 135 ∧ CtrOK Tryz.prog GL 135 (qj [.st .world, .st .place] [.sl (.st .seen)] vF) :=
 qv (E := gK) zZ (.cons YM .nil) MJ JP vV in135 GG (fun xs => R0 xs.1 xs.2.1)
noncomputable def G8 : Env := { ty := GE, ctr := [], inl := [], eqs := [(65, [.I, .I])], glob := GL, L := ql, get := [] }
noncomputable def bnone.H : Hints := ⟨[], []⟩
noncomputable def vY (w : Sx.World) (i : Int) : Option (Bool) := cnd (ilt i 0) (some true) (some (ile (qh w.where_) i))
theorem qid : InlsOK Tryz.prog G8 bnone.H G8.inl := .nil
theorem qdb (w : Sx.World) (i : Int) : qx G8 bnone.H 107 Tryz.f107 [.agg (SN.cells .world w), .I i] (asR [.bool]) = vY w i := by kernel_rfl
theorem BK : FnOK Tryz.prog 107 ∧ CtrOK Tryz.prog GL 107 (qj [.st .world, .I] [.bool] vY) :=
 qv (E := G8) zZ (.nil) qid JP vV in107 (fun c _ => qi rfl c) (fun xs => qdb xs.1 xs.2.1)
noncomputable def G9 : Env := { ty := GE, ctr := [(140, qj [.st .world, .I] [.st .place] vS)], inl := [], eqs := [(65, [.I, .I])], glob := GL, L := ql, get := [] }
noncomputable def bnear.H : Hints := ⟨[], []⟩
noncomputable def QZ (w : Sx.World) (p : Int) (i : Int) : Option (Bool) := obind (vS (w) i) (fun x => obind (lget w.at_ p) (fun x_1 => cnd (band (ieq x.kind 0) (ieq x.id x_1)) (some true) (some (band (ieq x.kind 1) (ieq x.id p)))))
theorem qie : InlsOK Tryz.prog G9 bnear.H G9.inl := .nil
theorem qdc (w : Sx.World) (p : Int) (i : Int) : qx G9 bnear.H 109 Tryz.f109 [.agg (SN.cells .world w), .I p, .I i] (asR [.bool]) = QZ w p i := by kernel_rfl
theorem BL : FnOK Tryz.prog 109 ∧ CtrOK Tryz.prog GL 109 (qj [.st .world, .I, .I] [.bool] QZ) :=
 qv (E := G9) zZ (.cons YM .nil) qie JP vV in109 (fun c _ => qi rfl c) (fun xs => qdc xs.1 xs.2.1 xs.2.2.1)
noncomputable def Rv : Env := { ty := GE, ctr := [(107, qj [.st .world, .I] [.bool] vY), (109, qj [.st .world, .I, .I] [.bool] QZ), (112, qj [.st .world, .I, .I] [.bool] z7), (114, qj [.st .world, .I] [.I] kS), (115, qj [.st .world, .I] [.I] gf), (117, qj [.st .world, .st .place] [.I] zi), (118, qj [.st .world, .I, .st .place] [.st .world] KP)], inl := [(105, Tryz.f105), (106, Tryz.f106), (108, Tryz.f108), (110, Tryz.f110), (111, Tryz.f111), (113, Tryz.f113), (116, Tryz.f116)], eqs := [(65, [.I, .I])], glob := GL, L := ql, get := [] }
noncomputable def bput.H : Hints := ⟨[], []⟩
noncomputable def BI (w : Sx.World) (p : Int) (i : Int) (b : Int) : Option (Sx.World × Int) := obind (vY (w) i) (fun x => cnd x (some ((w, 3))) (obind (vY (w) b) (fun x_1 => cnd x_1 (some ((w, 3))) (obind (lget w.where_ i) (fun x_2 => cnd (bnot (band (ieq x_2.kind 1) (ieq x_2.id p))) (some ((w, 5))) (obind (QZ (w) p b) (fun x_3 => cnd (bnot x_3) (some ((w, 5))) (obind (lget w.desc.boxes b) (fun x_4 => cnd (bnot x_4) (some ((w, 6))) (obind (z7 (w) b i) (fun x_5 => cnd x_5 (some ((w, 7))) (obind (kS (w) b) (fun x_6 => obind (gf (w) i) (fun x_7 => cnd (ilt 4 (wrap .i64 (iadd (wrap .i64 (iadd x_6 1)) x_7))) (some ((w, 8))) (obind (zi (w) (⟨2, b⟩)) (fun x_8 => cnd (ilt x_8 1) (some ((w, 9))) (obind (KP (w) i (⟨2, b⟩)) (fun x_9 => some ((x_9, 0))))))))))))))))))))
theorem ql8 : InlsOK Tryz.prog Rv bput.H Rv.inl := .cons in105 (fun c _ => qi rfl c) (.cons in106 (fun c _ => qi rfl c) (.cons in108 (fun c _ => qi rfl c) (.cons in110 (fun c _ => qi rfl c) (.cons in111 (fun c _ => qi rfl c) (.cons in113 (fun c _ => qi rfl c) (.cons in116 (fun c _ => qi rfl c) .nil))))))
theorem qic (w : Sx.World) (p : Int) (i : Int) (b : Int) : qx Rv bput.H 72 Tryz.f72 [.agg (SN.cells .world w), .I p, .I i, .I b] (asR [.st .world, .I]) = BI w p i b := by kernel_rfl
theorem ql9 : FnOK Tryz.prog 72 ∧ CtrOK Tryz.prog GL 72 (qj [.st .world, .I, .I, .I] [.st .world, .I] BI) :=
 qv (E := Rv) zZ (.cons BK (.cons BL (.cons Vl (.cons GN (.cons R3 (.cons ge (.cons VX .nil))))))) ql8 JP vV in72 (fun c _ => qi rfl c) (fun xs => qic xs.1 xs.2.1 xs.2.2.1 xs.2.2.2.1)
noncomputable def G7 : Env := { ty := GE, ctr := [(107, qj [.st .world, .I] [.bool] vY), (109, qj [.st .world, .I, .I] [.bool] QZ), (117, qj [.st .world, .st .place] [.I] zi), (118, qj [.st .world, .I, .st .place] [.st .world] KP)], inl := [(105, Tryz.f105), (119, Tryz.f119), (120, Tryz.f120), (121, Tryz.f121), (122, Tryz.f122), (123, Tryz.f123)], eqs := [(65, [.I, .I])], glob := GL, L := ql, get := [] }
noncomputable def btake.H : Hints := ⟨[], []⟩
noncomputable def Vc (w : Sx.World) (p : Int) (i : Int) (b : Int) : Option (Sx.World × Int) := obind (vY (w) i) (fun x => cnd x (some ((w, 3))) (obind (vY (w) b) (fun x_1 => cnd x_1 (some ((w, 3))) (obind (QZ (w) p b) (fun x_2 => cnd (bnot x_2) (some ((w, 5))) (obind (lget w.desc.boxes b) (fun x_3 => cnd (bnot x_3) (some ((w, 6))) (obind (lget w.where_ i) (fun x_4 => cnd (bnot (band (ieq x_4.kind 2) (ieq x_4.id b))) (some ((w, 5))) (obind (zi (w) (⟨1, p⟩)) (fun x_5 => cnd (ilt x_5 1) (some ((w, 9))) (obind (KP (w) i (⟨1, p⟩)) (fun x_6 => some ((x_6, 0)))))))))))))))
theorem qia : InlsOK Tryz.prog G7 btake.H G7.inl := .cons in105 (fun c _ => qi rfl c) (.cons in119 (fun c _ => qi rfl c) (.cons in120 (fun c _ => qi rfl c) (.cons in121 (fun c _ => qi rfl c) (.cons in122 (fun c _ => qi rfl c) (.cons in123 (fun c _ => qi rfl c) .nil)))))
theorem qda (w : Sx.World) (p : Int) (i : Int) (b : Int) : qx G7 btake.H 74 Tryz.f74 [.agg (SN.cells .world w), .I p, .I i, .I b] (asR [.st .world, .I]) = Vc w p i b := by kernel_rfl
theorem qib : FnOK Tryz.prog 74 ∧ CtrOK Tryz.prog GL 74 (qj [.st .world, .I, .I, .I] [.st .world, .I] Vc) :=
 qv (E := G7) zZ (.cons BK (.cons BL (.cons ge (.cons VX .nil)))) qia JP vV in74 (fun c _ => qi rfl c) (fun xs => qda xs.1 xs.2.1 xs.2.2.1 xs.2.2.2.1)
noncomputable def Ge : Env := { ty := GE, ctr := [(134, qj [.st .world, .I] [.sl .I] Ky), (135, qj [.st .world, .st .place] [.sl (.st .seen)] vF)], inl := [], eqs := [(65, [.I, .I])], glob := GL, L := ql, get := [] }
noncomputable def slook.H : Hints := ⟨[], []⟩
noncomputable def Kz (w : Sx.World) (p : Int) : Option (Reply) := obind (lget w.at_ p) (fun x => obind (Ky (w) x) (fun x_1 => obind (vF (w) (⟨0, x⟩)) (fun x_2 => some (⟨0, 9, x, x_1, x_2, 0⟩))))
theorem qfh : InlsOK Tryz.prog Ge slook.H Ge.inl := .nil
theorem MT (w : Sx.World) (p : Int) : qx Ge slook.H 79 Tryz.f79 [.agg (SN.cells .world w), .I p] (asR [.st .reply]) = Kz w p := by kernel_rfl
theorem qfi : FnOK Tryz.prog 79 ∧ CtrOK Tryz.prog GL 79 (qj [.st .world, .I] [.st .reply] Kz) :=
 qv (E := Ge) zZ (.cons qff (.cons GH .nil)) qfh JP vV in79 (fun c _ => qi rfl c) (fun xs => MT xs.1 xs.2.1)
noncomputable def Rn : Env := { ty := GE, ctr := [(135, qj [.st .world, .st .place] [.sl (.st .seen)] vF)], inl := [], eqs := [(65, [.I, .I])], glob := GL, L := ql, get := [] }
noncomputable def sown.H : Hints := ⟨[], []⟩
noncomputable def YP (w : Sx.World) (p : Int) : Option (Reply) := obind (lget w.coins p) (fun x => obind (vF (w) (⟨1, p⟩)) (fun x_1 => some (⟨0, 10, 0, ([] : List Int), x_1, x⟩)))
theorem qiw : InlsOK Tryz.prog Rn sown.H Rn.inl := .nil
theorem qfg (w : Sx.World) (p : Int) : qx Rn sown.H 80 Tryz.f80 [.agg (SN.cells .world w), .I p] (asR [.st .reply]) = YP w p := by kernel_rfl
theorem qix : FnOK Tryz.prog 80 ∧ CtrOK Tryz.prog GL 80 (qj [.st .world, .I] [.st .reply] YP) :=
 qv (E := Rn) zZ (.cons GH .nil) qiw JP vV in80 (fun c _ => qi rfl c) (fun xs => qfg xs.1 xs.2.1)
noncomputable def JC : Env := { ty := GE, ctr := [], inl := [], eqs := [(65, [.I, .I])], glob := GL, L := ql, get := [] }
noncomputable def aanswer.H : Hints := ⟨[], []⟩
noncomputable def jB (k : Int) (r : Int) (e : Int) : Option (Reply) := cnd (bnot (ieq e 0)) (some (⟨e, 0, 0, ([] : List Int), [], 0⟩)) (some (⟨0, k, r, ([] : List Int), [], 0⟩))
theorem M7 : InlsOK Tryz.prog JC aanswer.H JC.inl := .nil
theorem Rl (k : Int) (r : Int) (e : Int) : qx JC aanswer.H 98 Tryz.f98 [.I k, .I r, .I e] (asR [.st .reply]) = jB k r e := by kernel_rfl
theorem M8 : FnOK Tryz.prog 98 ∧ CtrOK Tryz.prog GL 98 (qj [.I, .I, .I] [.st .reply] jB) :=
 qv (E := JC) zZ (.nil) M7 JP vV in98 (fun c _ => qi rfl c) (fun xs => Rl xs.1 xs.2.1 xs.2.2.1)
noncomputable def qe2 : Env := { ty := GE, ctr := [(29, qj [.st .cmd] [.bool] UX), (63, qj [.st .world, .I, .I] [.st .world, .I, .I] Kq), (65, qj [.st .world, .I, .I, .I] [.st .world, .I, .I] Ko), (68, qj [.st .world, .I, .I] [.st .world, .I] B0), (70, qj [.st .world, .I, .I] [.st .world, .I] KR), (72, qj [.st .world, .I, .I, .I] [.st .world, .I] BI), (74, qj [.st .world, .I, .I, .I] [.st .world, .I] Vc), (76, qj [.st .world, .I, .I, .I] [.st .world, .I] KS), (77, qj [.st .world, .I, .st .cmd] [.st .world, .I] Jt), (79, qj [.st .world, .I] [.st .reply] Kz), (80, qj [.st .world, .I] [.st .reply] YP), (98, qj [.I, .I, .I] [.st .reply] jB)], inl := [(30, Tryz.f30), (61, Tryz.f61), (97, Tryz.f97), (66, Tryz.f66), (102, Tryz.f102), (78, Tryz.f78), (133, Tryz.f133), (62, Tryz.f62), (64, Tryz.f64), (67, Tryz.f67), (69, Tryz.f69), (71, Tryz.f71), (73, Tryz.f73), (75, Tryz.f75)], eqs := [(65, [.I, .I])], glob := GL, L := ql, get := [] }
noncomputable def ado.H : Hints := ⟨[], []⟩
noncomputable def Qx (w : Sx.World) (p : Int) (c : Cmd) : Option (Sx.World × Reply) := obind (UX (c)) (fun x => cnd (bnot x) (some ((w, ⟨2, 0, 0, ([] : List Int), [], 0⟩))) (cnd (ieq c.kind 1) (obind (Kq (w) p c.dir) (fun x_1 => obind (jB c.kind x_1.2.1 x_1.2.2) (fun x_2 => some ((x_1.1, x_2))))) (cnd (ieq c.kind 2) (obind (Ko (w) p c.who c.dir) (fun x_1 => obind (jB c.kind x_1.2.1 x_1.2.2) (fun x_2 => some ((x_1.1, x_2))))) (cnd (ieq c.kind 3) (obind (B0 (w) p c.item) (fun x_1 => obind (jB c.kind 0 x_1.2) (fun x_2 => some ((x_1.1, x_2))))) (cnd (ieq c.kind 4) (obind (KR (w) p c.item) (fun x_1 => obind (jB c.kind 0 x_1.2) (fun x_2 => some ((x_1.1, x_2))))) (cnd (ieq c.kind 5) (obind (BI (w) p c.item c.box) (fun x_1 => obind (jB c.kind 0 x_1.2) (fun x_2 => some ((x_1.1, x_2))))) (cnd (ieq c.kind 6) (obind (Vc (w) p c.item c.box) (fun x_1 => obind (jB c.kind 0 x_1.2) (fun x_2 => some ((x_1.1, x_2))))) (cnd (ieq c.kind 7) (obind (KS (w) p c.item c.who) (fun x_1 => obind (jB c.kind 0 x_1.2) (fun x_2 => some ((x_1.1, x_2))))) (cnd (ieq c.kind 8) (obind (Jt (w) p (c)) (fun x_1 => obind (jB c.kind 0 x_1.2) (fun x_2 => some ((x_1.1, x_2))))) (cnd (ieq c.kind 9) (obind (Kz (w) p) (fun x_1 => some ((w, x_1)))) (cnd (ieq c.kind 10) (obind (YP (w) p) (fun x_1 => some ((w, x_1)))) none)))))))))))
theorem ado_inl : InlsOK Tryz.prog qe2 ado.H qe2.inl := .cons in30 (fun c _ => qi rfl c) (.cons in61 (fun c _ => qi rfl c) (.cons in97 (fun c _ => qi rfl c) (.cons in66 (fun c _ => qi rfl c) (.cons in102 (fun c _ => qi rfl c) (.cons in78 (fun c _ => qi rfl c) (.cons in133 (fun c _ => qi rfl c) (.cons in62 (fun c _ => qi rfl c) (.cons in64 (fun c _ => qi rfl c) (.cons in67 (fun c _ => qi rfl c) (.cons in69 (fun c _ => qi rfl c) (.cons in71 (fun c _ => qi rfl c) (.cons in73 (fun c _ => qi rfl c) (.cons in75 (fun c _ => qi rfl c) .nil)))))))))))))
theorem qmg (w : Sx.World) (p : Int) (c : Cmd) : qx qe2 ado.H 12 Tryz.f12 [.agg (SN.cells .world w), .I p, .agg (SN.cells .cmd c)] (asR [.st .world, .st .reply]) = Qx w p c := by kernel_rfl
theorem qer : FnOK Tryz.prog 12 ∧ CtrOK Tryz.prog GL 12 (qj [.st .world, .I, .st .cmd] [.st .world, .st .reply] Qx) :=
 qv (E := qe2) zZ (.cons ql3 (.cons qe6 (.cons qe4 (.cons qkz (.cons qhk (.cons ql9 (.cons qib (.cons qhq (.cons qcn (.cons qfi (.cons qix (.cons M8 .nil)))))))))))) ado_inl JP vV in12 (fun c _ => qi rfl c) (fun xs => qmg xs.1 xs.2.1 xs.2.2.1)
end Go.Sx
