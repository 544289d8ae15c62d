/-
  commands done at once, walked (printed by wip/dev/gen2.py)
-/
import Derived.Test.YtcpabdpbldmmmaaGreatDoorLyB
import Derived.Test.YtcpabdpbldmmmaaGreatDoorLyH
import Derived.Test.YtcpabdpbldmmmaaGreatDoorProg
import Derived.KernelRfl
set_option linter.unusedVariables false
set_option linter.unusedSimpArgs false
namespace Go.Sx
open Go Go.Proofs
def GC : List (Nat × TyI) :=
 [(3, ⟨false, 1, 8, [.I 0], some .I, .I⟩),
  (4, ⟨false, 1, 1, [.bool false], some .bool, .bool⟩),
  (22, ⟨false, 1, 24, [.nilsl], some (.sl (.st .exits)), .sl 104⟩),
  (23, ⟨false, 1, 24, [.nilsl], some (.sl .I), .sl 3⟩),
  (24, ⟨false, 1, 24, [.nilsl], some (.sl .bool), .sl 4⟩),
  (26, ⟨true, 8, 144, [.nilsl, .nilsl, .nilsl, .nilsl, .nilsl, .I 0, .I 0, .I 0], some (.st .desc), .st [(0, 22), (1, 23), (2, 23), (3, 23), (4, 24), (5, 3), (6, 3), (7, 3)]⟩),
  (27, ⟨false, 1, 24, [.nilsl], some (.sl (.st .place)), .sl 65⟩),
  (29, ⟨true, 11, 216, [.nilsl, .nilsl, .nilsl, .nilsl, .nilsl, .I 0, .I 0, .I 0, .nilsl, .nilsl, .nilsl], some (.st .world), .st [(0, 26), (8, 23), (9, 23), (10, 27)]⟩),
  (31, ⟨false, 1, 8, [.nilf], none, .func⟩),
  (37, ⟨true, 9, 104, [.I 0, .I 0, .I 0, .I 0, .I 0, .nilsl, .I 0, .nilsl, .I 0], some (.st .cmd), .st [(0, 3), (1, 3), (2, 3), (3, 3), (4, 3), (5, 23), (6, 3), (7, 23), (8, 3)]⟩),
  (38, ⟨false, 1, 8, [.I 0], some .I, .I⟩),
  (39, ⟨false, 1, 24, [.nilsl], some (.sl (.st .seen)), .sl 77⟩),
  (41, ⟨true, 6, 80, [.I 0, .I 0, .I 0, .nilsl, .nilsl, .I 0], some (.st .reply), .st [(0, 38), (1, 3), (2, 3), (3, 23), (4, 39), (5, 3)]⟩),
  (45, ⟨false, 1, 8, [.nilf], none, .func⟩),
  (61, ⟨false, 1, 8, [.nilf], none, .func⟩),
  (62, ⟨false, 1, 8, [.nilm], none, .map 3 61⟩),
  (65, ⟨true, 2, 16, [.I 0, .I 0], some (.st .place), .st [(0, 3), (1, 3)]⟩),
  (77, ⟨true, 3, 24, [.I 0, .I 0, .I 0], some (.st .seen), .st [(0, 3), (1, 65)]⟩),
  (85, ⟨false, 1, 8, [.nilf], none, .func⟩),
  (96, ⟨false, 1, 8, [.nilf], none, .func⟩),
  (101, ⟨false, 1, 8, [.nilf], none, .func⟩),
  (104, ⟨true, 4, 32, [.I 0, .I 0, .I 0, .I 0], some (.st .exits), .arr 4 3⟩),
  (132, ⟨true, 2, 16, [.nilf, .I 0], none, .st [(0, 31), (1, 38)]⟩),
  (141, ⟨false, 1, 24, [.nilsl], none, .sl 132⟩)]
theorem zZ : (GC.all fun p => Zr Tryz.prog p.1 p.2) = true := by kernel_rfl
theorem vX : Tryz.prog.follows .mixedOrders = true := by kernel_rfl
theorem JR : EqsOK Tryz.prog [(65, [.I, .I])] := .cons (vd (P := Tryz.prog) (t := 65) (ks := [.I, .I]) (by kernel_rfl) (by kernel_rfl) (by kernel_rfl)) .nil
theorem in12 : FnIn Tryz.prog 12 Tryz.f12 := .mk Tryz.func12 (by kernel_rfl) (by kernel_rfl)
theorem in30 : FnIn Tryz.prog 30 Tryz.f30 := .mk Tryz.func30 (by kernel_rfl) (by kernel_rfl)
theorem in61 : FnIn Tryz.prog 61 Tryz.f61 := .mk Tryz.func61 (by kernel_rfl) (by kernel_rfl)
theorem in62 : FnIn Tryz.prog 62 Tryz.f62 := .mk Tryz.func62 (by kernel_rfl) (by kernel_rfl)
theorem in64 : FnIn Tryz.prog 64 Tryz.f64 := .mk Tryz.func64 (by kernel_rfl) (by kernel_rfl)
theorem in66 : FnIn Tryz.prog 66 Tryz.f66 := .mk Tryz.func66 (by kernel_rfl) (by kernel_rfl)
theorem in67 : FnIn Tryz.prog 67 Tryz.f67 := .mk Tryz.func67 (by kernel_rfl) (by kernel_rfl)
theorem in69 : FnIn Tryz.prog 69 Tryz.f69 := .mk Tryz.func69 (by kernel_rfl) (by kernel_rfl)
theorem in71 : FnIn Tryz.prog 71 Tryz.f71 := .mk Tryz.func71 (by kernel_rfl) (by kernel_rfl)
theorem in72 : FnIn Tryz.prog 72 Tryz.f72 := .mk Tryz.func72 (by kernel_rfl) (by kernel_rfl)
theorem in73 : FnIn Tryz.prog 73 Tryz.f73 := .mk Tryz.func73 (by kernel_rfl) (by kernel_rfl)
theorem in74 : FnIn Tryz.prog 74 Tryz.f74 := .mk Tryz.func74 (by kernel_rfl) (by kernel_rfl)
theorem in75 : FnIn Tryz.prog 75 Tryz.f75 := .mk Tryz.func75 (by kernel_rfl) (by kernel_rfl)
theorem in78 : FnIn Tryz.prog 78 Tryz.f78 := .mk Tryz.func78 (by kernel_rfl) (by kernel_rfl)
theorem in79 : FnIn Tryz.prog 79 Tryz.f79 := .mk Tryz.func79 (by kernel_rfl) (by kernel_rfl)
theorem in80 : FnIn Tryz.prog 80 Tryz.f80 := .mk Tryz.func80 (by kernel_rfl) (by kernel_rfl)
theorem in97 : FnIn Tryz.prog 97 Tryz.f97 := .mk Tryz.func97 (by kernel_rfl) (by kernel_rfl)
theorem in98 : FnIn Tryz.prog 98 Tryz.f98 := .mk Tryz.func98 (by kernel_rfl) (by kernel_rfl)
theorem in102 : FnIn Tryz.prog 102 Tryz.f102 := .mk Tryz.func102 (by kernel_rfl) (by kernel_rfl)
theorem in105 : FnIn Tryz.prog 105 Tryz.f105 := .mk Tryz.func105 (by kernel_rfl) (by kernel_rfl)
theorem in106 : FnIn Tryz.prog 106 Tryz.f106 := .mk Tryz.func106 (by kernel_rfl) (by kernel_rfl)
theorem in107 : FnIn Tryz.prog 107 Tryz.f107 := .mk Tryz.func107 (by kernel_rfl) (by kernel_rfl)
theorem in108 : FnIn Tryz.prog 108 Tryz.f108 := .mk Tryz.func108 (by kernel_rfl) (by kernel_rfl)
theorem in109 : FnIn Tryz.prog 109 Tryz.f109 := .mk Tryz.func109 (by kernel_rfl) (by kernel_rfl)
theorem in110 : FnIn Tryz.prog 110 Tryz.f110 := .mk Tryz.func110 (by kernel_rfl) (by kernel_rfl)
theorem in111 : FnIn Tryz.prog 111 Tryz.f111 := .mk Tryz.func111 (by kernel_rfl) (by kernel_rfl)
theorem in113 : FnIn Tryz.prog 113 Tryz.f113 := .mk Tryz.func113 (by kernel_rfl) (by kernel_rfl)
theorem in115 : FnIn Tryz.prog 115 Tryz.f115 := .mk Tryz.func115 (by kernel_rfl) (by kernel_rfl)
theorem in116 : FnIn Tryz.prog 116 Tryz.f116 := .mk Tryz.func116 (by kernel_rfl) (by kernel_rfl)
theorem in119 : FnIn Tryz.prog 119 Tryz.f119 := .mk Tryz.func119 (by kernel_rfl) (by kernel_rfl)
theorem in120 : FnIn Tryz.prog 120 Tryz.f120 := .mk Tryz.func120 (by kernel_rfl) (by kernel_rfl)
theorem in121 : FnIn Tryz.prog 121 Tryz.f121 := .mk Tryz.func121 (by kernel_rfl) (by kernel_rfl)
theorem in122 : FnIn Tryz.prog 122 Tryz.f122 := .mk Tryz.func122 (by kernel_rfl) (by kernel_rfl)
theorem in123 : FnIn Tryz.prog 123 Tryz.f123 := .mk Tryz.func123 (by kernel_rfl) (by kernel_rfl)
theorem in133 : FnIn Tryz.prog 133 Tryz.f133 := .mk Tryz.func133 (by kernel_rfl) (by kernel_rfl)
theorem in135 : FnIn Tryz.prog 135 Tryz.f135 := .mk Tryz.func135 (by kernel_rfl) (by kernel_rfl)
noncomputable def vf : Env := { ty := GC, ctr := [(112, qj [.st .world, .I, .I] [.bool] z8), (114, qj [.st .world, .I] [.I] kQ)], inl := [], eqs := [(65, [.I, .I])], glob := GL, L := ql, get := [] }
noncomputable def theight.lr3.sp : SPat := ⟨28, [1, 2, 5, 9, 10], [.I, .ptr 0 0, .I, .I, .I], [wBP], [], 0⟩
noncomputable def theight.lr3.es : List (Ex × SPat) := [(.exit 0, ⟨28, [5], [.I], [], [], 0⟩)]
abbrev theight.lr3.X : Type := ((Int × (Int × (Int × (Int × Unit)))) × (WTy × Unit))
abbrev theight.lr3.O : Type := ((Int × Unit) × Unit)
noncomputable def theight.lr3.T : (theight.lr3.X → Option theight.lr3.O) → theight.lr3.X → Option theight.lr3.O := fun rec x =>
 let a1 := x.1.2.1; let a2 := x.1.2.2.1; let a3 := x.1.2.2.2.1; cnd (ilt a3 a2) (obind (z8 ((wOf x.2.1)) a3 x.1.1) (fun x_1 => cnd x_1 (obind (kQ ((wOf x.2.1)) a3) (fun x_2 => obind (kQ ((wOf x.2.1)) x.1.1) (fun x_3 => rec ((x.1.1, (DN a1 (wrap .i64 (isub x_2 x_3)), (a2, (wrap .i64 (iadd a3 1), ())))), (x.2.1, ()))))) (rec ((x.1.1, (a1, (a2, (wrap .i64 (iadd a3 1), ())))), (x.2.1, ()))))) (some ((a1, ()), ()))
noncomputable def theight.lr3 : Alt := ⟨theight.lr3.sp, theight.lr3.es, 100, theight.lr3.T⟩
noncomputable def theight.H : Hints := ⟨[(115, [(3, [theight.lr3])])], []⟩
noncomputable def gj (w : Sx.World) (i : Int) : Option (Int) := obind (qr theight.lr3.T ql (((i, (0, (qh w.where_, (0, ())))), ((wTo w), ())))) (fun x => some x.1.1)
theorem GJ : Alt.Round vf theight.H 115 (qE theight.H 115 Tryz.f115 0) theight.lr3 := by intro rec x; kernel_rfl
theorem VF : ∀ c, Tryz.f115.body = some c → ToldC vf theight.H 115 c := qH [theight.lr3] (by kernel_rfl) (fun i hi => match i, hi with | 0, _ => GJ | n + 1, h => absurd h (by simp))
theorem R2 : InlsOK Tryz.prog vf theight.H vf.inl := .nil
theorem BX (w : Sx.World) (i : Int) : qw vf theight.H 115 Tryz.f115 [.agg (SN.cells .world w), .I i] (asR [.I]) = gj w i := by kernel_rfl
theorem R3 : FnOK Tryz.prog 115 ∧ CtrOK Tryz.prog GL 115 (qj [.st .world, .I] [.I] gj) :=
 qu (E := vf) zZ (.cons Vj (.cons GK .nil)) R2 JR vX in115 VF (fun xs => BX xs.1 xs.2.1)
noncomputable def gN : Env := { ty := GC, ctr := [(140, qj [.st .world, .I] [.st .place] vU)], inl := [], eqs := [(65, [.I, .I])], glob := GL, L := ql, get := [] }
noncomputable def tunder.lr3.sp : SPat := ⟨29, [2, 3, 5, 9, 10, 11], [.ptr 0 0, .ptr 1 0, .vec 3, .sl (.st .place), .I, .I], [wBP, .cells [.I, .I], .dead, .vec (.st .seen)], [], 0⟩
noncomputable def tunder.lr3.es : List (Ex × SPat) := [(.exit 0, ⟨29, [5], [.vec 3], [.dead, .dead, .dead, .vec (.st .seen)], [], 0⟩)]
abbrev tunder.lr3.X : Type := (((List Sx.Place) × (Int × (Int × Unit))) × (WTy × ((Int × (Int × Unit)) × ((List Sx.Seen) × Unit))))
abbrev tunder.lr3.O : Type := (Unit × ((List Sx.Seen) × Unit))
noncomputable def tunder.lr3.T : (tunder.lr3.X → Option tunder.lr3.O) → tunder.lr3.X → Option tunder.lr3.O := fun rec x =>
 let a1 := x.1.2.1; let a2 := x.1.2.2.1; let a3 := x.2.2.1.1; let a4 := x.2.2.1.2.1; let a5 := x.2.2.2.1; cnd (ilt a2 a1) (obind (lget x.1.1 a2) (fun x_1 => obind (vU ((wOf x.2.1)) a2) (fun x_2 => cnd (band (ieq x_2.kind a3) (ieq x_2.id a4)) (cnd (ilt (imul (iadd (qh a5) 1) 24) 140737488355329) (rec ((x.1.1, (a1, (wrap .i64 (iadd a2 1), ()))), (x.2.1, ((a3, (a4, ())), (lapp a5 ([⟨a2, x_1⟩]), ()))))) (none)) (rec ((x.1.1, (a1, (wrap .i64 (iadd a2 1), ()))), (x.2.1, ((a3, (a4, ())), (a5, ())))))))) (some ((), (a5, ())))
noncomputable def tunder.lr3 : Alt := ⟨tunder.lr3.sp, tunder.lr3.es, 100, tunder.lr3.T⟩
noncomputable def tunder.H : Hints := ⟨[(135, [(3, [tunder.lr3])])], []⟩
noncomputable def vG (w : Sx.World) (p : Sx.Place) : Option (List Seen) := obind (qr tunder.lr3.T ql (((w.where_, (qh w.where_, (0, ()))), ((wTo w), ((p.kind, (p.id, ())), ([], ())))))) (fun x => some x.2.1)
theorem Yk : Alt.Round gN tunder.H 135 (qE tunder.H 135 Tryz.f135 0) tunder.lr3 := by intro rec x; kernel_rfl
theorem GE : ∀ c, Tryz.f135.body = some c → ToldC gN tunder.H 135 c := qH [tunder.lr3] (by kernel_rfl) (fun i hi => match i, hi with | 0, _ => Yk | n + 1, h => absurd h (by simp))
theorem MI : InlsOK Tryz.prog gN tunder.H gN.inl := .nil
theorem R0 (w : Sx.World) (p : Sx.Place) : qw gN tunder.H 135 Tryz.f135 [.agg (SN.cells .world w), .agg (SN.cells .place p)] (asR [.sl (.st .seen)]) = vG w p := by kernel_rfl
theorem GF : FnOK Tryz.prog 135 ∧ CtrOK Tryz.prog GL 135 (qj [.st .world, .st .place] [.sl (.st .seen)] vG) :=
 qu (E := gN) zZ (.cons YJ .nil) MI JR vX in135 GE (fun xs => R0 xs.1 xs.2.1)
noncomputable def G7 : Env := { ty := GC, ctr := [], inl := [], eqs := [(65, [.I, .I])], glob := GL, L := ql, get := [] }
noncomputable def bnone.H : Hints := ⟨[], []⟩
noncomputable def ga (w : Sx.World) (i : Int) : Option (Bool) := cnd (ilt i 0) (some true) (some (ile (qh w.where_) i))
theorem qia : InlsOK Tryz.prog G7 bnone.H G7.inl := .nil
theorem qdb (w : Sx.World) (i : Int) : qw G7 bnone.H 107 Tryz.f107 [.agg (SN.cells .world w), .I i] (asR [.bool]) = ga w i := by kernel_rfl
theorem BI : FnOK Tryz.prog 107 ∧ CtrOK Tryz.prog GL 107 (qj [.st .world, .I] [.bool] ga) :=
 qu (E := G7) zZ (.nil) qia JR vX in107 (fun c _ => qi rfl c) (fun xs => qdb xs.1 xs.2.1)
noncomputable def G8 : Env := { ty := GC, ctr := [(140, qj [.st .world, .I] [.st .place] vU)], inl := [], eqs := [(65, [.I, .I])], glob := GL, L := ql, get := [] }
noncomputable def bnear.H : Hints := ⟨[], []⟩
noncomputable def Ja (w : Sx.World) (p : Int) (i : Int) : Option (Bool) := obind (vU (w) i) (fun x => obind (lget w.at_ p) (fun x_1 => cnd (band (ieq x.kind 0) (ieq x.id x_1)) (some true) (some (band (ieq x.kind 1) (ieq x.id p)))))
theorem qib : InlsOK Tryz.prog G8 bnear.H G8.inl := .nil
theorem qdc (w : Sx.World) (p : Int) (i : Int) : qw G8 bnear.H 109 Tryz.f109 [.agg (SN.cells .world w), .I p, .I i] (asR [.bool]) = Ja w p i := by kernel_rfl
theorem BJ : FnOK Tryz.prog 109 ∧ CtrOK Tryz.prog GL 109 (qj [.st .world, .I, .I] [.bool] Ja) :=
 qu (E := G8) zZ (.cons YJ .nil) qib JR vX in109 (fun c _ => qi rfl c) (fun xs => qdc xs.1 xs.2.1 xs.2.2.1)
noncomputable def Ru : Env := { ty := GC, ctr := [(107, qj [.st .world, .I] [.bool] ga), (109, qj [.st .world, .I, .I] [.bool] Ja), (112, qj [.st .world, .I, .I] [.bool] z8), (114, qj [.st .world, .I] [.I] kQ), (115, qj [.st .world, .I] [.I] gj), (117, qj [.st .world, .st .place] [.I] zg), (118, qj [.st .world, .I, .st .place] [.st .world] KN)], inl := [(105, Tryz.f105), (106, Tryz.f106), (108, Tryz.f108), (110, Tryz.f110), (111, Tryz.f111), (113, Tryz.f113), (116, Tryz.f116)], eqs := [(65, [.I, .I])], glob := GL, L := ql, get := [] }
noncomputable def bput.H : Hints := ⟨[], []⟩
noncomputable def BG (w : Sx.World) (p : Int) (i : Int) (b : Int) : Option (Sx.World × Int) := obind (ga (w) i) (fun x => cnd x (some ((w, 3))) (obind (ga (w) b) (fun x_1 => cnd x_1 (some ((w, 3))) (obind (lget w.where_ i) (fun x_2 => cnd (bnot (band (ieq x_2.kind 1) (ieq x_2.id p))) (some ((w, 5))) (obind (Ja (w) p b) (fun x_3 => cnd (bnot x_3) (some ((w, 5))) (obind (lget w.desc.boxes b) (fun x_4 => cnd (bnot x_4) (some ((w, 6))) (obind (z8 (w) b i) (fun x_5 => cnd x_5 (some ((w, 7))) (obind (kQ (w) b) (fun x_6 => obind (gj (w) i) (fun x_7 => cnd (ilt 4 (wrap .i64 (iadd (wrap .i64 (iadd x_6 1)) x_7))) (some ((w, 8))) (obind (zg (w) (⟨2, b⟩)) (fun x_8 => cnd (ilt x_8 1) (some ((w, 9))) (obind (KN (w) i (⟨2, b⟩)) (fun x_9 => some ((x_9, 0))))))))))))))))))))
theorem ql7 : InlsOK Tryz.prog Ru bput.H Ru.inl := .cons in105 (fun c _ => qi rfl c) (.cons in106 (fun c _ => qi rfl c) (.cons in108 (fun c _ => qi rfl c) (.cons in110 (fun c _ => qi rfl c) (.cons in111 (fun c _ => qi rfl c) (.cons in113 (fun c _ => qi rfl c) (.cons in116 (fun c _ => qi rfl c) .nil))))))
theorem qh9 (w : Sx.World) (p : Int) (i : Int) (b : Int) : qw Ru bput.H 72 Tryz.f72 [.agg (SN.cells .world w), .I p, .I i, .I b] (asR [.st .world, .I]) = BG w p i b := by kernel_rfl
theorem ql8 : FnOK Tryz.prog 72 ∧ CtrOK Tryz.prog GL 72 (qj [.st .world, .I, .I, .I] [.st .world, .I] BG) :=
 qu (E := Ru) zZ (.cons BI (.cons BJ (.cons Vj (.cons GK (.cons R3 (.cons gg (.cons VW .nil))))))) ql7 JR vX in72 (fun c _ => qi rfl c) (fun xs => qh9 xs.1 xs.2.1 xs.2.2.1 xs.2.2.2.1)
noncomputable def G6 : Env := { ty := GC, ctr := [(107, qj [.st .world, .I] [.bool] ga), (109, qj [.st .world, .I, .I] [.bool] Ja), (117, qj [.st .world, .st .place] [.I] zg), (118, qj [.st .world, .I, .st .place] [.st .world] KN)], inl := [(105, Tryz.f105), (119, Tryz.f119), (120, Tryz.f120), (121, Tryz.f121), (122, Tryz.f122), (123, Tryz.f123)], eqs := [(65, [.I, .I])], glob := GL, L := ql, get := [] }
noncomputable def btake.H : Hints := ⟨[], []⟩
noncomputable def Va (w : Sx.World) (p : Int) (i : Int) (b : Int) : Option (Sx.World × Int) := obind (ga (w) i) (fun x => cnd x (some ((w, 3))) (obind (ga (w) b) (fun x_1 => cnd x_1 (some ((w, 3))) (obind (Ja (w) p b) (fun x_2 => cnd (bnot x_2) (some ((w, 5))) (obind (lget w.desc.boxes b) (fun x_3 => cnd (bnot x_3) (some ((w, 6))) (obind (lget w.where_ i) (fun x_4 => cnd (bnot (band (ieq x_4.kind 2) (ieq x_4.id b))) (some ((w, 5))) (obind (zg (w) (⟨1, p⟩)) (fun x_5 => cnd (ilt x_5 1) (some ((w, 9))) (obind (KN (w) i (⟨1, p⟩)) (fun x_6 => some ((x_6, 0)))))))))))))))
theorem qh7 : InlsOK Tryz.prog G6 btake.H G6.inl := .cons in105 (fun c _ => qi rfl c) (.cons in119 (fun c _ => qi rfl c) (.cons in120 (fun c _ => qi rfl c) (.cons in121 (fun c _ => qi rfl c) (.cons in122 (fun c _ => qi rfl c) (.cons in123 (fun c _ => qi rfl c) .nil)))))
theorem qda (w : Sx.World) (p : Int) (i : Int) (b : Int) : qw G6 btake.H 74 Tryz.f74 [.agg (SN.cells .world w), .I p, .I i, .I b] (asR [.st .world, .I]) = Va w p i b := by kernel_rfl
theorem qh8 : FnOK Tryz.prog 74 ∧ CtrOK Tryz.prog GL 74 (qj [.st .world, .I, .I, .I] [.st .world, .I] Va) :=
 qu (E := G6) zZ (.cons BI (.cons BJ (.cons gg (.cons VW .nil)))) qh7 JR vX in74 (fun c _ => qi rfl c) (fun xs => qda xs.1 xs.2.1 xs.2.2.1 xs.2.2.2.1)
noncomputable def Gd : Env := { ty := GC, ctr := [(134, qj [.st .world, .I] [.sl .I] Kx), (135, qj [.st .world, .st .place] [.sl (.st .seen)] vG)], inl := [], eqs := [(65, [.I, .I])], glob := GL, L := ql, get := [] }
noncomputable def slook.H : Hints := ⟨[], []⟩
noncomputable def Ky (w : Sx.World) (p : Int) : Option (Reply) := obind (lget w.at_ p) (fun x => obind (Kx (w) x) (fun x_1 => obind (vG (w) (⟨0, x⟩)) (fun x_2 => some (⟨0, 9, x, x_1, x_2, 0⟩))))
theorem qff : InlsOK Tryz.prog Gd slook.H Gd.inl := .nil
theorem MS (w : Sx.World) (p : Int) : qw Gd slook.H 79 Tryz.f79 [.agg (SN.cells .world w), .I p] (asR [.st .reply]) = Ky w p := by kernel_rfl
theorem qfg : FnOK Tryz.prog 79 ∧ CtrOK Tryz.prog GL 79 (qj [.st .world, .I] [.st .reply] Ky) :=
 qu (E := Gd) zZ (.cons qfd (.cons GF .nil)) qff JR vX in79 (fun c _ => qi rfl c) (fun xs => MS xs.1 xs.2.1)
noncomputable def Rm : Env := { ty := GC, ctr := [(135, qj [.st .world, .st .place] [.sl (.st .seen)] vG)], inl := [], eqs := [(65, [.I, .I])], glob := GL, L := ql, get := [] }
noncomputable def sown.H : Hints := ⟨[], []⟩
noncomputable def YM (w : Sx.World) (p : Int) : Option (Reply) := obind (lget w.coins p) (fun x => obind (vG (w) (⟨1, p⟩)) (fun x_1 => some (⟨0, 10, 0, ([] : List Int), x_1, x⟩)))
theorem qis : InlsOK Tryz.prog Rm sown.H Rm.inl := .nil
theorem qfe (w : Sx.World) (p : Int) : qw Rm sown.H 80 Tryz.f80 [.agg (SN.cells .world w), .I p] (asR [.st .reply]) = YM w p := by kernel_rfl
theorem qit : FnOK Tryz.prog 80 ∧ CtrOK Tryz.prog GL 80 (qj [.st .world, .I] [.st .reply] YM) :=
 qu (E := Rm) zZ (.cons GF .nil) qis JR vX in80 (fun c _ => qi rfl c) (fun xs => qfe xs.1 xs.2.1)
noncomputable def JD : Env := { ty := GC, ctr := [], inl := [], eqs := [(65, [.I, .I])], glob := GL, L := ql, get := [] }
noncomputable def aanswer.H : Hints := ⟨[], []⟩
noncomputable def jA (k : Int) (r : Int) (e : Int) : Option (Reply) := cnd (bnot (ieq e 0)) (some (⟨e, 0, 0, ([] : List Int), [], 0⟩)) (some (⟨0, k, r, ([] : List Int), [], 0⟩))
theorem M8 : InlsOK Tryz.prog JD aanswer.H JD.inl := .nil
theorem Rk (k : Int) (r : Int) (e : Int) : qw JD aanswer.H 98 Tryz.f98 [.I k, .I r, .I e] (asR [.st .reply]) = jA k r e := by kernel_rfl
theorem M9 : FnOK Tryz.prog 98 ∧ CtrOK Tryz.prog GL 98 (qj [.I, .I, .I] [.st .reply] jA) :=
 qu (E := JD) zZ (.nil) M8 JR vX in98 (fun c _ => qi rfl c) (fun xs => Rk xs.1 xs.2.1 xs.2.2.1)
noncomputable def qe0 : Env := { ty := GC, ctr := [(29, qj [.st .cmd] [.bool] UT), (63, qj [.st .world, .I, .I] [.st .world, .I, .I] Kp), (65, qj [.st .world, .I, .I, .I] [.st .world, .I, .I] Kn), (68, qj [.st .world, .I, .I] [.st .world, .I] Bz), (70, qj [.st .world, .I, .I] [.st .world, .I] KP), (72, qj [.st .world, .I, .I, .I] [.st .world, .I] BG), (74, qj [.st .world, .I, .I, .I] [.st .world, .I] Va), (76, qj [.st .world, .I, .I, .I] [.st .world, .I] KQ), (77, qj [.st .world, .I, .st .cmd] [.st .world, .I] Ju), (79, qj [.st .world, .I] [.st .reply] Ky), (80, qj [.st .world, .I] [.st .reply] YM), (98, qj [.I, .I, .I] [.st .reply] jA)], inl := [(30, Tryz.f30), (61, Tryz.f61), (97, Tryz.f97), (66, Tryz.f66), (102, Tryz.f102), (78, Tryz.f78), (133, Tryz.f133), (62, Tryz.f62), (64, Tryz.f64), (67, Tryz.f67), (69, Tryz.f69), (71, Tryz.f71), (73, Tryz.f73), (75, Tryz.f75)], eqs := [(65, [.I, .I])], glob := GL, L := ql, get := [] }
noncomputable def ado.H : Hints := ⟨[], []⟩
noncomputable def Q0 (w : Sx.World) (p : Int) (c : Cmd) : Option (Sx.World × Reply) := obind (UT (c)) (fun x => cnd (bnot x) (some ((w, ⟨2, 0, 0, ([] : List Int), [], 0⟩))) (cnd (ieq c.kind 1) (obind (Kp (w) p c.dir) (fun x_1 => obind (jA c.kind x_1.2.1 x_1.2.2) (fun x_2 => some ((x_1.1, x_2))))) (cnd (ieq c.kind 2) (obind (Kn (w) p c.who c.dir) (fun x_1 => obind (jA c.kind x_1.2.1 x_1.2.2) (fun x_2 => some ((x_1.1, x_2))))) (cnd (ieq c.kind 3) (obind (Bz (w) p c.item) (fun x_1 => obind (jA c.kind 0 x_1.2) (fun x_2 => some ((x_1.1, x_2))))) (cnd (ieq c.kind 4) (obind (KP (w) p c.item) (fun x_1 => obind (jA c.kind 0 x_1.2) (fun x_2 => some ((x_1.1, x_2))))) (cnd (ieq c.kind 5) (obind (BG (w) p c.item c.box) (fun x_1 => obind (jA c.kind 0 x_1.2) (fun x_2 => some ((x_1.1, x_2))))) (cnd (ieq c.kind 6) (obind (Va (w) p c.item c.box) (fun x_1 => obind (jA c.kind 0 x_1.2) (fun x_2 => some ((x_1.1, x_2))))) (cnd (ieq c.kind 7) (obind (KQ (w) p c.item c.who) (fun x_1 => obind (jA c.kind 0 x_1.2) (fun x_2 => some ((x_1.1, x_2))))) (cnd (ieq c.kind 8) (obind (Ju (w) p (c)) (fun x_1 => obind (jA c.kind 0 x_1.2) (fun x_2 => some ((x_1.1, x_2))))) (cnd (ieq c.kind 9) (obind (Ky (w) p) (fun x_1 => some ((w, x_1)))) (cnd (ieq c.kind 10) (obind (YM (w) p) (fun x_1 => some ((w, x_1)))) none)))))))))))
theorem ado_inl : InlsOK Tryz.prog qe0 ado.H qe0.inl := .cons in30 (fun c _ => qi rfl c) (.cons in61 (fun c _ => qi rfl c) (.cons in97 (fun c _ => qi rfl c) (.cons in66 (fun c _ => qi rfl c) (.cons in102 (fun c _ => qi rfl c) (.cons in78 (fun c _ => qi rfl c) (.cons in133 (fun c _ => qi rfl c) (.cons in62 (fun c _ => qi rfl c) (.cons in64 (fun c _ => qi rfl c) (.cons in67 (fun c _ => qi rfl c) (.cons in69 (fun c _ => qi rfl c) (.cons in71 (fun c _ => qi rfl c) (.cons in73 (fun c _ => qi rfl c) (.cons in75 (fun c _ => qi rfl c) .nil)))))))))))))
theorem qmf (w : Sx.World) (p : Int) (c : Cmd) : qw qe0 ado.H 12 Tryz.f12 [.agg (SN.cells .world w), .I p, .agg (SN.cells .cmd c)] (asR [.st .world, .st .reply]) = Q0 w p c := by kernel_rfl
theorem qep : FnOK Tryz.prog 12 ∧ CtrOK Tryz.prog GL 12 (qj [.st .world, .I, .st .cmd] [.st .world, .st .reply] Q0) :=
 qu (E := qe0) zZ (.cons ql2 (.cons qe4 (.cons qe2 (.cons qkx (.cons qhh (.cons ql8 (.cons qh8 (.cons qhn (.cons qco (.cons qfg (.cons qit (.cons M9 .nil)))))))))))) ado_inl JR vX in12 (fun c _ => qi rfl c) (fun xs => qmf xs.1 xs.2.1 xs.2.2.1)
end Go.Sx
