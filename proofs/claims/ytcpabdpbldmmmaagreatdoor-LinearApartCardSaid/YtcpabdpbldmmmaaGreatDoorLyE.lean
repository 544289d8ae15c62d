/-
  orders, walked (printed by wip/dev/gen2.py)
-/
import Derived.Test.YtcpabdpbldmmmaaGreatDoorLyD
import Derived.Test.YtcpabdpbldmmmaaGreatDoorLyA
import Derived.Test.YtcpabdpbldmmmaaGreatDoorProg
import Derived.KernelRfl
set_option linter.unusedVariables false
set_option linter.unusedSimpArgs false
namespace Go.Sx
open Go Go.Proofs
def VP : List (Nat × TyI) :=
 [(3, ⟨false, 1, 8, [.I 0], some .I, .I⟩),
  (4, ⟨false, 1, 1, [.bool false], some .bool, .bool⟩),
  (22, ⟨false, 1, 24, [.nilsl], some (.sl (.st .exits)), .sl 104⟩),
  (23, ⟨false, 1, 24, [.nilsl], some (.sl .I), .sl 3⟩),
  (24, ⟨false, 1, 24, [.nilsl], some (.sl .bool), .sl 4⟩),
  (26, ⟨true, 8, 144, [.nilsl, .nilsl, .nilsl, .nilsl, .nilsl, .I 0, .I 0, .I 0], some (.st .desc), .st [(0, 22), (1, 23), (2, 23), (3, 23), (4, 24), (5, 3), (6, 3), (7, 3)]⟩),
  (27, ⟨false, 1, 24, [.nilsl], some (.sl (.st .place)), .sl 65⟩),
  (29, ⟨true, 11, 216, [.nilsl, .nilsl, .nilsl, .nilsl, .nilsl, .I 0, .I 0, .I 0, .nilsl, .nilsl, .nilsl], some (.st .world), .st [(0, 26), (8, 23), (9, 23), (10, 27)]⟩),
  (30, ⟨false, 1, 24, [.nilsl], some (.sl (.st .call)), .sl 43⟩),
  (37, ⟨true, 9, 104, [.I 0, .I 0, .I 0, .I 0, .I 0, .nilsl, .I 0, .nilsl, .I 0], some (.st .cmd), .st [(0, 3), (1, 3), (2, 3), (3, 3), (4, 3), (5, 23), (6, 3), (7, 23), (8, 3)]⟩),
  (38, ⟨false, 1, 8, [.I 0], some .I, .I⟩),
  (39, ⟨false, 1, 24, [.nilsl], some (.sl (.st .seen)), .sl 77⟩),
  (41, ⟨true, 6, 80, [.I 0, .I 0, .I 0, .nilsl, .nilsl, .I 0], some (.st .reply), .st [(0, 38), (1, 3), (2, 3), (3, 23), (4, 39), (5, 3)]⟩),
  (43, ⟨true, 18, 208, [.I 0, .I 0, .I 0, .I 0, .I 0, .I 0, .nilsl, .I 0, .nilsl, .I 0, .I 0, .I 0, .I 0, .I 0, .I 0, .nilsl, .nilsl, .I 0], some (.st .call), .st [(0, 3), (1, 37), (10, 3), (11, 3), (12, 41)]⟩),
  (52, ⟨false, 1, 24, [.nilsl], some (.sl (.st .reply)), .sl 41⟩),
  (65, ⟨true, 2, 16, [.I 0, .I 0], some (.st .place), .st [(0, 3), (1, 3)]⟩),
  (70, ⟨false, 1, 8, [.nilm], none, .map 3 4⟩),
  (73, ⟨true, 4, 32, [.I 0, .I 0, .I 0, .I 0], none, .st [(0, 38), (1, 3), (2, 3), (3, 3)]⟩),
  (77, ⟨true, 3, 24, [.I 0, .I 0, .I 0], some (.st .seen), .st [(0, 3), (1, 65)]⟩),
  (104, ⟨true, 4, 32, [.I 0, .I 0, .I 0, .I 0], some (.st .exits), .arr 4 3⟩)]
theorem zS : (VP.all fun p => J7 Tryz.prog p.1 p.2) = true := by kernel_rfl
theorem vW : Tryz.prog.follows .mixedOrders = true := by kernel_rfl
theorem J4 : EqsOK Tryz.prog [(73, [.I, .I, .I, .I]), (77, [.I, .I, .I])] := .cons (kV (P := Tryz.prog) (t := 73) (ks := [.I, .I, .I, .I]) (by kernel_rfl) (by kernel_rfl) (by kernel_rfl)) (.cons (kV (P := Tryz.prog) (t := 77) (ks := [.I, .I, .I]) (by kernel_rfl) (by kernel_rfl) (by kernel_rfl)) .nil)
theorem in8 : FnIn Tryz.prog 8 Tryz.f8 := .mk Tryz.func8 (by kernel_rfl) (by kernel_rfl)
theorem in18 : FnIn Tryz.prog 18 Tryz.f18 := .mk Tryz.func18 (by kernel_rfl) (by kernel_rfl)
theorem in19 : FnIn Tryz.prog 19 Tryz.f19 := .mk Tryz.func19 (by kernel_rfl) (by kernel_rfl)
theorem in20 : FnIn Tryz.prog 20 Tryz.f20 := .mk Tryz.func20 (by kernel_rfl) (by kernel_rfl)
theorem in21 : FnIn Tryz.prog 21 Tryz.f21 := .mk Tryz.func21 (by kernel_rfl) (by kernel_rfl)
theorem in25 : FnIn Tryz.prog 25 Tryz.f25 := .mk Tryz.func25 (by kernel_rfl) (by kernel_rfl)
theorem in26 : FnIn Tryz.prog 26 Tryz.f26 := .mk Tryz.func26 (by kernel_rfl) (by kernel_rfl)
theorem in37 : FnIn Tryz.prog 37 Tryz.f37 := .mk Tryz.func37 (by kernel_rfl) (by kernel_rfl)
theorem in38 : FnIn Tryz.prog 38 Tryz.f38 := .mk Tryz.func38 (by kernel_rfl) (by kernel_rfl)
theorem in40 : FnIn Tryz.prog 40 Tryz.f40 := .mk Tryz.func40 (by kernel_rfl) (by kernel_rfl)
theorem in53 : FnIn Tryz.prog 53 Tryz.f53 := .mk Tryz.func53 (by kernel_rfl) (by kernel_rfl)
noncomputable def K8 : Env := { ty := VP, ctr := [(12, ql [.st .world, .I, .st .cmd] [.st .world, .st .reply] Qn)], inl := [], eqs := [(73, [.I, .I, .I, .I]), (77, [.I, .I, .I])], glob := GL, L := qn, get := [] }
noncomputable def aall.lr3.sp : SPat := ⟨34, [2, 4, 6, 11, 12, 13], [.ptr 0 0, .ptr 1 0, .vec 3, .sl (.st .call), .I, .I], [wBP, .cells [.nilsl, .nilsl, .nilsl, .nilsl, .nilsl, .I, .I, .I, .nilsl, .nilsl, .nilsl], .dead, .vec (.st .reply)], [], 0⟩
noncomputable def aall.lr3.es : List (Ex × SPat) := [(.exit 0, ⟨34, [2, 4, 6], [.ptr 0 0, .ptr 1 0, .vec 3], [wBP, .cells [.nilsl, .nilsl, .nilsl, .nilsl, .nilsl, .I, .I, .I, .nilsl, .nilsl, .nilsl], .dead, .vec (.st .reply)], [], 0⟩)]
abbrev aall.lr3.X : Type := (((List Sx.Call) × (Int × (Int × Unit))) × (WTy × ((Int × (Int × (Int × Unit))) × ((List Sx.Reply) × Unit))))
abbrev aall.lr3.O : Type := (Unit × (WTy × ((Int × (Int × (Int × Unit))) × ((List Sx.Reply) × Unit))))
noncomputable def aall.lr3.T : (aall.lr3.X → Option aall.lr3.O) → aall.lr3.X → Option aall.lr3.O := fun rec x =>
 let a1 := x.1.2.1; let a2 := x.1.2.2.1; let a3 := x.2.2.1.1; let a4 := x.2.2.1.2.1; let a5 := x.2.2.1.2.2.1; let a6 := x.2.2.2.1; cnd (ilt a2 a1) (obind (lget x.1.1 a2) (fun x_1 => obind (Qn ((wOf x.2.1)) x_1.player (x_1.cmd)) (fun x_2 => cnd (ilt (imul (iadd (qh a6) 1) 80) 140737488355329) (rec ((x.1.1, (a1, (wrap .i64 (iadd a2 1), ()))), ((wTo x_2.1), ((a3, (a4, (a5, ()))), (lapp a6 ([x_2.2]), ()))))) (none)))) (some ((), (x.2.1, ((a3, (a4, (a5, ()))), (a6, ())))))
noncomputable def aall.lr3 : Alt := ⟨aall.lr3.sp, aall.lr3.es, 100, aall.lr3.T⟩
noncomputable def aall.H : Hints := ⟨[(37, [(3, [aall.lr3])])], []⟩
noncomputable def YU (w : Sx.World) (l : List Sx.Call) : Option (Sx.World × List Reply) := obind (qr aall.lr3.T qn (((l, (qh l, (0, ()))), ((wTo w), ((0, (0, (0, ()))), ([], ())))))) (fun x => some (((wOf x.2.1), x.2.2.2.1)))
theorem qam : Alt.Round K8 aall.H 37 (qN aall.H 37 Tryz.f37 0) aall.lr3 := by intro rec x; kernel_rfl
theorem Nv : ∀ c, Tryz.f37.body = some c → ToldC K8 aall.H 37 c := qV [aall.lr3] (by kernel_rfl) (fun i hi => match i, hi with | 0, _ => qam | n + 1, h => absurd h (by simp))
theorem qiv : InlsOK Tryz.prog K8 aall.H K8.inl := .nil
theorem qev (w : Sx.World) (l : List Sx.Call) : q9 K8 aall.H 37 Tryz.f37 [.agg (SN.cells .world w), .sl (.st .call) l] (asR [.st .world, .sl (.st .reply)]) = YU w l := by kernel_rfl
theorem qiw : FnOK Tryz.prog 37 ∧ CtrOK Tryz.prog GL 37 (ql [.st .world, .sl (.st .call)] [.st .world, .sl (.st .reply)] YU) :=
 q7 (E := K8) zS (.cons Di .nil) qiv J4 vW in37 Nv (fun xs => qev xs.1 xs.2.1)
noncomputable def gJ : Env := { ty := VP, ctr := [(37, ql [.st .world, .sl (.st .call)] [.st .world, .sl (.st .reply)] YU)], inl := [], eqs := [(73, [.I, .I, .I, .I]), (77, [.I, .I, .I])], glob := GL, L := qn, get := [] }
noncomputable def replay.lr3.sp : SPat := ⟨30, [1, 3, 6, 8, 11, 12, 13], [.sl (.st .call), .ptr 0 0, .ptr 1 0, .vec 3, .sl .I, .I, .I], [wBP, .cells [.nilsl, .nilsl, .nilsl, .nilsl, .nilsl, .I, .I, .I, .nilsl, .nilsl, .nilsl], .dead, .vec (.st .call)], [], 0⟩
noncomputable def replay.lr3.es : List (Ex × SPat) := [(.exit 0, ⟨30, [3, 6, 8], [.ptr 0 0, .ptr 1 0, .vec 3], [wBP, .cells [.nilsl, .nilsl, .nilsl, .nilsl, .nilsl, .I, .I, .I, .nilsl, .nilsl, .nilsl], .dead, .vec (.st .call)], [], 0⟩)]
abbrev replay.lr3.X : Type := (((List Sx.Call) × ((List Int) × (Int × (Int × Unit)))) × (WTy × ((Int × (Int × (Int × Unit))) × ((List Sx.Call) × Unit))))
abbrev replay.lr3.O : Type := (Unit × (WTy × ((Int × (Int × (Int × Unit))) × ((List Sx.Call) × Unit))))
noncomputable def replay.lr3.T : (replay.lr3.X → Option replay.lr3.O) → replay.lr3.X → Option replay.lr3.O := fun rec x =>
 let a1 := x.1.2.1; let a2 := x.1.2.2.1; let a3 := x.1.2.2.2.1; let a4 := x.2.2.1.1; let a5 := x.2.2.1.2.1; let a6 := x.2.2.1.2.2.1; let a7 := x.2.2.2.1; cnd (ilt a3 a2) (obind (lget a1 a3) (fun x_1 => obind (lget x.1.1 x_1) (fun x_2 => cnd (ilt (imul (iadd (qh a7) 1) 208) 140737488355329) (rec ((x.1.1, (a1, (a2, (wrap .i64 (iadd a3 1), ())))), (x.2.1, ((a4, (a5, (a6, ()))), (lapp a7 ([x_2]), ()))))) (none)))) (some ((), (x.2.1, ((a4, (a5, (a6, ()))), (a7, ())))))
noncomputable def replay.lr3 : Alt := ⟨replay.lr3.sp, replay.lr3.es, 100, replay.lr3.T⟩
noncomputable def replay.H : Hints := ⟨[(19, [(3, [replay.lr3])])], []⟩
noncomputable def QU (w : Sx.World) (l : List Sx.Call) (o : List Int) : Option (Sx.World × List Reply) := obind (qr replay.lr3.T qn (((l, (o, (qh o, (0, ())))), ((wTo w), ((0, (0, (0, ()))), ([], ())))))) (fun x => obind (YU ((wOf x.2.1)) x.2.2.2.1) (fun x_1 => some ((x_1.1, x_1.2))))
theorem Br : Alt.Round gJ replay.H 19 (qN replay.H 19 Tryz.f19 0) replay.lr3 := by intro rec x; kernel_rfl
theorem UC : ∀ c, Tryz.f19.body = some c → ToldC gJ replay.H 19 c := qV [replay.lr3] (by kernel_rfl) (fun i hi => match i, hi with | 0, _ => Br | n + 1, h => absurd h (by simp))
theorem Mb : InlsOK Tryz.prog gJ replay.H gJ.inl := .nil
theorem DL (w : Sx.World) (l : List Sx.Call) (o : List Int) : q9 gJ replay.H 19 Tryz.f19 [.agg (SN.cells .world w), .sl (.st .call) l, .sl .I o] (asR [.st .world, .sl (.st .reply)]) = QU w l o := by kernel_rfl
theorem Mc : FnOK Tryz.prog 19 ∧ CtrOK Tryz.prog GL 19 (ql [.st .world, .sl (.st .call), .sl .I] [.st .world, .sl (.st .reply)] QU) :=
 q7 (E := gJ) zS (.cons qiw .nil) Mb J4 vW in19 UC (fun xs => DL xs.1 xs.2.1 xs.2.2.1)
noncomputable def gN : Env := { ty := VP, ctr := [], inl := [], eqs := [(73, [.I, .I, .I, .I]), (77, [.I, .I, .I])], glob := GL, L := qn, get := [] }
noncomputable def eequal.lr4.sp : SPat := ⟨26, [0, 1, 12, 13], [.sl (.st .seen), .sl (.st .seen), .I, .I], [], [], 0⟩
noncomputable def eequal.lr4.es : List (Ex × SPat) := [(.ret, ⟨26, [4], [.bool], [], [], 0⟩), (.exit 0, ⟨26, [], [], [], [], 0⟩)]
abbrev eequal.lr4.X : Type := (((List Sx.Seen) × ((List Sx.Seen) × (Int × (Int × Unit)))) × Unit)
abbrev eequal.lr4.O : Type := (((Bool × Unit) × Unit) ⊕ (Unit × Unit))
noncomputable def eequal.lr4.T : (eequal.lr4.X → Option eequal.lr4.O) → eequal.lr4.X → Option eequal.lr4.O := fun rec x =>
 let a1 := x.1.2.1; let a2 := x.1.2.2.1; let a3 := x.1.2.2.2.1; cnd (ilt a3 a2) (obind (lget x.1.1 a3) (fun x_1 => obind (lget a1 a3) (fun x_2 => cnd (bnot (band (ieq x_1.item x_2.item) (band (ieq x_1.at_.kind x_2.at_.kind) (ieq x_1.at_.id x_2.at_.id)))) (some (.inl ((false, ()), ()))) (rec ((x.1.1, (a1, (a2, (wrap .i64 (iadd a3 1), ())))), ()))))) (some (.inr ((), ())))
noncomputable def eequal.lr4 : Alt := ⟨eequal.lr4.sp, eequal.lr4.es, 100, eequal.lr4.T⟩
noncomputable def eequal.H : Hints := ⟨[(40, [(4, [eequal.lr4])])], []⟩
noncomputable def Jg (a : List Seen) (b : List Seen) : Option (Bool) := cnd (bnot (ieq (qh a) (qh b))) (some false) (obind (qr eequal.lr4.T qn (((a, (b, (qh a, (0, ())))), ()))) (fun x => scase x (fun x_1 => some x_1.1.1) (fun x_1 => some true)))
theorem BY : Alt.Round gN eequal.H 40 (qN eequal.H 40 Tryz.f40 0) eequal.lr4 := by intro rec x; kernel_rfl
theorem UQ : ∀ c, Tryz.f40.body = some c → ToldC gN eequal.H 40 c := qV [eequal.lr4] (by kernel_rfl) (fun i hi => match i, hi with | 0, _ => BY | n + 1, h => absurd h (by simp))
theorem MO : InlsOK Tryz.prog gN eequal.H gN.inl := .nil
theorem RU (a : List Seen) (b : List Seen) : q9 gN eequal.H 40 Tryz.f40 [.sl (.st .seen) a, .sl (.st .seen) b] (asR [.bool]) = Jg a b := by kernel_rfl
theorem MP : FnOK Tryz.prog 40 ∧ CtrOK Tryz.prog GL 40 (ql [.sl (.st .seen), .sl (.st .seen)] [.bool] Jg) :=
 q7 (E := gN) zS (.nil) MO J4 vW in40 UQ (fun xs => RU xs.1 xs.2.1)
noncomputable def r5seens.lr4.sp : SPat := ⟨26, [0, 1, 5], [.sl (.st .seen), .sl (.st .seen), .I], [], [], 0⟩
noncomputable def r5seens.lr4.es : List (Ex × SPat) := [(.ret, ⟨26, [4], [.bool], [], [], 0⟩), (.exit 0, ⟨26, [], [], [], [], 0⟩)]
abbrev r5seens.lr4.X : Type := (((List Sx.Seen) × ((List Sx.Seen) × (Int × Unit))) × Unit)
abbrev r5seens.lr4.O : Type := (((Bool × Unit) × Unit) ⊕ (Unit × Unit))
noncomputable def r5seens.lr4.T : (r5seens.lr4.X → Option r5seens.lr4.O) → r5seens.lr4.X → Option r5seens.lr4.O := fun rec x =>
 let a1 := x.1.2.1; let a2 := x.1.2.2.1; cnd (ilt a2 (qh x.1.1)) (obind (lget x.1.1 a2) (fun x_1 => obind (lget a1 a2) (fun x_2 => cnd (bnot (band (ieq x_1.item x_2.item) (band (ieq x_1.at_.kind x_2.at_.kind) (ieq x_1.at_.id x_2.at_.id)))) (some (.inl ((false, ()), ()))) (rec ((x.1.1, (a1, (wrap .i64 (iadd a2 1), ()))), ()))))) (some (.inr ((), ())))
noncomputable def r5seens.lr4 : Alt := ⟨r5seens.lr4.sp, r5seens.lr4.es, 100, r5seens.lr4.T⟩
noncomputable def r5seens.H : Hints := ⟨[(52, [(4, [r5seens.lr4])])], []⟩
noncomputable def Gu (a : List Seen) (b : List Seen) : Option (Bool) := cnd (bnot (ieq (qh a) (qh b))) (some false) (obind (qr r5seens.lr4.T qn (((a, (b, (0, ()))), ()))) (fun x => scase x (fun x_1 => some x_1.1.1) (fun x_1 => some true)))
noncomputable def r5same.H : Hints := ⟨[], []⟩
noncomputable def By (a : Reply) (b : Reply) : Option (Bool) := cnd (ieq a.err b.err) (cnd (ieq a.kind b.kind) (cnd (ieq a.room b.room) (cnd (ieq a.coins b.coins) (obind (zU a.players b.players) (fun x => cnd x (obind (Gu a.items b.items) (fun x_1 => some x_1)) (some false))) (some false)) (some false)) (some false)) (some false)
noncomputable def qbx : Env := { ty := VP, ctr := [], inl := [], eqs := [(73, [.I, .I, .I, .I]), (77, [.I, .I, .I])], glob := GL, L := qn, get := [] }
noncomputable def rof.H : Hints := ⟨[], []⟩
noncomputable def rofF (r : Reply) : Option (AV) := some (AV.agg [AV.int .i64 r.err, AV.int .i64 r.kind, AV.int .i64 r.room, AV.int .i64 r.coins])
theorem rof_inl : InlsOK Tryz.prog qbx rof.H qbx.inl := .nil
theorem qfn (r : Reply) : q9 qbx rof.H 38 Tryz.f38 [.agg (SN.cells .reply r)] (fun v => some v) = rofF r := by kernel_rfl
theorem rof_ctr : FnOK Tryz.prog 38 ∧ CtrOK Tryz.prog GL 38 (YC [.st .reply] rofF) :=
 Y5 (E := qbx) zS (.nil) rof_inl J4 vW in38 (fun c _ => qi rfl c) (fun xs => qfn xs.1)
noncomputable def V6 : Env := { ty := VP, ctr := [(38, YC [.st .reply] rofF), (39, ql [.sl .I, .sl .I] [.bool] kP), (40, ql [.sl (.st .seen), .sl (.st .seen)] [.bool] Jg)], inl := [], eqs := [(73, [.I, .I, .I, .I]), (77, [.I, .I, .I])], glob := GL, L := qn, get := [] }
noncomputable def rsame.H : Hints := ⟨[], []⟩
noncomputable def kH (a : Reply) (b : Reply) : Option (Bool) := cnd (band (ieq a.err b.err) (band (ieq a.kind b.kind) (band (ieq a.room b.room) (ieq a.coins b.coins)))) (obind (kP a.players b.players) (fun x => cnd x (obind (Jg a.items b.items) (fun x_1 => some x_1)) (some false))) (some false)
theorem qco : InlsOK Tryz.prog V6 rsame.H V6.inl := .nil
theorem NH (a : Reply) (b : Reply) : q9 V6 rsame.H 21 Tryz.f21 [.agg (SN.cells .reply a), .agg (SN.cells .reply b)] (asR [.bool]) = kH a b := by kernel_rfl
theorem Yf : FnOK Tryz.prog 21 ∧ CtrOK Tryz.prog GL 21 (ql [.st .reply, .st .reply] [.bool] kH) :=
 q7 (E := V6) zS (.cons rof_ctr (.cons GK (.cons MP .nil))) qco J4 vW in21 (fun c _ => qi rfl c) (fun xs => NH xs.1 xs.2.1)
noncomputable def Do : Env := { ty := VP, ctr := [], inl := [], eqs := [(73, [.I, .I, .I, .I]), (77, [.I, .I, .I])], glob := GL, L := qn, get := [] }
noncomputable def lans.H : Hints := ⟨[], []⟩
noncomputable def vm (c : Sx.Call) : Option (Bool) := some (ile 0 c.to)
theorem qgy : InlsOK Tryz.prog Do lans.H Do.inl := .nil
theorem qdk (c : Sx.Call) : q9 Do lans.H 20 Tryz.f20 [.agg (SN.cells .call c)] (asR [.bool]) = vm c := by kernel_rfl
theorem Zo : FnOK Tryz.prog 20 ∧ CtrOK Tryz.prog GL 20 (ql [.st .call] [.bool] vm) :=
 q7 (E := Do) zS (.nil) qgy J4 vW in20 (fun c _ => qi rfl c) (fun xs => qdk xs.1)
noncomputable def ZG : Env := { ty := VP, ctr := [(20, ql [.st .call] [.bool] vm)], inl := [], eqs := [(73, [.I, .I, .I, .I]), (77, [.I, .I, .I])], glob := GL, L := qn, get := [] }
noncomputable def lahead.H : Hints := ⟨[], []⟩
noncomputable def zl (a : Sx.Call) (b : Sx.Call) : Option (Bool) := obind (vm (a)) (fun x => cnd x (some (ilt a.to b.frm)) (some false))
theorem M1 : InlsOK Tryz.prog ZG lahead.H ZG.inl := .nil
theorem R2 (a : Sx.Call) (b : Sx.Call) : q9 ZG lahead.H 26 Tryz.f26 [.agg (SN.cells .call a), .agg (SN.cells .call b)] (asR [.bool]) = zl a b := by kernel_rfl
theorem GH : FnOK Tryz.prog 26 ∧ CtrOK Tryz.prog GL 26 (ql [.st .call, .st .call] [.bool] zl) :=
 q7 (E := ZG) zS (.cons Zo .nil) M1 J4 vW in26 (fun c _ => qi rfl c) (fun xs => R2 xs.1 xs.2.1)
noncomputable def kG : Env := { ty := VP, ctr := [(20, ql [.st .call] [.bool] vm), (26, ql [.st .call, .st .call] [.bool] zl)], inl := [], eqs := [(73, [.I, .I, .I, .I]), (77, [.I, .I, .I])], glob := GL, L := qn, get := [] }
noncomputable def lwhole.lr9.sp : SPat := ⟨70, [0, 1, 5, 7, 13, 14, 15, 37, 38, 39], [.sl (.st .call), .sl .I, .mref 0, .I, .sl .I, .I, .I, .sl .I, .I, .I], [.map .I .bool], [], 0⟩
noncomputable def lwhole.lr9.es : List (Ex × SPat) := [(.ret, ⟨70, [4], [.bool], [], [], 0⟩), (.exit 2, ⟨70, [0, 1, 5, 13, 14, 15], [.sl (.st .call), .sl .I, .mref 0, .sl .I, .I, .I], [.map .I .bool], [], 0⟩)]
abbrev lwhole.lr9.X : Type := (((List Sx.Call) × ((List Int) × (Int × ((List Int) × (Int × (Int × ((List Int) × (Int × (Int × Unit))))))))) × ((List (Int × Bool)) × Unit))
abbrev lwhole.lr9.O : Type := (((Bool × Unit) × Unit) ⊕ (((List Sx.Call) × ((List Int) × ((List Int) × (Int × (Int × Unit))))) × ((List (Int × Bool)) × Unit)))
noncomputable def lwhole.lr9.T : (lwhole.lr9.X → Option lwhole.lr9.O) → lwhole.lr9.X → Option lwhole.lr9.O := fun rec x =>
 let a1 := x.1.2.1; let a2 := x.1.2.2.1; let a3 := x.1.2.2.2.1; let a4 := x.1.2.2.2.2.1; let a5 := x.1.2.2.2.2.2.1; let a6 := x.1.2.2.2.2.2.2.1; let a7 := x.1.2.2.2.2.2.2.2.1; let a8 := x.1.2.2.2.2.2.2.2.2.1; cnd (ilt a8 a7) (obind (lget a6 a8) (fun x_2 => obind (lget x.1.1 a2) (fun x_3 => obind (lget x.1.1 x_2) (fun x_4 => obind (zl (x_3) (x_4)) (fun x_5 => cnd x_5 (some (.inl ((false, ()), ()))) (rec ((x.1.1, (a1, (a2, (a3, (a4, (a5, (a6, (a7, (wrap .i64 (iadd a8 1), ()))))))))), (x.2.1, ())))))))) (some (.inr ((x.1.1, (a1, (a3, (a4, (a5, ()))))), (x.2.1, ()))))
noncomputable def lwhole.lr9 : Alt := ⟨lwhole.lr9.sp, lwhole.lr9.es, 100, lwhole.lr9.T⟩
noncomputable def lwhole.lr3.sp : SPat := ⟨70, [0, 1, 5, 13, 14, 15], [.sl (.st .call), .sl .I, .mref 0, .sl .I, .I, .I], [.map .I .bool], [], 0⟩
noncomputable def lwhole.lr3.es : List (Ex × SPat) := [(.ret, ⟨70, [4], [.bool], [], [], 0⟩), (.exit 0, ⟨70, [0, 5], [.sl (.st .call), .mref 0], [.map .I .bool], [], 0⟩)]
abbrev lwhole.lr3.X : Type := (((List Sx.Call) × ((List Int) × ((List Int) × (Int × (Int × Unit))))) × ((List (Int × Bool)) × Unit))
abbrev lwhole.lr3.O : Type := (((Bool × Unit) × Unit) ⊕ (((List Sx.Call) × Unit) × ((List (Int × Bool)) × Unit)))
noncomputable def lwhole.lr3.T : (lwhole.lr3.X → Option lwhole.lr3.O) → lwhole.lr3.X → Option lwhole.lr3.O := fun rec x =>
 let a1 := x.1.2.1; let a2 := x.1.2.2.1; let a3 := x.1.2.2.2.1; let a4 := x.1.2.2.2.2.1; cnd (ilt a4 a3) (obind (lget a2 a4) (fun x_1 => cnd (ilt x_1 0) (some (.inl ((false, ()), ()))) (cnd (ile (qh x.1.1) x_1) (some (.inl ((false, ()), ()))) (cnd (odef (@jo (Go.Sx.Kd.int .i64) Go.Sx.Kd.bool x.2.1 x_1) false) (some (.inl ((false, ()), ()))) (cnd (ile 0 a4) (cnd (ile a4 (qh a1)) (obind (qr lwhole.lr9.T qn (((x.1.1, (a1, (x_1, (a2, (a3, (a4, (ltake a1 a4, (qh (ltake a1 a4), (0, ()))))))))), (@gV (Go.Sx.Kd.int .i64) Go.Sx.Kd.bool x.2.1 x_1 true, ())))) (fun x_2 => scase (x_2) (fun x_3 => some (.inl ((x_3.1.1, ()), ()))) (fun x_3 => rec ((x_3.1.1, (x_3.1.2.1, (x_3.1.2.2.1, (x_3.1.2.2.2.1, (wrap .i64 (iadd x_3.1.2.2.2.2.1 1), ()))))), (x_3.2.1, ()))))) (none)) (none)))))) (some (.inr ((x.1.1, ()), (x.2.1, ()))))
noncomputable def lwhole.lr3 : Alt := ⟨lwhole.lr3.sp, lwhole.lr3.es, 200, lwhole.lr3.T⟩
noncomputable def lwhole.lr16.sp : SPat := ⟨70, [5, 54, 55, 56], [.mref 0, .sl (.st .call), .I, .I], [.map .I .bool], [], 0⟩
noncomputable def lwhole.lr16.es : List (Ex × SPat) := [(.ret, ⟨70, [4], [.bool], [], [], 0⟩), (.exit 4, ⟨70, [], [], [], [], 0⟩)]
abbrev lwhole.lr16.X : Type := (((List Sx.Call) × (Int × (Int × Unit))) × ((List (Int × Bool)) × Unit))
abbrev lwhole.lr16.O : Type := (((Bool × Unit) × Unit) ⊕ (Unit × Unit))
noncomputable def lwhole.lr16.T : (lwhole.lr16.X → Option lwhole.lr16.O) → lwhole.lr16.X → Option lwhole.lr16.O := fun rec x =>
 let a1 := x.1.2.1; let a2 := x.1.2.2.1; cnd (ilt a2 a1) (obind (lget x.1.1 a2) (fun x_2 => obind (vm (x_2)) (fun x_3 => cnd x_3 (cnd (bnot (odef (@jo (Go.Sx.Kd.int .i64) Go.Sx.Kd.bool x.2.1 a2) false)) (some (.inl ((false, ()), ()))) (rec ((x.1.1, (a1, (wrap .i64 (iadd a2 1), ()))), (x.2.1, ())))) (rec ((x.1.1, (a1, (wrap .i64 (iadd a2 1), ()))), (x.2.1, ())))))) (some (.inr ((), ())))
noncomputable def lwhole.lr16 : Alt := ⟨lwhole.lr16.sp, lwhole.lr16.es, 100, lwhole.lr16.T⟩
noncomputable def lwhole.H : Hints := ⟨[(18, [(9, [lwhole.lr9]), (3, [lwhole.lr3]), (16, [lwhole.lr16])])], []⟩
noncomputable def jX (l : List Sx.Call) (o : List Int) : Option (Bool) := obind (qr lwhole.lr3.T qn (((l, (o, (o, (qh o, (0, ()))))), ([], ())))) (fun x => scase x (fun x_1 => some x_1.1.1) (fun x_1 => let a1 := x_1.1.1; obind (qr lwhole.lr16.T qn (((a1, (qh a1, (0, ()))), (x_1.2.1, ())))) (fun x_2 => scase x_2 (fun x_3 => some x_3.1.1) (fun x_3 => some true))))
theorem BF : Alt.Round kG lwhole.H 18 (qN lwhole.H 18 Tryz.f18 0) lwhole.lr3 := by intro rec x; kernel_rfl
theorem BE : Alt.Round kG lwhole.H 18 (qN lwhole.H 18 Tryz.f18 1) lwhole.lr9 := by intro rec x; kernel_rfl
theorem BD : Alt.Round kG lwhole.H 18 (qN lwhole.H 18 Tryz.f18 2) lwhole.lr16 := by intro rec x; kernel_rfl
theorem UE : ∀ c, Tryz.f18.body = some c → ToldC kG lwhole.H 18 c := qV [lwhole.lr3, lwhole.lr9, lwhole.lr16] (by kernel_rfl) (fun i hi => match i, hi with | 0, _ => BF | 1, _ => BE | 2, _ => BD | n + 3, h => absurd h (by simp))
theorem Mu : InlsOK Tryz.prog kG lwhole.H kG.inl := .nil
theorem Rk (l : List Sx.Call) (o : List Int) : q9 kG lwhole.H 18 Tryz.f18 [.sl (.st .call) l, .sl .I o] (asR [.bool]) = jX l o := by kernel_rfl
theorem G9 : FnOK Tryz.prog 18 ∧ CtrOK Tryz.prog GL 18 (ql [.sl (.st .call), .sl .I] [.bool] jX) :=
 q7 (E := kG) zS (.cons Zo (.cons GH .nil)) Mu J4 vW in18 UE (fun xs => Rk xs.1 xs.2.1)
noncomputable def Jn : Env := { ty := VP, ctr := [(18, ql [.sl (.st .call), .sl .I] [.bool] jX), (19, ql [.st .world, .sl (.st .call), .sl .I] [.st .world, .sl (.st .reply)] QU), (20, ql [.st .call] [.bool] vm), (21, ql [.st .reply, .st .reply] [.bool] kH)], inl := [], eqs := [(73, [.I, .I, .I, .I]), (77, [.I, .I, .I])], glob := GL, L := qn, get := [] }
noncomputable def lgood.lr5.sp : SPat := ⟨48, [1, 8, 22, 23, 24], [.sl (.st .call), .sl (.st .reply), .sl .I, .I, .I], [], [], 0⟩
noncomputable def lgood.lr5.es : List (Ex × SPat) := [(.ret, ⟨48, [6], [.bool], [], [], 0⟩), (.exit 0, ⟨48, [], [], [], [], 0⟩)]
abbrev lgood.lr5.X : Type := (((List Sx.Call) × ((List Sx.Reply) × ((List Int) × (Int × (Int × Unit))))) × Unit)
abbrev lgood.lr5.O : Type := (((Bool × Unit) × Unit) ⊕ (Unit × Unit))
noncomputable def lgood.lr5.T : (lgood.lr5.X → Option lgood.lr5.O) → lgood.lr5.X → Option lgood.lr5.O := fun rec x =>
 let a1 := x.1.2.1; let a2 := x.1.2.2.1; let a3 := x.1.2.2.2.1; let a4 := x.1.2.2.2.2.1; cnd (ilt a4 a3) (obind (lget a2 a4) (fun x_2 => obind (lget x.1.1 x_2) (fun x_3 => obind (vm (x_3)) (fun x_4 => cnd x_4 (obind (lget a1 a4) (fun x_5 => obind (lget x.1.1 x_2) (fun x_6 => obind (kH (x_5) (x_6.reply)) (fun x_7 => cnd (bnot x_7) (some (.inl ((false, ()), ()))) (rec ((x.1.1, (a1, (a2, (a3, (wrap .i64 (iadd a4 1), ()))))), ())))))) (rec ((x.1.1, (a1, (a2, (a3, (wrap .i64 (iadd a4 1), ()))))), ())))))) (some (.inr ((), ())))
noncomputable def lgood.lr5 : Alt := ⟨lgood.lr5.sp, lgood.lr5.es, 100, lgood.lr5.T⟩
noncomputable def lgood.H : Hints := ⟨[(8, [(5, [lgood.lr5])])], []⟩
noncomputable def kI (w : Sx.World) (l : List Sx.Call) (o : List Int) : Option (Bool) := obind (jX l o) (fun x => cnd (bnot x) (some false) (obind (QU (w) l o) (fun x_1 => obind (qr lgood.lr5.T qn (((l, (x_1.2, (o, (qh o, (0, ()))))), ()))) (fun x_2 => scase x_2 (fun x_3 => some x_3.1.1) (fun x_3 => some true)))))
theorem My : Alt.Round Jn lgood.H 8 (qN lgood.H 8 Tryz.f8 0) lgood.lr5 := by intro rec x; kernel_rfl
theorem Rn : ∀ c, Tryz.f8.body = some c → ToldC Jn lgood.H 8 c := qV [lgood.lr5] (by kernel_rfl) (fun i hi => match i, hi with | 0, _ => My | n + 1, h => absurd h (by simp))
theorem qdg : InlsOK Tryz.prog Jn lgood.H Jn.inl := .nil
theorem Mx (w : Sx.World) (l : List Sx.Call) (o : List Int) : q9 Jn lgood.H 8 Tryz.f8 [.agg (SN.cells .world w), .sl (.st .call) l, .sl .I o] (asR [.bool]) = kI w l o := by kernel_rfl
theorem qdh : FnOK Tryz.prog 8 ∧ CtrOK Tryz.prog GL 8 (ql [.st .world, .sl (.st .call), .sl .I] [.bool] kI) :=
 q7 (E := Jn) zS (.cons G9 (.cons Mc (.cons Zo (.cons Yf .nil)))) qdg J4 vW in8 Rn (fun xs => Mx xs.1 xs.2.1 xs.2.2.1)
noncomputable def zv : Env := { ty := VP, ctr := [], inl := [(53, Tryz.f53)], eqs := [(73, [.I, .I, .I, .I]), (77, [.I, .I, .I])], glob := GL, L := qn, get := [] }
noncomputable def icontains.l12.sp : SPat := ⟨19, [0, 1, 7, 8], [.sl .I, .I, .I, .I], [], [], 0⟩
noncomputable def icontains.l12.es : List (Ex × SPat) := [(.ret, ⟨19, [4], [.I], [], [], 0⟩), (.exit 0, ⟨19, [], [], [], [], 0⟩)]
abbrev icontains.l12.X : Type := (((List Int) × (Int × (Int × (Int × Unit)))) × Unit)
abbrev icontains.l12.O : Type := (((Int × Unit) × Unit) ⊕ (Unit × Unit))
noncomputable def icontains.l12.T : (icontains.l12.X → Option icontains.l12.O) → icontains.l12.X → Option icontains.l12.O := fun rec x =>
 let a1 := x.1.2.1; let a2 := x.1.2.2.1; let a3 := x.1.2.2.2.1; cnd (ilt a3 a2) (obind (lget x.1.1 a3) (fun x_1 => cnd (ieq a1 x_1) (some (.inl ((a3, ()), ()))) (rec ((x.1.1, (a1, (a2, (wrap .i64 (iadd a3 1), ())))), ())))) (some (.inr ((), ())))
noncomputable def icontains.l12 : Alt := ⟨icontains.l12.sp, icontains.l12.es, 100, icontains.l12.T⟩
noncomputable def icontains.H : Hints := ⟨[(53, [(2, [icontains.l12])])], []⟩
noncomputable def qX (l : List Int) (n : Int) : Option (Bool) := obind (qr icontains.l12.T qn (((l, (n, (qh l, (0, ())))), ()))) (fun x => scase x (fun x_1 => some (ile 0 x_1.1.1)) (fun x_1 => some false))
theorem Vk : Alt.Round zv icontains.H 53 (qN icontains.H 53 Tryz.f53 0) icontains.l12 := by intro rec x; kernel_rfl
theorem Kp : ∀ c, Tryz.f53.body = some c → ToldC zv icontains.H 53 c := qV [icontains.l12] (by kernel_rfl) (fun i hi => match i, hi with | 0, _ => Vk | n + 1, h => absurd h (by simp))
theorem UH : InlsOK Tryz.prog zv icontains.H zv.inl := .cons in53 Kp .nil
theorem GN (l : List Int) (n : Int) : q9 zv icontains.H 25 Tryz.f25 [.sl .I l, .I n] (asR [.bool]) = qX l n := by kernel_rfl
theorem UI : FnOK Tryz.prog 25 ∧ CtrOK Tryz.prog GL 25 (ql [.sl .I, .I] [.bool] qX) :=
 q7 (E := zv) zS (.nil) UH J4 vW in25 (fun c _ => qi rfl c) (fun xs => GN xs.1 xs.2.1)
noncomputable def rgood.lr7.sp : SPat := ⟨142, [1, 2, 3, 7, 8], [.sl (.st .call), .sl .I, .ptr 0 0, .I, .I], [wBP], [], 0⟩
noncomputable def rgood.lr7.es : List (Ex × SPat) := [(.ret, ⟨142, [6], [.bool], [], [], 0⟩), (.exit 2, ⟨142, [1, 2, 3, 7], [.sl (.st .call), .sl .I, .ptr 0 0, .I], [wBP], [], 0⟩)]
abbrev rgood.lr7.X : Type := (((List Sx.Call) × ((List Int) × (Int × (Int × Unit)))) × (WTy × Unit))
abbrev rgood.lr7.O : Type := (((Bool × Unit) × Unit) ⊕ (((List Sx.Call) × ((List Int) × (Int × Unit))) × (WTy × Unit)))
noncomputable def rgood.lr7.T : (rgood.lr7.X → Option rgood.lr7.O) → rgood.lr7.X → Option rgood.lr7.O := fun rec x =>
 let a1 := x.1.2.1; let a2 := x.1.2.2.1; let a3 := x.1.2.2.2.1; cnd (ilt a3 a2) (obind (lget a1 a3) (fun x_3 => obind (lget x.1.1 x_3) (fun x_4 => obind (lget a1 a2) (fun x_5 => obind (lget x.1.1 x_5) (fun x_6 => obind (lget a1 a2) (fun x_7 => obind (lget a1 a3) (fun x_8 => cnd (ieq x_7 x_8) (some (.inl ((false, ()), ()))) (cnd (ile 0 x_6.to) (cnd (ilt x_6.to x_4.frm) (some (.inl ((false, ()), ()))) (rec ((x.1.1, (a1, (a2, (wrap .i64 (iadd a3 1), ())))), (x.2.1, ())))) (rec ((x.1.1, (a1, (a2, (wrap .i64 (iadd a3 1), ())))), (x.2.1, ()))))))))))) (some (.inr ((x.1.1, (a1, (a2, ()))), (x.2.1, ()))))
noncomputable def rgood.lr7 : Alt := ⟨rgood.lr7.sp, rgood.lr7.es, 100, rgood.lr7.T⟩
noncomputable def rgood.lr2.sp : SPat := ⟨142, [1, 2, 3, 7], [.sl (.st .call), .sl .I, .ptr 0 0, .I], [wBP], [], 0⟩
noncomputable def rgood.lr2.es : List (Ex × SPat) := [(.ret, ⟨142, [6], [.bool], [], [], 0⟩), (.exit 0, ⟨142, [1, 2, 3], [.sl (.st .call), .sl .I, .ptr 0 0], [wBP], [], 0⟩)]
abbrev rgood.lr2.X : Type := (((List Sx.Call) × ((List Int) × (Int × Unit))) × (WTy × Unit))
abbrev rgood.lr2.O : Type := (((Bool × Unit) × Unit) ⊕ (((List Sx.Call) × ((List Int) × Unit)) × (WTy × Unit)))
noncomputable def rgood.lr2.T : (rgood.lr2.X → Option rgood.lr2.O) → rgood.lr2.X → Option rgood.lr2.O := fun rec x =>
 let a1 := x.1.2.1; let a2 := x.1.2.2.1; cnd (ilt a2 (qh a1)) (obind (lget a1 a2) (fun x_1 => cnd (ilt x_1 0) (some (.inl ((false, ()), ()))) (obind (lget a1 a2) (fun x_2 => cnd (ile (qh x.1.1) x_2) (some (.inl ((false, ()), ()))) (obind (qr rgood.lr7.T qn (((x.1.1, (a1, (a2, (0, ())))), (x.2.1, ())))) (fun x_3 => scase (x_3) (fun x_4 => some (.inl ((x_4.1.1, ()), ()))) (fun x_4 => rec ((x_4.1.1, (x_4.1.2.1, (wrap .i64 (iadd x_4.1.2.2.1 1), ()))), (x_4.2.1, ()))))))))) (some (.inr ((x.1.1, (a1, ())), (x.2.1, ()))))
noncomputable def rgood.lr2 : Alt := ⟨rgood.lr2.sp, rgood.lr2.es, 200, rgood.lr2.T⟩
noncomputable def rgood.lr18.sp : SPat := ⟨142, [1, 2, 3, 11, 12, 13], [.sl (.st .call), .sl .I, .ptr 0 0, .I, .bool, .I], [wBP], [], 0⟩
noncomputable def rgood.lr18.es : List (Ex × SPat) := [(.exit 6, ⟨142, [1, 2, 3, 11, 12], [.sl (.st .call), .sl .I, .ptr 0 0, .I, .bool], [wBP], [], 0⟩)]
abbrev rgood.lr18.X : Type := (((List Sx.Call) × ((List Int) × (Int × (Bool × (Int × Unit))))) × (WTy × Unit))
abbrev rgood.lr18.O : Type := (((List Sx.Call) × ((List Int) × (Int × (Bool × Unit)))) × (WTy × Unit))
noncomputable def rgood.lr18.T : (rgood.lr18.X → Option rgood.lr18.O) → rgood.lr18.X → Option rgood.lr18.O := fun rec x =>
 let a1 := x.1.2.1; let a2 := x.1.2.2.1; let a3 := x.1.2.2.2.1; let a4 := x.1.2.2.2.2.1; cnd (ilt a4 (qh a1)) (cnd a3 (rec ((x.1.1, (a1, (a2, (true, (wrap .i64 (iadd a4 1), ()))))), (x.2.1, ()))) (obind (lget a1 a4) (fun x_2 => rec ((x.1.1, (a1, (a2, (ieq x_2 a2, (wrap .i64 (iadd a4 1), ()))))), (x.2.1, ()))))) (some ((x.1.1, (a1, (a2, (a3, ())))), (x.2.1, ())))
noncomputable def rgood.lr18 : Alt := ⟨rgood.lr18.sp, rgood.lr18.es, 100, rgood.lr18.T⟩
noncomputable def rgood.lr14.sp : SPat := ⟨142, [1, 2, 3, 11], [.sl (.st .call), .sl .I, .ptr 0 0, .I], [wBP], [], 0⟩
noncomputable def rgood.lr14.es : List (Ex × SPat) := [(.ret, ⟨142, [6], [.bool], [], [], 0⟩), (.exit 4, ⟨142, [1, 2, 3], [.sl (.st .call), .sl .I, .ptr 0 0], [wBP], [], 0⟩)]
abbrev rgood.lr14.X : Type := (((List Sx.Call) × ((List Int) × (Int × Unit))) × (WTy × Unit))
abbrev rgood.lr14.O : Type := (((Bool × Unit) × Unit) ⊕ (((List Sx.Call) × ((List Int) × Unit)) × (WTy × Unit)))
noncomputable def rgood.lr14.T : (rgood.lr14.X → Option rgood.lr14.O) → rgood.lr14.X → Option rgood.lr14.O := fun rec x =>
 let a5 := x.1.2.1; let a6 := x.1.2.2.1; cnd (ilt a6 (qh x.1.1)) (obind (qr rgood.lr18.T qn (((x.1.1, (a5, (a6, (false, (0, ()))))), (x.2.1, ())))) (fun x_2 => let a1 := x_2.1.1; let a2 := x_2.1.2.1; let a3 := x_2.1.2.2.1; let a4 := x_2.2.1; obind (lget a1 a3) (fun x_3 => cnd (ile 0 x_3.to) (cnd (bnot x_2.1.2.2.2.1) (some (.inl ((false, ()), ()))) (rec ((a1, (a2, (wrap .i64 (iadd a3 1), ()))), (a4, ())))) (rec ((a1, (a2, (wrap .i64 (iadd a3 1), ()))), (a4, ())))))) (some (.inr ((x.1.1, (a5, ())), (x.2.1, ()))))
noncomputable def rgood.lr14 : Alt := ⟨rgood.lr14.sp, rgood.lr14.es, 200, rgood.lr14.T⟩
noncomputable def rgood.lr24.sp : SPat := ⟨142, [1, 2, 3, 14], [.sl (.st .call), .sl .I, .ptr 0 0, .I], [wBP], [], 0⟩
noncomputable def rgood.lr24.es : List (Ex × SPat) := [(.ret, ⟨142, [6], [.bool], [], [], 0⟩), (.exit 8, ⟨142, [], [], [], [], 0⟩)]
abbrev rgood.lr24.X : Type := (((List Sx.Call) × ((List Int) × (Int × Unit))) × (WTy × Unit))
abbrev rgood.lr24.O : Type := (((Bool × Unit) × Unit) ⊕ (Unit × Unit))
noncomputable def rgood.lr24.T : (rgood.lr24.X → Option rgood.lr24.O) → rgood.lr24.X → Option rgood.lr24.O := fun rec x =>
 let a1 := x.1.2.1; let a2 := x.1.2.2.1; cnd (ilt a2 (qh a1)) (obind (lget a1 a2) (fun x_4 => obind (lget x.1.1 x_4) (fun x_5 => obind (rdoF ((wOf x.2.1)) x_5.player (x_5.cmd)) (fun x_6 => cnd (ile 0 x_5.to) (obind (By (x_6.2) (x_5.reply)) (fun x_7 => cnd (bnot x_7) (some (.inl ((false, ()), ()))) (rec ((x.1.1, (a1, (wrap .i64 (iadd a2 1), ()))), ((wTo x_6.1), ()))))) (rec ((x.1.1, (a1, (wrap .i64 (iadd a2 1), ()))), ((wTo x_6.1), ()))))))) (some (.inr ((), ())))
noncomputable def rgood.lr24 : Alt := ⟨rgood.lr24.sp, rgood.lr24.es, 100, rgood.lr24.T⟩
noncomputable def rgood.H : Hints := ⟨[(9, [(7, [rgood.lr7]), (2, [rgood.lr2]), (18, [rgood.lr18]), (14, [rgood.lr14]), (24, [rgood.lr24])])], []⟩
noncomputable def vU (w : Sx.World) (l : List Sx.Call) (o : List Int) : Option (Bool) := obind (qr rgood.lr2.T qn (((l, (o, (0, ()))), ((wTo w), ())))) (fun x => scase x (fun x_1 => some x_1.1.1) (fun x_1 => obind (qr rgood.lr14.T qn (((x_1.1.1, (x_1.1.2.1, (0, ()))), (x_1.2.1, ())))) (fun x_2 => scase x_2 (fun x_3 => some x_3.1.1) (fun x_3 => obind (qr rgood.lr24.T qn (((x_3.1.1, (x_3.1.2.1, (0, ()))), (x_3.2.1, ())))) (fun x_4 => scase x_4 (fun x_5 => some x_5.1.1) (fun x_5 => some true))))))
noncomputable def rbegins.lr4.sp : SPat := ⟨34, [1, 2, 3, 7, 8, 9], [.sl (.st .call), .sl .I, .ptr 0 0, .vec 1, .vec 2, .I], [wBP, .vec (.st .call), .vec .I], [], 0⟩
noncomputable def rbegins.lr4.es : List (Ex × SPat) := [(.exit 0, ⟨34, [3, 7, 8], [.ptr 0 0, .vec 1, .vec 2], [wBP, .vec (.st .call), .vec .I], [], 0⟩)]
abbrev rbegins.lr4.X : Type := (((List Sx.Call) × ((List Int) × (Int × Unit))) × (WTy × ((List Sx.Call) × ((List Int) × Unit))))
abbrev rbegins.lr4.O : Type := (Unit × (WTy × ((List Sx.Call) × ((List Int) × Unit))))
noncomputable def rbegins.lr4.T : (rbegins.lr4.X → Option rbegins.lr4.O) → rbegins.lr4.X → Option rbegins.lr4.O := fun rec x =>
 let a1 := x.1.2.1; let a2 := x.1.2.2.1; let a3 := x.2.2.1; let a4 := x.2.2.2.1; cnd (ilt a2 (qh a1)) (obind (lget a1 a2) (fun x_1 => obind (lget x.1.1 x_1) (fun x_2 => cnd (ilt (imul (iadd (qh a3) 1) 208) 140737488355329) (cnd (ilt (imul (iadd (qh a4) 1) 8) 140737488355329) (rec ((x.1.1, (a1, (wrap .i64 (iadd a2 1), ()))), (x.2.1, (lapp a3 ([x_2]), (lapp a4 (([a2] : List Int)), ()))))) (none)) (none)))) (some ((), (x.2.1, (a3, (a4, ())))))
noncomputable def rbegins.lr4 : Alt := ⟨rbegins.lr4.sp, rbegins.lr4.es, 100, rbegins.lr4.T⟩
noncomputable def rbegins.H : Hints := ⟨[(28, [(4, [rbegins.lr4])])], []⟩
noncomputable def Gt (w : Sx.World) (l : List Sx.Call) (o : List Int) : Option (Bool) := obind (qr rbegins.lr4.T qn (((l, (o, (0, ()))), ((wTo w), ([], (([] : List Int), ())))))) (fun x => obind (vU ((wOf x.2.1)) x.2.2.1 x.2.2.2.1) (fun x_1 => some x_1))
noncomputable def rany.lr8.sp : SPat := ⟨53, [1, 2, 3, 7, 8, 9], [.sl (.st .call), .sl .I, .ptr 0 0, .I, .bool, .I], [wBP], [], 0⟩
noncomputable def rany.lr8.es : List (Ex × SPat) := [(.exit 2, ⟨53, [1, 2, 3, 7, 8], [.sl (.st .call), .sl .I, .ptr 0 0, .I, .bool], [wBP], [], 0⟩)]
abbrev rany.lr8.X : Type := (((List Sx.Call) × ((List Int) × (Int × (Bool × (Int × Unit))))) × (WTy × Unit))
abbrev rany.lr8.O : Type := (((List Sx.Call) × ((List Int) × (Int × (Bool × Unit)))) × (WTy × Unit))
noncomputable def rany.lr8.T (rc : Sx.World → (List Sx.Call) → (List Int) → Option (Bool)) : (rany.lr8.X → Option rany.lr8.O) → rany.lr8.X → Option rany.lr8.O := fun rec x =>
 let a1 := x.1.2.1; let a2 := x.1.2.2.1; let a3 := x.1.2.2.2.1; let a4 := x.1.2.2.2.2.1; cnd (ilt a4 (qh a1)) (cnd a3 (rec ((x.1.1, (a1, (a2, (true, (wrap .i64 (iadd a4 1), ()))))), (x.2.1, ()))) (obind (lget a1 a4) (fun x_1 => rec ((x.1.1, (a1, (a2, (ieq x_1 a2, (wrap .i64 (iadd a4 1), ()))))), (x.2.1, ()))))) (some ((x.1.1, (a1, (a2, (a3, ())))), (x.2.1, ())))
noncomputable def rany.lr8 (rc : Sx.World → (List Sx.Call) → (List Int) → Option (Bool)) : Alt := ⟨rany.lr8.sp, rany.lr8.es, 100, (rany.lr8.T rc)⟩
noncomputable def rany.lr4.sp : SPat := ⟨53, [1, 2, 3, 7], [.sl (.st .call), .sl .I, .ptr 0 0, .I], [wBP], [], 0⟩
noncomputable def rany.lr4.es : List (Ex × SPat) := [(.ret, ⟨53, [6], [.bool], [], [], 0⟩), (.exit 0, ⟨53, [], [], [], [], 0⟩)]
abbrev rany.lr4.X : Type := (((List Sx.Call) × ((List Int) × (Int × Unit))) × (WTy × Unit))
abbrev rany.lr4.O : Type := (((Bool × Unit) × Unit) ⊕ (Unit × Unit))
noncomputable def rany.lr4.T (rc : Sx.World → (List Sx.Call) → (List Int) → Option (Bool)) : (rany.lr4.X → Option rany.lr4.O) → rany.lr4.X → Option rany.lr4.O := fun rec x =>
 let a5 := x.1.2.2.1; cnd (ilt a5 (qh x.1.1)) (obind (qr (rany.lr8.T rc) qn (((x.1.1, (x.1.2.1, (a5, (false, (0, ()))))), (x.2.1, ())))) (fun x_1 => let a1 := x_1.1.1; let a2 := x_1.1.2.1; let a3 := x_1.1.2.2.1; let a4 := x_1.2.1; cnd x_1.1.2.2.2.1 (rec ((a1, (a2, (wrap .i64 (iadd a3 1), ()))), (a4, ()))) (cnd (ilt (imul (iadd 0 (qh a2)) 8) 140737488355329) (cnd (ilt (imul (iadd (qh a2) 1) 8) 140737488355329) (obind (Gt ((wOf a4)) a1 (lapp a2 (([a3] : List Int)))) (fun x_2 => cnd x_2 (obind (rc ((wOf a4)) a1 (lapp a2 (([a3] : List Int)))) (fun x_3 => cnd x_3 (some (.inl ((true, ()), ()))) (rec ((a1, (a2, (wrap .i64 (iadd a3 1), ()))), (a4, ()))))) (rec ((a1, (a2, (wrap .i64 (iadd a3 1), ()))), (a4, ()))))) (none)) (none)))) (some (.inr ((), ())))
noncomputable def rany.lr4 (rc : Sx.World → (List Sx.Call) → (List Int) → Option (Bool)) : Alt := ⟨rany.lr4.sp, rany.lr4.es, 200, (rany.lr4.T rc)⟩
noncomputable def rany.H (rc : Sx.World → (List Sx.Call) → (List Int) → Option (Bool)) : Hints := ⟨[(11, [(8, [(rany.lr8 rc)]), (4, [(rany.lr4 rc)])])], []⟩
noncomputable def qf6 (rc : Sx.World → (List Sx.Call) → (List Int) → Option (Bool)) (w : Sx.World) (l : List Sx.Call) (o : List Int) : Option (Bool) := obind (vU (w) l o) (fun x => cnd x (some true) (obind (qr (rany.lr4.T rc) qn (((l, (o, (0, ()))), ((wTo w), ())))) (fun x_1 => scase x_1 (fun x_2 => some x_2.1.1) (fun x_2 => some false))))
noncomputable def km : Nat → Sx.World → (List Sx.Call) → (List Int) → Option (Bool)
 | 0 => fun _ _ _ => none
 | n + 1 => qf6 (km n)
noncomputable def Yk : Sx.World → (List Sx.Call) → (List Int) → Option (Bool) := km 100
end Go.Sx
