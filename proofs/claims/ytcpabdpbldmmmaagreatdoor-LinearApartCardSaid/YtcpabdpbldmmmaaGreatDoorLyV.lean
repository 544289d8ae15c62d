/-
  the law of calls apart, walked (printed by wip/dev/gen2.py)
-/
import Derived.Test.YtcpabdpbldmmmaaGreatDoorLyU
import Derived.Test.YtcpabdpbldmmmaaGreatDoorProg
import Derived.KernelRfl
set_option linter.unusedVariables false
set_option linter.unusedSimpArgs false
namespace Go.Sx
open Go Go.Proofs
def tyLV : List (Nat × TyI) :=
 [(3, ⟨false, 1, 8, [.I 0], some .I, .I⟩),
  (4, ⟨false, 1, 1, [.bool false], some .bool, .bool⟩),
  (5, ⟨false, 1, 1, [.int .u8 0], some (.int .u8), .int .u8⟩),
  (22, ⟨false, 1, 24, [.nilsl], some (.sl (.st .exits)), .sl 104⟩),
  (23, ⟨false, 1, 24, [.nilsl], some (.sl .I), .sl 3⟩),
  (24, ⟨false, 1, 24, [.nilsl], some (.sl .bool), .sl 4⟩),
  (26, ⟨true, 8, 144, [.nilsl, .nilsl, .nilsl, .nilsl, .nilsl, .I 0, .I 0, .I 0], some (.st .desc), .st [(0, 22), (1, 23), (2, 23), (3, 23), (4, 24), (5, 3), (6, 3), (7, 3)]⟩),
  (27, ⟨false, 1, 24, [.nilsl], some (.sl (.st .place)), .sl 65⟩),
  (29, ⟨true, 11, 216, [.nilsl, .nilsl, .nilsl, .nilsl, .nilsl, .I 0, .I 0, .I 0, .nilsl, .nilsl, .nilsl], some (.st .world), .st [(0, 26), (8, 23), (9, 23), (10, 27)]⟩),
  (30, ⟨false, 1, 24, [.nilsl], some (.sl (.st .call)), .sl 43⟩),
  (37, ⟨true, 9, 104, [.I 0, .I 0, .I 0, .I 0, .I 0, .nilsl, .I 0, .nilsl, .I 0], some (.st .cmd), .st [(0, 3), (1, 3), (2, 3), (3, 3), (4, 3), (5, 23), (6, 3), (7, 23), (8, 3)]⟩),
  (38, ⟨false, 1, 8, [.I 0], some .I, .I⟩),
  (39, ⟨false, 1, 24, [.nilsl], some (.sl (.st .seen)), .sl 77⟩),
  (41, ⟨true, 6, 80, [.I 0, .I 0, .I 0, .nilsl, .nilsl, .I 0], some (.st .reply), .st [(0, 38), (1, 3), (2, 3), (3, 23), (4, 39), (5, 3)]⟩),
  (43, ⟨true, 18, 208, [.I 0, .I 0, .I 0, .I 0, .I 0, .I 0, .nilsl, .I 0, .nilsl, .I 0, .I 0, .I 0, .I 0, .I 0, .I 0, .nilsl, .nilsl, .I 0], some (.st .call), .st [(0, 3), (1, 37), (10, 3), (11, 3), (12, 41)]⟩),
  (65, ⟨true, 2, 16, [.I 0, .I 0], some (.st .place), .st [(0, 3), (1, 3)]⟩),
  (77, ⟨true, 3, 24, [.I 0, .I 0, .I 0], some (.st .seen), .st [(0, 3), (1, 65)]⟩),
  (104, ⟨true, 4, 32, [.I 0, .I 0, .I 0, .I 0], some (.st .exits), .arr 4 3⟩)]
theorem tyLV_ok : (tyLV.all fun p => J7 Tryz.prog p.1 p.2) = true := by kernel_rfl
theorem mixedV : Tryz.prog.follows .mixedOrders = true := by kernel_rfl
theorem eqsLV : EqsOK Tryz.prog [] := .nil
noncomputable def jK : Env := { ty := tyLV, ctr := [(6, ql [] [.bool] vH), (7, ql [.st .world, .sl (.st .call), .I] [.bool] Kj), (12, ql [.st .world, .I, .st .cmd] [.st .world, .st .reply] Qn), (10, ql [.st .world, .sl (.st .call)] [.sl .I, .bool] ze), (13, ql [.sl .I, .sl .I] [.bool] zU)], inl := [], eqs := [], glob := GL, L := qn, get := [], scope := [(5, 14)] }
noncomputable def linearApart.lr7.sp : SPat := ⟨102, [1, 2, 3, 7, 8, 9, 10], [.sl (.st .call), .int .u8, .ptr 0 0, .ptr 1 0, .vec 2, .vec 3, .I], [wBP, wBP, .vec .I, .vec (.st .call)], [], 0⟩
noncomputable def linearApart.lr7.es : List (Ex × SPat) := [(.exit 0, ⟨102, [2, 3, 8, 9], [.int .u8, .ptr 0 0, .vec 2, .vec 3], [wBP, .dead, .vec .I, .vec (.st .call)], [], 0⟩)]
abbrev linearApart.lr7.X : Type := (((List Sx.Call) × (Int × (Int × Unit))) × (WTy × (WTy × ((List Int) × ((List Sx.Call) × Unit)))))
abbrev linearApart.lr7.O : Type := ((Int × Unit) × (WTy × ((List Int) × ((List Sx.Call) × Unit))))
noncomputable def linearApart.lr7.T : (linearApart.lr7.X → Option linearApart.lr7.O) → linearApart.lr7.X → Option linearApart.lr7.O := fun rec x =>
 let a1 := x.1.2.1; let a2 := x.1.2.2.1; let a3 := x.2.2.2.1; let a4 := x.2.2.2.2.1; cnd (ilt a2 (qh x.1.1)) (obind (lget x.1.1 a2) (fun x_2 => obind (Qn ((wOf x.2.2.1)) x_2.player (x_2.cmd)) (fun x_3 => cnd (ilt (imul (iadd (qh a4) 1) 208) 140737488355329) (cnd (ilt (imul (iadd (qh a3) 1) 8) 140737488355329) (rec ((x.1.1, (a1, (wrap .i64 (iadd a2 1), ()))), (x.2.1, ((wTo x_3.1), (lapp a3 (([a2] : List Int)), (lapp a4 ([⟨x_2.player, x_2.cmd, wrap .i64 (imul 2 a2), wrap .i64 (iadd (wrap .i64 (imul 2 a2)) 1), x_3.2⟩]), ())))))) (none)) (none)))) (some ((a1, ()), (x.2.1, (a3, (a4, ())))))
noncomputable def linearApart.lr7 : Alt := ⟨linearApart.lr7.sp, linearApart.lr7.es, 45, linearApart.lr7.T⟩
noncomputable def linearApart.H : Hints := ⟨[(5, [(7, [linearApart.lr7])])], []⟩
noncomputable def jY (w : Sx.World) (l : List Sx.Call) (k : Int) : Option (Bool) := obind vH (fun x => cnd (bnot x) (obind vH (fun x_1 => some x_1)) (obind (Kj (w) l 5) (fun x_1 => cnd (bnot x_1) (obind vH (fun x_2 => some x_2)) (obind (qr linearApart.lr7.T qn (((l, (k, (0, ()))), ((wTo w), ((wTo w), (([] : List Int), ([], ()))))))) (fun x_2 => let a1 := x_2.1.1; let a2 := x_2.2.1; let a3 := x_2.2.2.2.1; obind (ze ((wOf a2)) a3) (fun x_3 => cnd (bnot x_3.2) (some false) (obind (zU x_3.1 x_2.2.2.1) (fun x_4 => cnd (bnot x_4) (some false) (cnd (ieq (qh a3) 0) (some true) (cnd (ieq (qh a3) 0) none (cnd (ile 0 (irem (wrap .i64 a1) (qh a3))) (cnd (ilt (irem (wrap .i64 a1) (qh a3)) (qh a3)) (obind (lget a3 (irem (wrap .i64 a1) (qh a3))) (fun x_5 => obind (ze ((wOf a2)) (lset a3 (irem (wrap .i64 a1) (qh a3)) (⟨x_5.player, x_5.cmd, x_5.frm, x_5.to, ⟨1, 0, 0, ([] : List Int), [], 0⟩⟩))) (fun x_6 => some (bnot x_6.2)))) none) none)))))))))))
theorem Kn : Alt.Round jK linearApart.H 5 (qN linearApart.H 5 Tryz.f5 0) linearApart.lr7 := by intro rec x; kernel_rfl
theorem Zn : ∀ c, Tryz.f5.body = some c → ToldC jK linearApart.H 5 c := qV [linearApart.lr7] (by kernel_rfl) (fun i hi => match i, hi with | 0, _ => Kn | n + 1, h => absurd h (by simp))
theorem Vi : InlsOK Tryz.prog jK linearApart.H jK.inl := .nil
theorem Km (w : Sx.World) (l : List Sx.Call) (k : Int) : q9 jK linearApart.H 5 Tryz.f5 [.agg (SN.cells .world w), .sl (.st .call) l, .int .u8 k] (asR [.bool]) = jY w l k := by kernel_rfl
theorem linearApart_law (htrue : ∀ xs : Lf [.st .world, .sl (.st .call), .int .u8], (∀ m, wfA m _ xs) → jY xs.1 xs.2.1 xs.2.2.1 = some true) : ∀ xs : Lf [.st .world, .sl (.st .call), .int .u8], (∀ m, wfA m _ xs) → CallsTo Tryz.prog GL 5 (cellsL [.st .world, .sl (.st .call), .int .u8] xs) (.bool true) :=
 fun xs hx => law_to (E := jK) (ks := [.st .world, .sl (.st .call), .int .u8]) tyLV_ok (.cons Mq (.cons qda (.cons Di (.cons Yw (.cons Gv .nil))))) Vi eqsLV mixedV in5 Zn (F := jY) (fun xs => Km xs.1 xs.2.1 xs.2.2.1) htrue xs hx
end Go.Sx
