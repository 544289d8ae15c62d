/-
  the laws of orders, walked (printed by wip/dev/gen2.py)
-/
import Derived.Test.YtcpabdpbldmmmaaGreatDoorLyF
import Derived.Test.YtcpabdpbldmmmaaGreatDoorProg
import Derived.KernelRfl
set_option linter.unusedVariables false
set_option linter.unusedSimpArgs false
namespace Go.Sx
open Go Go.Proofs
def tyLU : List (Nat × TyI) :=
 [(3, ⟨false, 1, 8, [.I 0], some .I, .I⟩),
  (4, ⟨false, 1, 1, [.bool false], some .bool, .bool⟩),
  (5, ⟨false, 1, 1, [.int .u8 0], some (.int .u8), .int .u8⟩),
  (22, ⟨false, 1, 24, [.nilsl], some (.sl (.st .exits)), .sl 104⟩),
  (23, ⟨false, 1, 24, [.nilsl], some (.sl .I), .sl 3⟩),
  (24, ⟨false, 1, 24, [.nilsl], some (.sl .bool), .sl 4⟩),
  (26, ⟨true, 8, 144, [.nilsl, .nilsl, .nilsl, .nilsl, .nilsl, .I 0, .I 0, .I 0], some (.st .desc), .st [(0, 22), (1, 23), (2, 23), (3, 23), (4, 24), (5, 3), (6, 3), (7, 3)]⟩),
  (27, ⟨false, 1, 24, [.nilsl], some (.sl (.st .place)), .sl 65⟩),
  (29, ⟨true, 11, 216, [.nilsl, .nilsl, .nilsl, .nilsl, .nilsl, .I 0, .I 0, .I 0, .nilsl, .nilsl, .nilsl], some (.st .world), .st [(0, 26), (8, 23), (9, 23), (10, 27)]⟩),
  (30, ⟨false, 1, 24, [.nilsl], some (.sl (.st .call)), .sl 43⟩),
  (37, ⟨true, 9, 104, [.I 0, .I 0, .I 0, .I 0, .I 0, .nilsl, .I 0, .nilsl, .I 0], some (.st .cmd), .st [(0, 3), (1, 3), (2, 3), (3, 3), (4, 3), (5, 23), (6, 3), (7, 23), (8, 3)]⟩),
  (38, ⟨false, 1, 8, [.I 0], some .I, .I⟩),
  (39, ⟨false, 1, 24, [.nilsl], some (.sl (.st .seen)), .sl 77⟩),
  (41, ⟨true, 6, 80, [.I 0, .I 0, .I 0, .nilsl, .nilsl, .I 0], some (.st .reply), .st [(0, 38), (1, 3), (2, 3), (3, 23), (4, 39), (5, 3)]⟩),
  (43, ⟨true, 18, 208, [.I 0, .I 0, .I 0, .I 0, .I 0, .I 0, .nilsl, .I 0, .nilsl, .I 0, .I 0, .I 0, .I 0, .I 0, .I 0, .nilsl, .nilsl, .I 0], some (.st .call), .st [(0, 3), (1, 37), (10, 3), (11, 3), (12, 41)]⟩),
  (65, ⟨true, 2, 16, [.I 0, .I 0], some (.st .place), .st [(0, 3), (1, 3)]⟩),
  (77, ⟨true, 3, 24, [.I 0, .I 0, .I 0], some (.st .seen), .st [(0, 3), (1, 65)]⟩),
  (104, ⟨true, 4, 32, [.I 0, .I 0, .I 0, .I 0], some (.st .exits), .arr 4 3⟩)]
theorem qap : (tyLU.all fun p => J7 Tryz.prog p.1 p.2) = true := by kernel_rfl
theorem qgp : Tryz.prog.follows .mixedOrders = true := by kernel_rfl
theorem eqsLU : EqsOK Tryz.prog [] := .nil
theorem in5 : FnIn Tryz.prog 5 Tryz.f5 := .mk Tryz.func5 (by kernel_rfl) (by kernel_rfl)
theorem in6 : FnIn Tryz.prog 6 Tryz.f6 := .mk Tryz.func6 (by kernel_rfl) (by kernel_rfl)
theorem in7 : FnIn Tryz.prog 7 Tryz.f7 := .mk Tryz.func7 (by kernel_rfl) (by kernel_rfl)
noncomputable def ZF : Env := { ty := tyLU, ctr := [(14, ql [.st .desc] [.st .world] DD), (10, ql [.st .world, .sl (.st .call)] [.sl .I, .bool] ze), (13, ql [.sl .I, .sl .I] [.bool] zU), (8, ql [.st .world, .sl (.st .call), .sl .I] [.bool] kI)], inl := [], eqs := [], glob := GL, L := qn, get := [] }
noncomputable def nawake.H : Hints := ⟨[], []⟩
noncomputable def vH  : Option (Bool) := obind (DD (⟨[⟨0, 0, 0, 0⟩], ([0, 0] : List Int), ([5, 2] : List Int), ([0] : List Int), ([false] : List Bool), 4, 2, 1⟩)) (fun x => obind (ze (x) ([⟨0, ⟨3, 0, 0, 0, 0, ([] : List Int), 0, ([] : List Int), 0⟩, 0, 5, ⟨0, 3, 0, ([] : List Int), [], 0⟩⟩, ⟨1, ⟨3, 0, 0, 0, 0, ([] : List Int), 0, ([] : List Int), 0⟩, 1, 4, ⟨0, 3, 0, ([] : List Int), [], 0⟩⟩])) (fun x_1 => obind (ze (x) ([⟨0, ⟨3, 0, 0, 0, 0, ([] : List Int), 0, ([] : List Int), 0⟩, 0, 5, ⟨5, 0, 0, ([] : List Int), [], 0⟩⟩, ⟨1, ⟨3, 0, 0, 0, 0, ([] : List Int), 0, ([] : List Int), 0⟩, 1, 4, ⟨0, 3, 0, ([] : List Int), [], 0⟩⟩])) (fun x_2 => obind (ze (x) ([⟨0, ⟨3, 0, 0, 0, 0, ([] : List Int), 0, ([] : List Int), 0⟩, 0, 1, ⟨5, 0, 0, ([] : List Int), [], 0⟩⟩, ⟨1, ⟨3, 0, 0, 0, 0, ([] : List Int), 0, ([] : List Int), 0⟩, 2, 4, ⟨0, 3, 0, ([] : List Int), [], 0⟩⟩])) (fun x_3 => cnd (bnot x_1.2) (cnd x_2.2 (obind (zU x_2.1 (([1, 0] : List Int))) (fun x_4 => cnd x_4 (cnd (bnot x_3.2) (obind (kI (x) ([⟨0, ⟨3, 0, 0, 0, 0, ([] : List Int), 0, ([] : List Int), 0⟩, 0, 5, ⟨5, 0, 0, ([] : List Int), [], 0⟩⟩, ⟨1, ⟨3, 0, 0, 0, 0, ([] : List Int), 0, ([] : List Int), 0⟩, 1, 4, ⟨0, 3, 0, ([] : List Int), [], 0⟩⟩]) (([1, 0] : List Int))) (fun x_5 => cnd x_5 (obind (kI (x) ([⟨0, ⟨3, 0, 0, 0, 0, ([] : List Int), 0, ([] : List Int), 0⟩, 0, 5, ⟨5, 0, 0, ([] : List Int), [], 0⟩⟩, ⟨1, ⟨3, 0, 0, 0, 0, ([] : List Int), 0, ([] : List Int), 0⟩, 1, 4, ⟨0, 3, 0, ([] : List Int), [], 0⟩⟩]) (([0, 1] : List Int))) (fun x_6 => cnd (bnot x_6) (obind (kI (x) ([⟨0, ⟨3, 0, 0, 0, 0, ([] : List Int), 0, ([] : List Int), 0⟩, 0, 1, ⟨5, 0, 0, ([] : List Int), [], 0⟩⟩, ⟨1, ⟨3, 0, 0, 0, 0, ([] : List Int), 0, ([] : List Int), 0⟩, 2, 4, ⟨0, 3, 0, ([] : List Int), [], 0⟩⟩]) (([1, 0] : List Int))) (fun x_7 => cnd (bnot x_7) (obind (kI (x) [] (([] : List Int))) (fun x_8 => cnd x_8 (obind (kI (x) ([⟨0, ⟨3, 0, 0, 0, 0, ([] : List Int), 0, ([] : List Int), 0⟩, 0, 5, ⟨5, 0, 0, ([] : List Int), [], 0⟩⟩, ⟨1, ⟨3, 0, 0, 0, 0, ([] : List Int), 0, ([] : List Int), 0⟩, 1, 4, ⟨0, 3, 0, ([] : List Int), [], 0⟩⟩]) (([1] : List Int))) (fun x_9 => some (bnot x_9))) (some false))) (some false))) (some false))) (some false))) (some false)) (some false))) (some false)) (some false)))))
theorem Mp : InlsOK Tryz.prog ZF nawake.H ZF.inl := .nil
theorem Rf  : q9 ZF nawake.H 6 Tryz.f6 [] (asR [.bool]) = vH  := by kernel_rfl
theorem Mq : FnOK Tryz.prog 6 ∧ CtrOK Tryz.prog GL 6 (ql [] [.bool] vH) :=
 q7 (E := ZF) qap (.cons qfp (.cons Yw (.cons Gv (.cons qdh .nil)))) Mp eqsLU qgp in6 (fun c _ => qi rfl c) (fun _ => Rf )
noncomputable def Jm : Env := { ty := tyLU, ctr := [(15, ql [.st .world] [.bool] ZY), (16, ql [.st .world] [.bool] gQ), (17, ql [.st .cmd] [.bool] Kb)], inl := [], eqs := [], glob := GL, L := qn, get := [] }
noncomputable def nfits.lr4.sp : SPat := ⟨54, [1, 3, 7], [.sl (.st .call), .ptr 0 0, .I], [wBP], [], 0⟩
noncomputable def nfits.lr4.es : List (Ex × SPat) := [(.ret, ⟨54, [6], [.bool], [], [], 0⟩), (.exit 0, ⟨54, [], [], [], [], 0⟩)]
abbrev nfits.lr4.X : Type := (((List Sx.Call) × (Int × Unit)) × (WTy × Unit))
abbrev nfits.lr4.O : Type := (((Bool × Unit) × Unit) ⊕ (Unit × Unit))
noncomputable def nfits.lr4.T : (nfits.lr4.X → Option nfits.lr4.O) → nfits.lr4.X → Option nfits.lr4.O := fun rec x =>
 let a1 := x.1.2.1; cnd (ilt a1 (qh x.1.1)) (obind (lget x.1.1 a1) (fun x_2 => cnd (ilt x_2.player 0) (some (.inl ((false, ()), ()))) (obind (lget x.1.1 a1) (fun x_3 => cnd (ile (qh x.2.1.2.2.2.2.2.2.2.2.1) x_3.player) (some (.inl ((false, ()), ()))) (obind (lget x.1.1 a1) (fun x_4 => obind (Kb (x_4.cmd)) (fun x_5 => cnd (bnot x_5) (some (.inl ((false, ()), ()))) (rec ((x.1.1, (wrap .i64 (iadd a1 1), ())), (x.2.1, ())))))))))) (some (.inr ((), ())))
noncomputable def nfits.lr4 : Alt := ⟨nfits.lr4.sp, nfits.lr4.es, 100, nfits.lr4.T⟩
noncomputable def nfits.H : Hints := ⟨[(7, [(4, [nfits.lr4])])], []⟩
noncomputable def Kj (w : Sx.World) (l : List Sx.Call) (m : Int) : Option (Bool) := obind (ZY (w)) (fun x => cnd (bnot x) (some false) (obind (gQ (w)) (fun x_1 => cnd (bnot x_1) (some false) (cnd (ilt m (qh l)) (some false) (obind (qr nfits.lr4.T qn (((l, (0, ())), ((wTo w), ())))) (fun x_2 => scase x_2 (fun x_3 => some x_3.1.1) (fun x_3 => some true)))))))
theorem Mo : Alt.Round Jm nfits.H 7 (qN nfits.H 7 Tryz.f7 0) nfits.lr4 := by intro rec x; kernel_rfl
theorem Re : ∀ c, Tryz.f7.body = some c → ToldC Jm nfits.H 7 c := qV [nfits.lr4] (by kernel_rfl) (fun i hi => match i, hi with | 0, _ => Mo | n + 1, h => absurd h (by simp))
theorem qc9 : InlsOK Tryz.prog Jm nfits.H Jm.inl := .nil
theorem Mn (w : Sx.World) (l : List Sx.Call) (m : Int) : q9 Jm nfits.H 7 Tryz.f7 [.agg (SN.cells .world w), .sl (.st .call) l, .I m] (asR [.bool]) = Kj w l m := by kernel_rfl
theorem qda : FnOK Tryz.prog 7 ∧ CtrOK Tryz.prog GL 7 (ql [.st .world, .sl (.st .call), .I] [.bool] Kj) :=
 q7 (E := Jm) qap (.cons qcv (.cons NL (.cons qc2 .nil))) qc9 eqsLU qgp in7 Re (fun xs => Mn xs.1 xs.2.1 xs.2.2.1)
noncomputable def linearGood.H : Hints := ⟨[], []⟩
noncomputable def linearTurned.lr7.sp : SPat := ⟨124, [1, 2, 3, 7, 8], [.sl (.st .call), .sl .I, .ptr 0 0, .I, .I], [wBP], [], 0⟩
noncomputable def linearTurned.lr7.es : List (Ex × SPat) := [(.ret, ⟨124, [6], [.bool], [], [], 0⟩), (.exit 0, ⟨124, [1, 2, 3], [.sl (.st .call), .sl .I, .ptr 0 0], [wBP], [], 0⟩)]
abbrev linearTurned.lr7.X : Type := (((List Sx.Call) × ((List Int) × (Int × (Int × Unit)))) × (WTy × Unit))
abbrev linearTurned.lr7.O : Type := (((Bool × Unit) × Unit) ⊕ (((List Sx.Call) × ((List Int) × Unit)) × (WTy × Unit)))
noncomputable def linearTurned.lr7.T : (linearTurned.lr7.X → Option linearTurned.lr7.O) → linearTurned.lr7.X → Option linearTurned.lr7.O := fun rec x =>
 let a1 := x.1.2.1; let a2 := x.1.2.2.1; let a3 := x.1.2.2.2.1; cnd (ilt a3 a2) (cnd (ilt (imul (iadd 0 (qh a1)) 8) 140737488355329) (obind (lget a1 (wrap .i64 (iadd a3 1))) (fun x_6 => cnd (ile 0 a3) (cnd (ilt a3 (qh a1)) (obind (lget a1 a3) (fun x_7 => obind (lget a1 a3) (fun x_8 => cnd (ile 0 (wrap .i64 (iadd a3 1))) (cnd (ilt (wrap .i64 (iadd a3 1)) (qh (lset a1 a3 x_6))) (obind (lget (lset a1 a3 x_6) (wrap .i64 (iadd a3 1))) (fun x_9 => obind (lget a1 a3) (fun x_10 => obind (lget x.1.1 x_10) (fun x_11 => obind (lget a1 (wrap .i64 (iadd a3 1))) (fun x_12 => obind (lget x.1.1 x_12) (fun x_13 => cnd (ile 0 x_11.to) (cnd (ilt x_11.to x_13.frm) (obind (kI ((wOf x.2.1)) x.1.1 (lset (lset a1 a3 x_6) (wrap .i64 (iadd a3 1)) x_8)) (fun x_14 => cnd x_14 (some (.inl ((false, ()), ()))) (rec ((x.1.1, (a1, (a2, (wrap .i64 (iadd a3 1), ())))), (x.2.1, ()))))) (rec ((x.1.1, (a1, (a2, (wrap .i64 (iadd a3 1), ())))), (x.2.1, ())))) (rec ((x.1.1, (a1, (a2, (wrap .i64 (iadd a3 1), ())))), (x.2.1, ()))))))))) (none)) (none)))) (none)) (none))) (none)) (some (.inr ((x.1.1, (a1, ())), (x.2.1, ()))))
noncomputable def linearTurned.lr7 : Alt := ⟨linearTurned.lr7.sp, linearTurned.lr7.es, 100, linearTurned.lr7.T⟩
noncomputable def linearTurned.H : Hints := ⟨[(4, [(7, [linearTurned.lr7])])], []⟩
end Go.Sx
