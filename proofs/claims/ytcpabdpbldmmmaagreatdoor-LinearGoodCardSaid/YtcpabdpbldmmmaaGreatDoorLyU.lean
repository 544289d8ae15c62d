/-
  the laws of orders, walked (printed by wip/dev/gen2.py)
-/
import Derived.Test.YtcpabdpbldmmmaaGreatDoorLyF
import Derived.Test.YtcpabdpbldmmmaaGreatDoorProg
import Derived.KernelRfl
set_option linter.unusedVariables false
set_option linter.unusedSimpArgs false
namespace Go.Sx
open Go Go.Proofs
def tyLU : List (Nat × TyI) :=
 [(3, ⟨false, 1, 8, [.I 0], some .I, .I⟩),
  (4, ⟨false, 1, 1, [.bool false], some .bool, .bool⟩),
  (5, ⟨false, 1, 1, [.int .u8 0], some (.int .u8), .int .u8⟩),
  (22, ⟨false, 1, 24, [.nilsl], some (.sl (.st .exits)), .sl 104⟩),
  (23, ⟨false, 1, 24, [.nilsl], some (.sl .I), .sl 3⟩),
  (24, ⟨false, 1, 24, [.nilsl], some (.sl .bool), .sl 4⟩),
  (26, ⟨true, 8, 144, [.nilsl, .nilsl, .nilsl, .nilsl, .nilsl, .I 0, .I 0, .I 0], some (.st .desc), .st [(0, 22), (1, 23), (2, 23), (3, 23), (4, 24), (5, 3), (6, 3), (7, 3)]⟩),
  (27, ⟨false, 1, 24, [.nilsl], some (.sl (.st .place)), .sl 65⟩),
  (29, ⟨true, 11, 216, [.nilsl, .nilsl, .nilsl, .nilsl, .nilsl, .I 0, .I 0, .I 0, .nilsl, .nilsl, .nilsl], some (.st .world), .st [(0, 26), (8, 23), (9, 23), (10, 27)]⟩),
  (30, ⟨false, 1, 24, [.nilsl], some (.sl (.st .call)), .sl 43⟩),
  (37, ⟨true, 9, 104, [.I 0, .I 0, .I 0, .I 0, .I 0, .nilsl, .I 0, .nilsl, .I 0], some (.st .cmd), .st [(0, 3), (1, 3), (2, 3), (3, 3), (4, 3), (5, 23), (6, 3), (7, 23), (8, 3)]⟩),
  (38, ⟨false, 1, 8, [.I 0], some .I, .I⟩),
  (39, ⟨false, 1, 24, [.nilsl], some (.sl (.st .seen)), .sl 77⟩),
  (41, ⟨true, 6, 80, [.I 0, .I 0, .I 0, .nilsl, .nilsl, .I 0], some (.st .reply), .st [(0, 38), (1, 3), (2, 3), (3, 23), (4, 39), (5, 3)]⟩),
  (43, ⟨true, 18, 208, [.I 0, .I 0, .I 0, .I 0, .I 0, .I 0, .nilsl, .I 0, .nilsl, .I 0, .I 0, .I 0, .I 0, .I 0, .I 0, .nilsl, .nilsl, .I 0], some (.st .call), .st [(0, 3), (1, 37), (10, 3), (11, 3), (12, 41)]⟩),
  (65, ⟨true, 2, 16, [.I 0, .I 0], some (.st .place), .st [(0, 3), (1, 3)]⟩),
  (77, ⟨true, 3, 24, [.I 0, .I 0, .I 0], some (.st .seen), .st [(0, 3), (1, 65)]⟩),
  (104, ⟨true, 4, 32, [.I 0, .I 0, .I 0, .I 0], some (.st .exits), .arr 4 3⟩)]
theorem BW : (tyLU.all fun p => Zr Tryz.prog p.1 p.2) = true := by kernel_rfl
theorem qby : Tryz.prog.follows .mixedOrders = true := by kernel_rfl
theorem qlg : EqsOK Tryz.prog [] := .nil
theorem in3 : FnIn Tryz.prog 3 Tryz.f3 := .mk Tryz.func3 (by kernel_rfl) (by kernel_rfl)
theorem in6 : FnIn Tryz.prog 6 Tryz.f6 := .mk Tryz.func6 (by kernel_rfl) (by kernel_rfl)
theorem in7 : FnIn Tryz.prog 7 Tryz.f7 := .mk Tryz.func7 (by kernel_rfl) (by kernel_rfl)
noncomputable def Kj : Env := { ty := tyLU, ctr := [(14, qj [.st .desc] [.st .world] RL), (10, qj [.st .world, .sl (.st .call)] [.sl .I, .bool] zT), (13, qj [.sl .I, .sl .I] [.bool] kS), (8, qj [.st .world, .sl (.st .call), .sl .I] [.bool] zC)], inl := [], eqs := [], glob := GL, L := ql, get := [] }
noncomputable def nawake.H : Hints := ⟨[], []⟩
noncomputable def kT  : Option (Bool) := obind (RL (⟨[⟨0, 0, 0, 0⟩], ([0, 0] : List Int), ([5, 2] : List Int), ([0] : List Int), ([false] : List Bool), 4, 2, 1⟩)) (fun x => obind (zT (x) ([⟨0, ⟨3, 0, 0, 0, 0, ([] : List Int), 0, ([] : List Int), 0⟩, 0, 5, ⟨0, 3, 0, ([] : List Int), [], 0⟩⟩, ⟨1, ⟨3, 0, 0, 0, 0, ([] : List Int), 0, ([] : List Int), 0⟩, 1, 4, ⟨0, 3, 0, ([] : List Int), [], 0⟩⟩])) (fun x_1 => obind (zT (x) ([⟨0, ⟨3, 0, 0, 0, 0, ([] : List Int), 0, ([] : List Int), 0⟩, 0, 5, ⟨5, 0, 0, ([] : List Int), [], 0⟩⟩, ⟨1, ⟨3, 0, 0, 0, 0, ([] : List Int), 0, ([] : List Int), 0⟩, 1, 4, ⟨0, 3, 0, ([] : List Int), [], 0⟩⟩])) (fun x_2 => obind (zT (x) ([⟨0, ⟨3, 0, 0, 0, 0, ([] : List Int), 0, ([] : List Int), 0⟩, 0, 1, ⟨5, 0, 0, ([] : List Int), [], 0⟩⟩, ⟨1, ⟨3, 0, 0, 0, 0, ([] : List Int), 0, ([] : List Int), 0⟩, 2, 4, ⟨0, 3, 0, ([] : List Int), [], 0⟩⟩])) (fun x_3 => cnd (bnot x_1.2) (cnd x_2.2 (obind (kS x_2.1 (([1, 0] : List Int))) (fun x_4 => cnd x_4 (cnd (bnot x_3.2) (obind (zC (x) ([⟨0, ⟨3, 0, 0, 0, 0, ([] : List Int), 0, ([] : List Int), 0⟩, 0, 5, ⟨5, 0, 0, ([] : List Int), [], 0⟩⟩, ⟨1, ⟨3, 0, 0, 0, 0, ([] : List Int), 0, ([] : List Int), 0⟩, 1, 4, ⟨0, 3, 0, ([] : List Int), [], 0⟩⟩]) (([1, 0] : List Int))) (fun x_5 => cnd x_5 (obind (zC (x) ([⟨0, ⟨3, 0, 0, 0, 0, ([] : List Int), 0, ([] : List Int), 0⟩, 0, 5, ⟨5, 0, 0, ([] : List Int), [], 0⟩⟩, ⟨1, ⟨3, 0, 0, 0, 0, ([] : List Int), 0, ([] : List Int), 0⟩, 1, 4, ⟨0, 3, 0, ([] : List Int), [], 0⟩⟩]) (([0, 1] : List Int))) (fun x_6 => cnd (bnot x_6) (obind (zC (x) ([⟨0, ⟨3, 0, 0, 0, 0, ([] : List Int), 0, ([] : List Int), 0⟩, 0, 1, ⟨5, 0, 0, ([] : List Int), [], 0⟩⟩, ⟨1, ⟨3, 0, 0, 0, 0, ([] : List Int), 0, ([] : List Int), 0⟩, 2, 4, ⟨0, 3, 0, ([] : List Int), [], 0⟩⟩]) (([1, 0] : List Int))) (fun x_7 => cnd (bnot x_7) (obind (zC (x) [] (([] : List Int))) (fun x_8 => cnd x_8 (obind (zC (x) ([⟨0, ⟨3, 0, 0, 0, 0, ([] : List Int), 0, ([] : List Int), 0⟩, 0, 5, ⟨5, 0, 0, ([] : List Int), [], 0⟩⟩, ⟨1, ⟨3, 0, 0, 0, 0, ([] : List Int), 0, ([] : List Int), 0⟩, 1, 4, ⟨0, 3, 0, ([] : List Int), [], 0⟩⟩]) (([1] : List Int))) (fun x_9 => some (bnot x_9))) (some false))) (some false))) (some false))) (some false))) (some false)) (some false))) (some false)) (some false)))))
theorem qbu : InlsOK Tryz.prog Kj nawake.H Kj.inl := .nil
theorem Ny  : qw Kj nawake.H 6 Tryz.f6 [] (asR [.bool]) = kT  := by kernel_rfl
theorem qbv : FnOK Tryz.prog 6 ∧ CtrOK Tryz.prog GL 6 (qj [] [.bool] kT) :=
 qu (E := Kj) BW (.cons qjb (.cons Bs (.cons Ug (.cons Bq .nil)))) qbu qlg qby in6 (fun c _ => qi rfl c) (fun _ => Ny )
noncomputable def J9 : Env := { ty := tyLU, ctr := [(15, qj [.st .world] [.bool] K9), (16, qj [.st .world] [.bool] gX), (17, qj [.st .cmd] [.bool] KC)], inl := [], eqs := [], glob := GL, L := ql, get := [] }
noncomputable def nfits.lr4.sp : SPat := ⟨54, [1, 3, 7], [.sl (.st .call), .ptr 0 0, .I], [wBP], [], 0⟩
noncomputable def nfits.lr4.es : List (Ex × SPat) := [(.ret, ⟨54, [6], [.bool], [], [], 0⟩), (.exit 0, ⟨54, [], [], [], [], 0⟩)]
abbrev nfits.lr4.X : Type := (((List Sx.Call) × (Int × Unit)) × (WTy × Unit))
abbrev nfits.lr4.O : Type := (((Bool × Unit) × Unit) ⊕ (Unit × Unit))
noncomputable def nfits.lr4.T : (nfits.lr4.X → Option nfits.lr4.O) → nfits.lr4.X → Option nfits.lr4.O := fun rec x =>
 let a1 := x.1.2.1; cnd (ilt a1 (qh x.1.1)) (obind (lget x.1.1 a1) (fun x_2 => cnd (ilt x_2.player 0) (some (.inl ((false, ()), ()))) (obind (lget x.1.1 a1) (fun x_3 => cnd (ile (qh x.2.1.2.2.2.2.2.2.2.2.1) x_3.player) (some (.inl ((false, ()), ()))) (obind (lget x.1.1 a1) (fun x_4 => obind (KC (x_4.cmd)) (fun x_5 => cnd (bnot x_5) (some (.inl ((false, ()), ()))) (rec ((x.1.1, (wrap .i64 (iadd a1 1), ())), (x.2.1, ())))))))))) (some (.inr ((), ())))
noncomputable def nfits.lr4 : Alt := ⟨nfits.lr4.sp, nfits.lr4.es, 100, nfits.lr4.T⟩
noncomputable def nfits.H : Hints := ⟨[(7, [(4, [nfits.lr4])])], []⟩
noncomputable def KI (w : Sx.World) (l : List Sx.Call) (m : Int) : Option (Bool) := obind (K9 (w)) (fun x => cnd (bnot x) (some false) (obind (gX (w)) (fun x_1 => cnd (bnot x_1) (some false) (cnd (ilt m (qh l)) (some false) (obind (qr nfits.lr4.T ql (((l, (0, ())), ((wTo w), ())))) (fun x_2 => scase x_2 (fun x_3 => some x_3.1.1) (fun x_3 => some true)))))))
theorem qbt : Alt.Round J9 nfits.H 7 (qE nfits.H 7 Tryz.f7 0) nfits.lr4 := by intro rec x; kernel_rfl
theorem Nx : ∀ c, Tryz.f7.body = some c → ToldC J9 nfits.H 7 c := qH [nfits.lr4] (by kernel_rfl) (fun i hi => match i, hi with | 0, _ => qbt | n + 1, h => absurd h (by simp))
theorem qgx : InlsOK Tryz.prog J9 nfits.H J9.inl := .nil
theorem qbs (w : Sx.World) (l : List Sx.Call) (m : Int) : qw J9 nfits.H 7 Tryz.f7 [.agg (SN.cells .world w), .sl (.st .call) l, .I m] (asR [.bool]) = KI w l m := by kernel_rfl
theorem qgy : FnOK Tryz.prog 7 ∧ CtrOK Tryz.prog GL 7 (qj [.st .world, .sl (.st .call), .I] [.bool] KI) :=
 qu (E := J9) BW (.cons qga (.cons qae (.cons qgq .nil))) qgx qlg qby in7 Nx (fun xs => qbs xs.1 xs.2.1 xs.2.2.1)
noncomputable def kY : Env := { ty := tyLU, ctr := [(6, qj [] [.bool] kT), (7, qj [.st .world, .sl (.st .call), .I] [.bool] KI), (8, qj [.st .world, .sl (.st .call), .sl .I] [.bool] zC), (9, qj [.st .world, .sl (.st .call), .sl .I] [.bool] jN), (10, qj [.st .world, .sl (.st .call)] [.sl .I, .bool] zT), (11, qj [.st .world, .sl (.st .call), .sl .I] [.bool] Z5)], inl := [], eqs := [], glob := GL, L := ql, get := [] }
noncomputable def linearGood.H : Hints := ⟨[], []⟩
noncomputable def z0 (w : Sx.World) (l : List Sx.Call) (o : List Int) : Option (Bool) := obind kT (fun x => cnd (bnot x) (obind kT (fun x_1 => some x_1)) (obind (KI (w) l 20) (fun x_1 => cnd (bnot x_1) (obind kT (fun x_2 => some x_2)) (cnd (ilt 30 (qh o)) (obind kT (fun x_2 => some x_2)) (obind (zC (w) l o) (fun x_2 => obind (jN (w) l o) (fun x_3 => cnd (bnot (beq' x_2 x_3)) (some false) (cnd (ilt 5 (qh l)) (some true) (obind (zT (w) l) (fun x_4 => obind (Z5 (w) l (([] : List Int))) (fun x_5 => cnd (beq' x_4.2 x_5) (cnd (bnot x_4.2) (cnd (ieq (qh x_4.1) 0) (some true) (cnd x_4.2 (obind (jN (w) l x_4.1) (fun x_6 => some x_6)) (some false))) (cnd x_4.2 (obind (jN (w) l x_4.1) (fun x_6 => some x_6)) (some false))) (some false))))))))))))
theorem Ut : InlsOK Tryz.prog kY linearGood.H kY.inl := .nil
theorem VK (w : Sx.World) (l : List Sx.Call) (o : List Int) : qw kY linearGood.H 3 Tryz.f3 [.agg (SN.cells .world w), .sl (.st .call) l, .sl .I o] (asR [.bool]) = z0 w l o := by kernel_rfl
theorem linearGood_law (htrue : ∀ xs : Lf [.st .world, .sl (.st .call), .sl .I], (∀ m, wfA m _ xs) → z0 xs.1 xs.2.1 xs.2.2.1 = some true) : ∀ xs : Lf [.st .world, .sl (.st .call), .sl .I], (∀ m, wfA m _ xs) → CallsTo Tryz.prog GL 3 (cellsL [.st .world, .sl (.st .call), .sl .I] xs) (.bool true) :=
 fun xs hx => law_to (E := kY) (ks := [.st .world, .sl (.st .call), .sl .I]) BW (.cons qbv (.cons qgy (.cons Bq (.cons K6 (.cons Bs (.cons qjr .nil)))))) Ut qlg qby in3 (fun c _ => qi rfl c) (F := z0) (fun xs => VK xs.1 xs.2.1 xs.2.2.1) htrue xs hx
noncomputable def linearTurned.lr7.sp : SPat := ⟨124, [1, 2, 3, 7, 8], [.sl (.st .call), .sl .I, .ptr 0 0, .I, .I], [wBP], [], 0⟩
noncomputable def linearTurned.lr7.es : List (Ex × SPat) := [(.ret, ⟨124, [6], [.bool], [], [], 0⟩), (.exit 0, ⟨124, [1, 2, 3], [.sl (.st .call), .sl .I, .ptr 0 0], [wBP], [], 0⟩)]
abbrev linearTurned.lr7.X : Type := (((List Sx.Call) × ((List Int) × (Int × (Int × Unit)))) × (WTy × Unit))
abbrev linearTurned.lr7.O : Type := (((Bool × Unit) × Unit) ⊕ (((List Sx.Call) × ((List Int) × Unit)) × (WTy × Unit)))
noncomputable def linearTurned.lr7.T : (linearTurned.lr7.X → Option linearTurned.lr7.O) → linearTurned.lr7.X → Option linearTurned.lr7.O := fun rec x =>
 let a1 := x.1.2.1; let a2 := x.1.2.2.1; let a3 := x.1.2.2.2.1; cnd (ilt a3 a2) (cnd (ilt (imul (iadd 0 (qh a1)) 8) 140737488355329) (obind (lget a1 (wrap .i64 (iadd a3 1))) (fun x_6 => cnd (ile 0 a3) (cnd (ilt a3 (qh a1)) (obind (lget a1 a3) (fun x_7 => obind (lget a1 a3) (fun x_8 => cnd (ile 0 (wrap .i64 (iadd a3 1))) (cnd (ilt (wrap .i64 (iadd a3 1)) (qh (lset a1 a3 x_6))) (obind (lget (lset a1 a3 x_6) (wrap .i64 (iadd a3 1))) (fun x_9 => obind (lget a1 a3) (fun x_10 => obind (lget x.1.1 x_10) (fun x_11 => obind (lget a1 (wrap .i64 (iadd a3 1))) (fun x_12 => obind (lget x.1.1 x_12) (fun x_13 => cnd (ile 0 x_11.to) (cnd (ilt x_11.to x_13.frm) (obind (zC ((wOf x.2.1)) x.1.1 (lset (lset a1 a3 x_6) (wrap .i64 (iadd a3 1)) x_8)) (fun x_14 => cnd x_14 (some (.inl ((false, ()), ()))) (rec ((x.1.1, (a1, (a2, (wrap .i64 (iadd a3 1), ())))), (x.2.1, ()))))) (rec ((x.1.1, (a1, (a2, (wrap .i64 (iadd a3 1), ())))), (x.2.1, ())))) (rec ((x.1.1, (a1, (a2, (wrap .i64 (iadd a3 1), ())))), (x.2.1, ()))))))))) (none)) (none)))) (none)) (none))) (none)) (some (.inr ((x.1.1, (a1, ())), (x.2.1, ()))))
noncomputable def linearTurned.lr7 : Alt := ⟨linearTurned.lr7.sp, linearTurned.lr7.es, 100, linearTurned.lr7.T⟩
noncomputable def linearTurned.H : Hints := ⟨[(4, [(7, [linearTurned.lr7])])], []⟩
noncomputable def linearApart.lr7.sp : SPat := ⟨102, [1, 2, 3, 7, 8, 9, 10], [.sl (.st .call), .int .u8, .ptr 0 0, .ptr 1 0, .vec 2, .vec 3, .I], [wBP, wBP, .vec .I, .vec (.st .call)], [], 0⟩
noncomputable def linearApart.lr7.es : List (Ex × SPat) := [(.exit 0, ⟨102, [2, 3, 8, 9], [.int .u8, .ptr 0 0, .vec 2, .vec 3], [wBP, .dead, .vec .I, .vec (.st .call)], [], 0⟩)]
abbrev linearApart.lr7.X : Type := (((List Sx.Call) × (Int × (Int × Unit))) × (WTy × (WTy × ((List Int) × ((List Sx.Call) × Unit)))))
abbrev linearApart.lr7.O : Type := ((Int × Unit) × (WTy × ((List Int) × ((List Sx.Call) × Unit))))
noncomputable def linearApart.lr7.T : (linearApart.lr7.X → Option linearApart.lr7.O) → linearApart.lr7.X → Option linearApart.lr7.O := fun rec x =>
 let a1 := x.1.2.1; let a2 := x.1.2.2.1; let a3 := x.2.2.2.1; let a4 := x.2.2.2.2.1; cnd (ilt a2 (qh x.1.1)) (obind (lget x.1.1 a2) (fun x_2 => obind (Q0 ((wOf x.2.2.1)) x_2.player (x_2.cmd)) (fun x_3 => cnd (ilt (imul (iadd (qh a4) 1) 208) 140737488355329) (cnd (ilt (imul (iadd (qh a3) 1) 8) 140737488355329) (rec ((x.1.1, (a1, (wrap .i64 (iadd a2 1), ()))), (x.2.1, ((wTo x_3.1), (lapp a3 (([a2] : List Int)), (lapp a4 ([⟨x_2.player, x_2.cmd, wrap .i64 (imul 2 a2), wrap .i64 (iadd (wrap .i64 (imul 2 a2)) 1), x_3.2⟩]), ())))))) (none)) (none)))) (some ((a1, ()), (x.2.1, (a3, (a4, ())))))
noncomputable def linearApart.lr7 : Alt := ⟨linearApart.lr7.sp, linearApart.lr7.es, 100, linearApart.lr7.T⟩
noncomputable def linearApart.H : Hints := ⟨[(5, [(7, [linearApart.lr7])])], []⟩
end Go.Sx
