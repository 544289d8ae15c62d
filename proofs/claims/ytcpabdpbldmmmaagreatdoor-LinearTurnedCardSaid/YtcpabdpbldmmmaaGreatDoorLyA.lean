/-
  worlds of the document, walked (printed by wip/dev/gen2.py)
-/
import Derived.Test.YtcpabdpbldmmmaaGreatDoorLyM
import Derived.Test.YtcpabdpbldmmmaaGreatDoorProg
import Derived.KernelRfl
set_option linter.unusedVariables false
set_option linter.unusedSimpArgs false
namespace Go.Sx
open Go Go.Proofs
def zv : List (Nat × TyI) :=
 [(3, ⟨false, 1, 8, [.I 0], some .I, .I⟩),
  (4, ⟨false, 1, 1, [.bool false], some .bool, .bool⟩),
  (22, ⟨false, 1, 24, [.nilsl], some (.sl (.st .exits)), .sl 104⟩),
  (23, ⟨false, 1, 24, [.nilsl], some (.sl .I), .sl 3⟩),
  (24, ⟨false, 1, 24, [.nilsl], some (.sl .bool), .sl 4⟩),
  (26, ⟨true, 8, 144, [.nilsl, .nilsl, .nilsl, .nilsl, .nilsl, .I 0, .I 0, .I 0], some (.st .desc), .st [(0, 22), (1, 23), (2, 23), (3, 23), (4, 24), (5, 3), (6, 3), (7, 3)]⟩),
  (27, ⟨false, 1, 24, [.nilsl], some (.sl (.st .place)), .sl 65⟩),
  (29, ⟨true, 11, 216, [.nilsl, .nilsl, .nilsl, .nilsl, .nilsl, .I 0, .I 0, .I 0, .nilsl, .nilsl, .nilsl], some (.st .world), .st [(0, 26), (8, 23), (9, 23), (10, 27)]⟩),
  (37, ⟨true, 9, 104, [.I 0, .I 0, .I 0, .I 0, .I 0, .nilsl, .I 0, .nilsl, .I 0], some (.st .cmd), .st [(0, 3), (1, 3), (2, 3), (3, 3), (4, 3), (5, 23), (6, 3), (7, 23), (8, 3)]⟩),
  (38, ⟨false, 1, 8, [.I 0], some .I, .I⟩),
  (39, ⟨false, 1, 24, [.nilsl], some (.sl (.st .seen)), .sl 77⟩),
  (41, ⟨true, 6, 80, [.I 0, .I 0, .I 0, .nilsl, .nilsl, .I 0], some (.st .reply), .st [(0, 38), (1, 3), (2, 3), (3, 23), (4, 39), (5, 3)]⟩),
  (65, ⟨true, 2, 16, [.I 0, .I 0], some (.st .place), .st [(0, 3), (1, 3)]⟩),
  (77, ⟨true, 3, 24, [.I 0, .I 0, .I 0], some (.st .seen), .st [(0, 3), (1, 65)]⟩),
  (104, ⟨true, 4, 32, [.I 0, .I 0, .I 0, .I 0], some (.st .exits), .arr 4 3⟩)]
theorem qM : (zv.all fun p => Zo Tryz.prog p.1 p.2) = true := by kernel_rfl
theorem ja : Tryz.prog.follows .mixedOrders = true := by kernel_rfl
theorem j0 : EqsOK Tryz.prog [(65, [.I, .I])] := .cons (vd (P := Tryz.prog) (t := 65) (ks := [.I, .I]) (by kernel_rfl) (by kernel_rfl) (by kernel_rfl)) .nil
theorem in14 : FnIn Tryz.prog 14 Tryz.f14 := .mk Tryz.func14 (by kernel_rfl) (by kernel_rfl)
theorem in15 : FnIn Tryz.prog 15 Tryz.f15 := .mk Tryz.func15 (by kernel_rfl) (by kernel_rfl)
theorem in16 : FnIn Tryz.prog 16 Tryz.f16 := .mk Tryz.func16 (by kernel_rfl) (by kernel_rfl)
theorem in22 : FnIn Tryz.prog 22 Tryz.f22 := .mk Tryz.func22 (by kernel_rfl) (by kernel_rfl)
theorem in31 : FnIn Tryz.prog 31 Tryz.f31 := .mk Tryz.func31 (by kernel_rfl) (by kernel_rfl)
theorem in32 : FnIn Tryz.prog 32 Tryz.f32 := .mk Tryz.func32 (by kernel_rfl) (by kernel_rfl)
theorem in33 : FnIn Tryz.prog 33 Tryz.f33 := .mk Tryz.func33 (by kernel_rfl) (by kernel_rfl)
theorem in34 : FnIn Tryz.prog 34 Tryz.f34 := .mk Tryz.func34 (by kernel_rfl) (by kernel_rfl)
theorem in35 : FnIn Tryz.prog 35 Tryz.f35 := .mk Tryz.func35 (by kernel_rfl) (by kernel_rfl)
theorem in36 : FnIn Tryz.prog 36 Tryz.f36 := .mk Tryz.func36 (by kernel_rfl) (by kernel_rfl)
theorem in42 : FnIn Tryz.prog 42 Tryz.f42 := .mk Tryz.func42 (by kernel_rfl) (by kernel_rfl)
theorem in43 : FnIn Tryz.prog 43 Tryz.f43 := .mk Tryz.func43 (by kernel_rfl) (by kernel_rfl)
theorem in44 : FnIn Tryz.prog 44 Tryz.f44 := .mk Tryz.func44 (by kernel_rfl) (by kernel_rfl)
theorem in45 : FnIn Tryz.prog 45 Tryz.f45 := .mk Tryz.func45 (by kernel_rfl) (by kernel_rfl)
theorem in46 : FnIn Tryz.prog 46 Tryz.f46 := .mk Tryz.func46 (by kernel_rfl) (by kernel_rfl)
theorem in47 : FnIn Tryz.prog 47 Tryz.f47 := .mk Tryz.func47 (by kernel_rfl) (by kernel_rfl)
theorem in48 : FnIn Tryz.prog 48 Tryz.f48 := .mk Tryz.func48 (by kernel_rfl) (by kernel_rfl)
theorem in49 : FnIn Tryz.prog 49 Tryz.f49 := .mk Tryz.func49 (by kernel_rfl) (by kernel_rfl)
theorem in50 : FnIn Tryz.prog 50 Tryz.f50 := .mk Tryz.func50 (by kernel_rfl) (by kernel_rfl)
theorem in51 : FnIn Tryz.prog 51 Tryz.f51 := .mk Tryz.func51 (by kernel_rfl) (by kernel_rfl)
theorem in83 : FnIn Tryz.prog 83 Tryz.f83 := .mk Tryz.func83 (by kernel_rfl) (by kernel_rfl)
theorem in84 : FnIn Tryz.prog 84 Tryz.f84 := .mk Tryz.func84 (by kernel_rfl) (by kernel_rfl)
theorem in85 : FnIn Tryz.prog 85 Tryz.f85 := .mk Tryz.func85 (by kernel_rfl) (by kernel_rfl)
theorem in86 : FnIn Tryz.prog 86 Tryz.f86 := .mk Tryz.func86 (by kernel_rfl) (by kernel_rfl)
theorem in87 : FnIn Tryz.prog 87 Tryz.f87 := .mk Tryz.func87 (by kernel_rfl) (by kernel_rfl)
theorem in88 : FnIn Tryz.prog 88 Tryz.f88 := .mk Tryz.func88 (by kernel_rfl) (by kernel_rfl)
theorem in89 : FnIn Tryz.prog 89 Tryz.f89 := .mk Tryz.func89 (by kernel_rfl) (by kernel_rfl)
theorem in90 : FnIn Tryz.prog 90 Tryz.f90 := .mk Tryz.func90 (by kernel_rfl) (by kernel_rfl)
theorem in91 : FnIn Tryz.prog 91 Tryz.f91 := .mk Tryz.func91 (by kernel_rfl) (by kernel_rfl)
theorem in92 : FnIn Tryz.prog 92 Tryz.f92 := .mk Tryz.func92 (by kernel_rfl) (by kernel_rfl)
theorem in136 : FnIn Tryz.prog 136 Tryz.f136 := .mk Tryz.func136 (by kernel_rfl) (by kernel_rfl)
noncomputable def qev : Env := { ty := zv, ctr := [], inl := [], eqs := [(65, [.I, .I])], glob := GL, L := ql, get := [] }
noncomputable def ris.H : Hints := ⟨[], []⟩
noncomputable def Uc (n : Int) : Option (Bool) := cnd (ile 0 n) (some (ile n 1073741824)) (some false)
theorem ris_inl : InlsOK Tryz.prog qev ris.H qev.inl := .nil
theorem qjh (n : Int) : qx qev ris.H 33 Tryz.f33 [.I n] (asR [.bool]) = Uc n := by kernel_rfl
theorem Dw : FnOK Tryz.prog 33 ∧ CtrOK Tryz.prog GL 33 (qj [.I] [.bool] Uc) :=
 qv (E := qev) qM (.nil) ris_inl j0 ja in33 (fun c _ => qi rfl c) (fun xs => qjh xs.1)
noncomputable def Gf : Env := { ty := zv, ctr := [(33, qj [.I] [.bool] Uc)], inl := [], eqs := [(65, [.I, .I])], glob := GL, L := ql, get := [] }
noncomputable def rswap.H : Hints := ⟨[], []⟩
noncomputable def JW (a : Int) (b : Int) (p : Int) (f : Int) : Option (Int × Int × Int) := cnd (ilt p 0) (some ((a, (b, 1)))) (cnd (ilt f 0) (some ((a, (b, 1)))) (cnd (ilt a p) (some ((a, (b, 10)))) (cnd (ilt b f) (some ((a, (b, 10)))) (obind (Uc (wrap .i64 (isub (wrap .i64 (iadd a f)) p))) (fun x => cnd (bnot x) (some ((a, (b, 11)))) (obind (Uc (wrap .i64 (isub (wrap .i64 (iadd b p)) f))) (fun x_1 => cnd (bnot x_1) (some ((a, (b, 11)))) (some ((wrap .i64 (isub (wrap .i64 (iadd a f)) p), (wrap .i64 (isub (wrap .i64 (iadd b p)) f), 0)))))))))))
theorem qfl : InlsOK Tryz.prog Gf rswap.H Gf.inl := .nil
theorem qaa (a : Int) (b : Int) (p : Int) (f : Int) : qx Gf rswap.H 90 Tryz.f90 [.I a, .I b, .I p, .I f] (asR [.I, .I, .I]) = JW a b p f := by kernel_rfl
theorem qfm : FnOK Tryz.prog 90 ∧ CtrOK Tryz.prog GL 90 (qj [.I, .I, .I, .I] [.I, .I, .I] JW) :=
 qv (E := Gf) qM (.cons Dw .nil) qfl j0 ja in90 (fun c _ => qi rfl c) (fun xs => qaa xs.1 xs.2.1 xs.2.2.1 xs.2.2.2.1)
noncomputable def qew : Env := { ty := zv, ctr := [], inl := [], eqs := [(65, [.I, .I])], glob := GL, L := ql, get := [] }
noncomputable def rin.H : Hints := ⟨[], []⟩
noncomputable def gm (n : Int) (m : Int) : Option (Bool) := cnd (ile 0 n) (some (ilt n m)) (some false)
theorem rin_inl : InlsOK Tryz.prog qew rin.H qew.inl := .nil
theorem qji (n : Int) (m : Int) : qx qew rin.H 32 Tryz.f32 [.I n, .I m] (asR [.bool]) = gm n m := by kernel_rfl
theorem qds : FnOK Tryz.prog 32 ∧ CtrOK Tryz.prog GL 32 (qj [.I, .I] [.bool] gm) :=
 qv (E := qew) qM (.nil) rin_inl j0 ja in32 (fun c _ => qi rfl c) (fun xs => qji xs.1 xs.2.1)
noncomputable def ko : Env := { ty := zv, ctr := [(32, qj [.I, .I] [.bool] gm), (33, qj [.I] [.bool] Uc)], inl := [], eqs := [(65, [.I, .I])], glob := GL, L := ql, get := [] }
noncomputable def rdmay.lr10.sp : SPat := ⟨159, [1, 3, 4, 5], [.ptr 0 0, .I, .I, .I], [.cells [.sl (.st .exits), .sl .I, .sl .I, .sl .I, .sl .bool, .I, .I, .I]], [], 0⟩
noncomputable def rdmay.lr10.es : List (Ex × SPat) := [(.ret, ⟨159, [2], [.bool], [], [], 0⟩), (.exit 2, ⟨159, [1, 3, 4], [.ptr 0 0, .I, .I], [.cells [.sl (.st .exits), .sl .I, .sl .I, .sl .I, .sl .bool, .I, .I, .I]], [], 0⟩)]
abbrev rdmay.lr10.X : Type := ((Int × (Int × (Int × Unit))) × (((List Sx.Exits) × ((List Int) × ((List Int) × ((List Int) × ((List Bool) × (Int × (Int × (Int × Unit)))))))) × Unit))
abbrev rdmay.lr10.O : Type := (((Bool × Unit) × Unit) ⊕ ((Int × (Int × Unit)) × (((List Sx.Exits) × ((List Int) × ((List Int) × ((List Int) × ((List Bool) × (Int × (Int × (Int × Unit)))))))) × Unit)))
noncomputable def rdmay.lr10.T : (rdmay.lr10.X → Option rdmay.lr10.O) → rdmay.lr10.X → Option rdmay.lr10.O := fun rec x =>
 let a1 := x.1.2.1; let a2 := x.1.2.2.1; let a3 := x.2.1.1; cnd (ilt a2 4) (obind (lget a3 a1) (fun x_3 => cnd (ile 0 a2) (cnd (ilt a2 4) (cnd (bnot (ieq (jU (([x_3.e0, x_3.e1, x_3.e2, x_3.e3] : List Int)) a2) (-1))) (obind (lget a3 a1) (fun x_4 => cnd (ile 0 a2) (cnd (ilt a2 4) (obind (gm (jU (([x_4.e0, x_4.e1, x_4.e2, x_4.e3] : List Int)) a2) x.1.1) (fun x_5 => cnd (bnot x_5) (some (.inl ((false, ()), ()))) (rec ((x.1.1, (a1, (wrap .i64 (iadd a2 1), ()))), (x.2.1, ()))))) (none)) (none))) (rec ((x.1.1, (a1, (wrap .i64 (iadd a2 1), ()))), (x.2.1, ())))) (none)) (none))) (some (.inr ((x.1.1, (a1, ())), (x.2.1, ()))))
noncomputable def rdmay.lr10 : Alt := ⟨rdmay.lr10.sp, rdmay.lr10.es, 100, rdmay.lr10.T⟩
noncomputable def rdmay.lr16.sp : SPat := ⟨159, [1, 3, 4, 6, 7], [.ptr 0 0, .I, .I, .I, .I], [.cells [.sl (.st .exits), .sl .I, .sl .I, .sl .I, .sl .bool, .I, .I, .I]], [], 0⟩
noncomputable def rdmay.lr16.es : List (Ex × SPat) := [(.exit 4, ⟨159, [1, 3, 4, 6], [.ptr 0 0, .I, .I, .I], [.cells [.sl (.st .exits), .sl .I, .sl .I, .sl .I, .sl .bool, .I, .I, .I]], [], 0⟩)]
abbrev rdmay.lr16.X : Type := ((Int × (Int × (Int × (Int × Unit)))) × (((List Sx.Exits) × ((List Int) × ((List Int) × ((List Int) × ((List Bool) × (Int × (Int × (Int × Unit)))))))) × Unit))
abbrev rdmay.lr16.O : Type := ((Int × (Int × (Int × Unit))) × (((List Sx.Exits) × ((List Int) × ((List Int) × ((List Int) × ((List Bool) × (Int × (Int × (Int × Unit)))))))) × Unit))
noncomputable def rdmay.lr16.T : (rdmay.lr16.X → Option rdmay.lr16.O) → rdmay.lr16.X → Option rdmay.lr16.O := fun rec x =>
 let a1 := x.1.2.1; let a2 := x.1.2.2.1; let a3 := x.1.2.2.2.1; let a4 := x.2.1.2.2.2.1; cnd (ilt a3 (qh a4)) (obind (lget a4 a3) (fun x_5 => cnd (ieq x_5 a1) (rec ((x.1.1, (a1, (wrap .i64 (iadd a2 1), (wrap .i64 (iadd a3 1), ())))), (x.2.1, ()))) (rec ((x.1.1, (a1, (a2, (wrap .i64 (iadd a3 1), ())))), (x.2.1, ()))))) (some ((x.1.1, (a1, (a2, ()))), (x.2.1, ())))
noncomputable def rdmay.lr16 : Alt := ⟨rdmay.lr16.sp, rdmay.lr16.es, 100, rdmay.lr16.T⟩
noncomputable def rdmay.lr7.sp : SPat := ⟨159, [1, 3, 4], [.ptr 0 0, .I, .I], [.cells [.sl (.st .exits), .sl .I, .sl .I, .sl .I, .sl .bool, .I, .I, .I]], [], 0⟩
noncomputable def rdmay.lr7.es : List (Ex × SPat) := [(.ret, ⟨159, [2], [.bool], [], [], 0⟩), (.exit 0, ⟨159, [1, 3], [.ptr 0 0, .I], [.cells [.sl (.st .exits), .sl .I, .sl .I, .sl .I, .sl .bool, .I, .I, .I]], [], 0⟩)]
abbrev rdmay.lr7.X : Type := ((Int × (Int × Unit)) × (((List Sx.Exits) × ((List Int) × ((List Int) × ((List Int) × ((List Bool) × (Int × (Int × (Int × Unit)))))))) × Unit))
abbrev rdmay.lr7.O : Type := (((Bool × Unit) × Unit) ⊕ ((Int × Unit) × (((List Sx.Exits) × ((List Int) × ((List Int) × ((List Int) × ((List Bool) × (Int × (Int × (Int × Unit)))))))) × Unit)))
noncomputable def rdmay.lr7.T : (rdmay.lr7.X → Option rdmay.lr7.O) → rdmay.lr7.X → Option rdmay.lr7.O := fun rec x =>
 let a1 := x.1.2.1; cnd (ilt a1 x.1.1) (obind (qt rdmay.lr10.T ql (((x.1.1, (a1, (0, ()))), (x.2.1, ())))) (fun x_3 => scase (x_3) (fun x_4 => some (.inl ((x_4.1.1, ()), ()))) (fun x_4 => obind (qt rdmay.lr16.T ql (((x_4.1.1, (x_4.1.2.1, (0, (0, ())))), (x_4.2.1, ())))) (fun x_5 => cnd (ilt x_5.2.1.2.2.2.2.2.1 x_5.1.2.2.1) (some (.inl ((false, ()), ()))) (rec ((x_5.1.1, (wrap .i64 (iadd x_5.1.2.1 1), ())), (x_5.2.1, ()))))))) (some (.inr ((x.1.1, ()), (x.2.1, ()))))
noncomputable def rdmay.lr7 : Alt := ⟨rdmay.lr7.sp, rdmay.lr7.es, 200, rdmay.lr7.T⟩
noncomputable def rdmay.lr23.sp : SPat := ⟨159, [1, 3, 8], [.ptr 0 0, .I, .I], [.cells [.sl (.st .exits), .sl .I, .sl .I, .sl .I, .sl .bool, .I, .I, .I]], [], 0⟩
noncomputable def rdmay.lr23.es : List (Ex × SPat) := [(.ret, ⟨159, [2], [.bool], [], [], 0⟩), (.exit 6, ⟨159, [1, 3], [.ptr 0 0, .I], [.cells [.sl (.st .exits), .sl .I, .sl .I, .sl .I, .sl .bool, .I, .I, .I]], [], 0⟩)]
abbrev rdmay.lr23.X : Type := ((Int × (Int × Unit)) × (((List Sx.Exits) × ((List Int) × ((List Int) × ((List Int) × ((List Bool) × (Int × (Int × (Int × Unit)))))))) × Unit))
abbrev rdmay.lr23.O : Type := (((Bool × Unit) × Unit) ⊕ ((Int × Unit) × (((List Sx.Exits) × ((List Int) × ((List Int) × ((List Int) × ((List Bool) × (Int × (Int × (Int × Unit)))))))) × Unit)))
noncomputable def rdmay.lr23.T : (rdmay.lr23.X → Option rdmay.lr23.O) → rdmay.lr23.X → Option rdmay.lr23.O := fun rec x =>
 let a1 := x.1.2.1; let a2 := x.2.1.2.1; cnd (ilt a1 (qh a2)) (obind (lget a2 a1) (fun x_5 => obind (gm x_5 x.1.1) (fun x_6 => cnd (bnot x_6) (some (.inl ((false, ()), ()))) (obind (lget x.2.1.2.2.1 a1) (fun x_7 => obind (Uc x_7) (fun x_8 => cnd (bnot x_8) (some (.inl ((false, ()), ()))) (rec ((x.1.1, (wrap .i64 (iadd a1 1), ())), (x.2.1, ()))))))))) (some (.inr ((x.1.1, ()), (x.2.1, ()))))
noncomputable def rdmay.lr23 : Alt := ⟨rdmay.lr23.sp, rdmay.lr23.es, 100, rdmay.lr23.T⟩
noncomputable def rdmay.lr28.sp : SPat := ⟨159, [1, 3, 9], [.ptr 0 0, .I, .I], [.cells [.sl (.st .exits), .sl .I, .sl .I, .sl .I, .sl .bool, .I, .I, .I]], [], 0⟩
noncomputable def rdmay.lr28.es : List (Ex × SPat) := [(.ret, ⟨159, [2], [.bool], [], [], 0⟩), (.exit 8, ⟨159, [], [], [], [], 0⟩)]
abbrev rdmay.lr28.X : Type := ((Int × (Int × Unit)) × (((List Sx.Exits) × ((List Int) × ((List Int) × ((List Int) × ((List Bool) × (Int × (Int × (Int × Unit)))))))) × Unit))
abbrev rdmay.lr28.O : Type := (((Bool × Unit) × Unit) ⊕ (Unit × Unit))
noncomputable def rdmay.lr28.T : (rdmay.lr28.X → Option rdmay.lr28.O) → rdmay.lr28.X → Option rdmay.lr28.O := fun rec x =>
 let a1 := x.1.2.1; let a2 := x.2.1.2.2.2.1; cnd (ilt a1 (qh a2)) (obind (lget a2 a1) (fun x_7 => obind (gm x_7 x.1.1) (fun x_8 => cnd (bnot x_8) (some (.inl ((false, ()), ()))) (rec ((x.1.1, (wrap .i64 (iadd a1 1), ())), (x.2.1, ())))))) (some (.inr ((), ())))
noncomputable def rdmay.lr28 : Alt := ⟨rdmay.lr28.sp, rdmay.lr28.es, 100, rdmay.lr28.T⟩
noncomputable def rdmay.H : Hints := ⟨[(31, [(10, [rdmay.lr10]), (16, [rdmay.lr16]), (7, [rdmay.lr7]), (23, [rdmay.lr23]), (28, [rdmay.lr28])])], []⟩
noncomputable def KB (d : Desc) : Option (Bool) := cnd (ilt (qh d.exits) 1) (some false) (cnd (ilt 8 (qh d.exits)) (some false) (cnd (ilt (qh d.players) 1) (some false) (cnd (ilt 6 (qh d.players)) (some false) (cnd (bnot (ieq (qh d.coins) (qh d.players))) (some false) (cnd (ilt 16 (qh d.items)) (some false) (cnd (bnot (ieq (qh d.boxes) (qh d.items))) (some false) (obind (gm d.room 65) (fun x => cnd (bnot x) (some false) (obind (gm d.player 65) (fun x_1 => cnd (bnot x_1) (some false) (obind (gm d.box 65) (fun x_2 => cnd (bnot x_2) (some false) (obind (qt rdmay.lr7.T ql (((qh d.exits, (0, ())), ((dTo d), ())))) (fun x_3 => scase x_3 (fun x_4 => some x_4.1.1) (fun x_4 => obind (qt rdmay.lr23.T ql (((x_4.1.1, (0, ())), (x_4.2.1, ())))) (fun x_5 => scase x_5 (fun x_6 => some x_6.1.1) (fun x_6 => obind (qt rdmay.lr28.T ql (((x_6.1.1, (0, ())), (x_6.2.1, ())))) (fun x_7 => scase x_7 (fun x_8 => some x_8.1.1) (fun x_8 => some true)))))))))))))))))))
theorem Nb : Alt.Round ko rdmay.H 31 (qG rdmay.H 31 Tryz.f31 0) rdmay.lr7 := by intro rec x; kernel_rfl
theorem Na : Alt.Round ko rdmay.H 31 (qG rdmay.H 31 Tryz.f31 1) rdmay.lr10 := by intro rec x; kernel_rfl
theorem RZ : Alt.Round ko rdmay.H 31 (qG rdmay.H 31 Tryz.f31 2) rdmay.lr16 := by intro rec x; kernel_rfl
theorem RY : Alt.Round ko rdmay.H 31 (qG rdmay.H 31 Tryz.f31 3) rdmay.lr23 := by intro rec x; kernel_rfl
theorem RX : Alt.Round ko rdmay.H 31 (qG rdmay.H 31 Tryz.f31 4) rdmay.lr28 := by intro rec x; kernel_rfl
theorem Dz : ∀ c, Tryz.f31.body = some c → ToldC ko rdmay.H 31 c := qI [rdmay.lr7, rdmay.lr10, rdmay.lr16, rdmay.lr23, rdmay.lr28] (by kernel_rfl) (fun i hi => match i, hi with | 0, _ => Nb | 1, _ => Na | 2, _ => RZ | 3, _ => RY | 4, _ => RX | n + 5, h => absurd h (by simp))
theorem qgg : InlsOK Tryz.prog ko rdmay.H ko.inl := .nil
theorem qbc (d : Desc) : qx ko rdmay.H 31 Tryz.f31 [.agg (SN.cells .desc d)] (asR [.bool]) = KB d := by kernel_rfl
theorem qgh : FnOK Tryz.prog 31 ∧ CtrOK Tryz.prog GL 31 (qj [.st .desc] [.bool] KB) :=
 qv (E := ko) qM (.cons qds (.cons Dw .nil)) qgg j0 ja in31 Dz (fun xs => qbc xs.1)
noncomputable def Vf : Env := { ty := zv, ctr := [], inl := [], eqs := [(65, [.I, .I])], glob := GL, L := ql, get := [] }
noncomputable def rnew.lr5.sp : SPat := ⟨38, [1, 2, 3, 4], [.ptr 0 0, .ptr 1 0, .ptr 2 0, .I], [.cells [.sl (.st .exits), .sl .I, .sl .I, .sl .I, .sl .bool, .I, .I, .I], .cells [.nilsl, .nilsl, .nilsl, .nilsl, .nilsl, .I, .I, .I, .nilsl, .nilsl, .nilsl], .cells [.sl (.st .exits), .sl .I, .sl .I, .sl .I, .sl .bool, .I, .I, .I, .vec 3, .vec 4, .vec 5], .vec .I, .vec .I, .vec (.st .place)], [], 0⟩
noncomputable def rnew.lr5.es : List (Ex × SPat) := [(.exit 0, ⟨38, [2, 3], [.ptr 1 0, .ptr 2 0], [.dead, .cells [.nilsl, .nilsl, .nilsl, .nilsl, .nilsl, .I, .I, .I, .nilsl, .nilsl, .nilsl], .cells [.sl (.st .exits), .sl .I, .sl .I, .sl .I, .sl .bool, .I, .I, .I, .vec 3, .vec 4, .vec 5], .vec .I, .vec .I, .vec (.st .place)], [], 0⟩)]
abbrev rnew.lr5.X : Type := ((Int × Unit) × (((List Sx.Exits) × ((List Int) × ((List Int) × ((List Int) × ((List Bool) × (Int × (Int × (Int × Unit)))))))) × ((Int × (Int × (Int × Unit))) × (((List Sx.Exits) × ((List Int) × ((List Int) × ((List Int) × ((List Bool) × (Int × (Int × (Int × Unit)))))))) × ((List Int) × ((List Int) × ((List Sx.Place) × Unit)))))))
abbrev rnew.lr5.O : Type := (Unit × ((Int × (Int × (Int × Unit))) × (((List Sx.Exits) × ((List Int) × ((List Int) × ((List Int) × ((List Bool) × (Int × (Int × (Int × Unit)))))))) × ((List Int) × ((List Int) × ((List Sx.Place) × Unit))))))
noncomputable def rnew.lr5.T : (rnew.lr5.X → Option rnew.lr5.O) → rnew.lr5.X → Option rnew.lr5.O := fun rec x =>
 let a1 := x.2.1.2.2.2.1; let a2 := x.2.2.1.1; let a3 := x.2.2.1.2.1; let a4 := x.2.2.1.2.2.1; let a5 := x.2.2.2.1; let a6 := x.2.2.2.2.1; let a7 := x.2.2.2.2.2.1; let a8 := x.2.2.2.2.2.2.1; cnd (ilt x.1.1 (qh a1)) (obind (lget a1 x.1.1) (fun x_1 => cnd (ilt (imul (iadd (qh a8) 1) 16) 140737488355329) (rec ((wrap .i64 (iadd x.1.1 1), ()), (x.2.1, ((a2, (a3, (a4, ()))), (a5, (a6, (a7, (lapp a8 ([⟨0, x_1⟩]), ())))))))) (none))) (some ((), ((a2, (a3, (a4, ()))), (a5, (a6, (a7, (a8, ())))))))
noncomputable def rnew.lr5 : Alt := ⟨rnew.lr5.sp, rnew.lr5.es, 100, rnew.lr5.T⟩
noncomputable def rnew.H : Hints := ⟨[(14, [(5, [rnew.lr5])])], []⟩
noncomputable def RM (d : Desc) : Option (Sx.World) := cnd (ilt (imul (qh d.players) 8) 140737488355329) (cnd (ilt (imul (qh d.coins) 8) 140737488355329) (obind (qt rnew.lr5.T ql (((0, ()), ((dTo d), ((0, (0, (0, ()))), ((dTo d), (d.players, (d.coins, ([], ()))))))))) (fun x => some (⟨(dOf x.2.2.1), x.2.2.2.1, x.2.2.2.2.1, x.2.2.2.2.2.1⟩))) none) none
theorem qal : Alt.Round Vf rnew.H 14 (qG rnew.H 14 Tryz.f14 0) rnew.lr5 := by intro rec x; kernel_rfl
theorem RL : ∀ c, Tryz.f14.body = some c → ToldC Vf rnew.H 14 c := qI [rnew.lr5] (by kernel_rfl) (fun i hi => match i, hi with | 0, _ => qal | n + 1, h => absurd h (by simp))
theorem qje : InlsOK Tryz.prog Vf rnew.H Vf.inl := .nil
theorem qfw (d : Desc) : qx Vf rnew.H 14 Tryz.f14 [.agg (SN.cells .desc d)] (asR [.st .world]) = RM d := by kernel_rfl
theorem qjf : FnOK Tryz.prog 14 ∧ CtrOK Tryz.prog GL 14 (qj [.st .desc] [.st .world] RM) :=
 qv (E := Vf) qM (.nil) qje j0 ja in14 RL (fun xs => qfw xs.1)
noncomputable def Gs : Env := { ty := zv, ctr := [], inl := [], eqs := [(65, [.I, .I])], glob := GL, L := ql, get := [] }
noncomputable def rfew6.H : Hints := ⟨[], []⟩
noncomputable def K9 (w : Sx.World) : Option (Bool) := cnd (ile (qh w.desc.exits) 20) (cnd (ile (qh w.desc.players) 20) (cnd (ile (qh w.desc.coins) 20) (cnd (ile (qh w.desc.items) 40) (cnd (ile (qh w.desc.boxes) 40) (cnd (ile (qh w.at_) 40) (cnd (ile (qh w.coins) 40) (some (ile (qh w.where_) 40)) (some false)) (some false)) (some false)) (some false)) (some false)) (some false)) (some false)
theorem qgc : InlsOK Tryz.prog Gs rfew6.H Gs.inl := .nil
theorem qa3 (w : Sx.World) : qx Gs rfew6.H 15 Tryz.f15 [.agg (SN.cells .world w)] (asR [.bool]) = K9 w := by kernel_rfl
theorem qgd : FnOK Tryz.prog 15 ∧ CtrOK Tryz.prog GL 15 (qj [.st .world] [.bool] K9) :=
 qv (E := Gs) qM (.nil) qgc j0 ja in15 (fun c _ => qi rfl c) (fun xs => qa3 xs.1)
noncomputable def Vg : Env := { ty := zv, ctr := [], inl := [], eqs := [(65, [.I, .I])], glob := GL, L := ql, get := [] }
noncomputable def rdep.lr2.sp : SPat := ⟨20, [2, 3, 5], [.ptr 0 0, .ptr 1 0, .I], [wBP, .cells [.I, .I]], [], 0⟩
noncomputable def rdep.lr2.es : List (Ex × SPat) := [(.ret, ⟨20, [4], [.I], [], [], 0⟩), (.exit 0, ⟨20, [5], [.I], [], [], 0⟩)]
abbrev rdep.lr2.X : Type := ((Int × Unit) × (WTy × ((Int × (Int × Unit)) × Unit)))
abbrev rdep.lr2.O : Type := (((Int × Unit) × Unit) ⊕ ((Int × Unit) × Unit))
noncomputable def rdep.lr2.T : (rdep.lr2.X → Option rdep.lr2.O) → rdep.lr2.X → Option rdep.lr2.O := fun rec x =>
 cnd (ieq x.2.2.1.1 2) (cnd (ilt 50 (wrap .i64 (iadd x.1.1 1))) (some (.inl ((99, ()), ()))) (obind (lget x.2.1.2.2.2.2.2.2.2.2.2.2.1 x.2.2.1.2.1) (fun x_1 => rec ((wrap .i64 (iadd x.1.1 1), ()), (x.2.1, ((x_1.kind, (x_1.id, ())), ())))))) (some (.inr ((x.1.1, ()), ())))
noncomputable def rdep.lr2 : Alt := ⟨rdep.lr2.sp, rdep.lr2.es, 100, rdep.lr2.T⟩
noncomputable def rdep.H : Hints := ⟨[(34, [(2, [rdep.lr2])])], []⟩
noncomputable def vK (w : Sx.World) (p : Sx.Place) : Option (Int) := obind (qt rdep.lr2.T ql (((0, ()), ((wTo w), ((p.kind, (p.id, ())), ()))))) (fun x => scase x (fun x_1 => some x_1.1.1) (fun x_1 => some x_1.1.1))
theorem qbd : Alt.Round Vg rdep.H 34 (qG rdep.H 34 Tryz.f34 0) rdep.lr2 := by intro rec x; kernel_rfl
theorem Nc : ∀ c, Tryz.f34.body = some c → ToldC Vg rdep.H 34 c := qI [rdep.lr2] (by kernel_rfl) (fun i hi => match i, hi with | 0, _ => qbd | n + 1, h => absurd h (by simp))
theorem qjs : InlsOK Tryz.prog Vg rdep.H Vg.inl := .nil
theorem qgi (w : Sx.World) (p : Sx.Place) : qx Vg rdep.H 34 Tryz.f34 [.agg (SN.cells .world w), .agg (SN.cells .place p)] (asR [.I]) = vK w p := by kernel_rfl
theorem Nd : FnOK Tryz.prog 34 ∧ CtrOK Tryz.prog GL 34 (qj [.st .world, .st .place] [.I] vK) :=
 qv (E := Vg) qM (.nil) qjs j0 ja in34 Nc (fun xs => qgi xs.1 xs.2.1)
noncomputable def J6 : Env := { ty := zv, ctr := [], inl := [], eqs := [(65, [.I, .I])], glob := GL, L := ql, get := [] }
noncomputable def rmany.lr3.sp : SPat := ⟨24, [2, 3, 5, 6], [.ptr 0 0, .ptr 1 0, .I, .I], [wBP, .cells [.I, .I]], [], 0⟩
noncomputable def rmany.lr3.es : List (Ex × SPat) := [(.exit 0, ⟨24, [5], [.I], [], [], 0⟩)]
abbrev rmany.lr3.X : Type := ((Int × (Int × Unit)) × (WTy × ((Int × (Int × Unit)) × Unit)))
abbrev rmany.lr3.O : Type := ((Int × Unit) × Unit)
noncomputable def rmany.lr3.T : (rmany.lr3.X → Option rmany.lr3.O) → rmany.lr3.X → Option rmany.lr3.O := fun rec x =>
 let a1 := x.1.2.1; let a2 := x.2.1.2.2.2.2.2.2.2.2.2.2.1; let a3 := x.2.2.1.1; let a4 := x.2.2.1.2.1; cnd (ilt a1 (qh a2)) (obind (lget a2 a1) (fun x_1 => cnd (band (ieq x_1.kind a3) (ieq x_1.id a4)) (rec ((wrap .i64 (iadd x.1.1 1), (wrap .i64 (iadd a1 1), ())), (x.2.1, ((a3, (a4, ())), ())))) (rec ((x.1.1, (wrap .i64 (iadd a1 1), ())), (x.2.1, ((a3, (a4, ())), ())))))) (some ((x.1.1, ()), ()))
noncomputable def rmany.lr3 : Alt := ⟨rmany.lr3.sp, rmany.lr3.es, 100, rmany.lr3.T⟩
noncomputable def rmany.H : Hints := ⟨[(35, [(3, [rmany.lr3])])], []⟩
noncomputable def QA (w : Sx.World) (p : Sx.Place) : Option (Int) := obind (qt rmany.lr3.T ql (((0, (0, ())), ((wTo w), ((p.kind, (p.id, ())), ()))))) (fun x => some x.1.1)
theorem RP : Alt.Round J6 rmany.H 35 (qG rmany.H 35 Tryz.f35 0) rmany.lr3 := by intro rec x; kernel_rfl
theorem Dv : ∀ c, Tryz.f35.body = some c → ToldC J6 rmany.H 35 c := qI [rmany.lr3] (by kernel_rfl) (fun i hi => match i, hi with | 0, _ => RP | n + 1, h => absurd h (by simp))
theorem qf0 : InlsOK Tryz.prog J6 rmany.H J6.inl := .nil
theorem qao (w : Sx.World) (p : Sx.Place) : qx J6 rmany.H 35 Tryz.f35 [.agg (SN.cells .world w), .agg (SN.cells .place p)] (asR [.I]) = QA w p := by kernel_rfl
theorem Ba : FnOK Tryz.prog 35 ∧ CtrOK Tryz.prog GL 35 (qj [.st .world, .st .place] [.I] QA) :=
 qv (E := J6) qM (.nil) qf0 j0 ja in35 Dv (fun xs => qao xs.1 xs.2.1)
noncomputable def Rp : Env := { ty := zv, ctr := [], inl := [], eqs := [(65, [.I, .I])], glob := GL, L := ql, get := [] }
noncomputable def rcap.H : Hints := ⟨[], []⟩
noncomputable def Vq (w : Sx.World) (p : Sx.Place) : Option (Int) := cnd (ile 0 p.kind) (cnd (ilt p.kind 3) (obind (lget (([w.desc.room, w.desc.player, w.desc.box] : List Int)) p.kind) (fun x => some x)) none) none
theorem qjt : InlsOK Tryz.prog Rp rcap.H Rp.inl := .nil
theorem qgj (w : Sx.World) (p : Sx.Place) : qx Rp rcap.H 36 Tryz.f36 [.agg (SN.cells .world w), .agg (SN.cells .place p)] (asR [.I]) = Vq w p := by kernel_rfl
theorem Ng : FnOK Tryz.prog 36 ∧ CtrOK Tryz.prog GL 36 (qj [.st .world, .st .place] [.I] Vq) :=
 qv (E := Rp) qM (.nil) qjt j0 ja in36 (fun c _ => qi rfl c) (fun xs => qgj xs.1 xs.2.1)
noncomputable def kL : Env := { ty := zv, ctr := [(31, qj [.st .desc] [.bool] KB), (32, qj [.I, .I] [.bool] gm), (33, qj [.I] [.bool] Uc), (34, qj [.st .world, .st .place] [.I] vK), (35, qj [.st .world, .st .place] [.I] QA), (36, qj [.st .world, .st .place] [.I] Vq)], inl := [], eqs := [(65, [.I, .I])], glob := GL, L := ql, get := [] }
noncomputable def rright.lr5.sp : SPat := ⟨158, [1, 3, 4], [.ptr 0 0, .ptr 1 0, .I], [wBP, .cells [.sl (.st .exits), .sl .I, .sl .I, .sl .I, .sl .bool, .I, .I, .I]], [], 0⟩
noncomputable def rright.lr5.es : List (Ex × SPat) := [(.ret, ⟨158, [2], [.bool], [], [], 0⟩), (.exit 0, ⟨158, [1, 3], [.ptr 0 0, .ptr 1 0], [wBP, .cells [.sl (.st .exits), .sl .I, .sl .I, .sl .I, .sl .bool, .I, .I, .I]], [], 0⟩)]
abbrev rright.lr5.X : Type := ((Int × Unit) × (WTy × (((List Sx.Exits) × ((List Int) × ((List Int) × ((List Int) × ((List Bool) × (Int × (Int × (Int × Unit)))))))) × Unit)))
abbrev rright.lr5.O : Type := (((Bool × Unit) × Unit) ⊕ (Unit × (WTy × (((List Sx.Exits) × ((List Int) × ((List Int) × ((List Int) × ((List Bool) × (Int × (Int × (Int × Unit)))))))) × Unit))))
noncomputable def rright.lr5.T : (rright.lr5.X → Option rright.lr5.O) → rright.lr5.X → Option rright.lr5.O := fun rec x =>
 let a1 := x.2.1.2.2.2.2.2.2.2.2.1; let a2 := x.2.2.1; cnd (ilt x.1.1 (qh a1)) (obind (lget a1 x.1.1) (fun x_1 => obind (gm x_1 (qh x.2.2.1.1)) (fun x_2 => cnd (bnot x_2) (some (.inl ((false, ()), ()))) (obind (lget x.2.1.2.2.2.2.2.2.2.2.2.1 x.1.1) (fun x_3 => obind (Uc x_3) (fun x_4 => cnd (bnot x_4) (some (.inl ((false, ()), ()))) (rec ((wrap .i64 (iadd x.1.1 1), ()), (x.2.1, (a2, ())))))))))) (some (.inr ((), (x.2.1, (a2, ())))))
noncomputable def rright.lr5 : Alt := ⟨rright.lr5.sp, rright.lr5.es, 100, rright.lr5.T⟩
noncomputable def rright.lr10.sp : SPat := ⟨158, [1, 3, 5], [.ptr 0 0, .ptr 1 0, .I], [wBP, .cells [.sl (.st .exits), .sl .I, .sl .I, .sl .I, .sl .bool, .I, .I, .I]], [], 0⟩
noncomputable def rright.lr10.es : List (Ex × SPat) := [(.ret, ⟨158, [2], [.bool], [], [], 0⟩), (.exit 2, ⟨158, [1], [.ptr 0 0], [wBP], [], 0⟩)]
abbrev rright.lr10.X : Type := ((Int × Unit) × (WTy × (((List Sx.Exits) × ((List Int) × ((List Int) × ((List Int) × ((List Bool) × (Int × (Int × (Int × Unit)))))))) × Unit)))
abbrev rright.lr10.O : Type := (((Bool × Unit) × Unit) ⊕ (Unit × (WTy × Unit)))
noncomputable def rright.lr10.T : (rright.lr10.X → Option rright.lr10.O) → rright.lr10.X → Option rright.lr10.O := fun rec x =>
 let a1 := x.2.1.2.2.2.2.2.2.2.2.2.2.1; let a2 := x.2.2.1; let a3 := x.2.2.1.2.1; let a4 := x.2.2.1.2.2.2.1; let a5 := x.2.2.1.2.2.2.2.1; cnd (ilt x.1.1 (qh a1)) (obind (lget a1 x.1.1) (fun x_3 => cnd (ieq x_3.kind 0) (obind (gm x_3.id (qh x.2.2.1.1)) (fun x_4 => cnd x_4 (rec ((wrap .i64 (iadd x.1.1 1), ()), (x.2.1, (a2, ())))) (cnd (ieq x_3.kind 1) (obind (gm x_3.id (qh a3)) (fun x_5 => cnd x_5 (rec ((wrap .i64 (iadd x.1.1 1), ()), (x.2.1, (a2, ())))) (cnd (ieq x_3.kind 2) (obind (gm x_3.id (qh a4)) (fun x_6 => cnd x_6 (obind (lget a5 x_3.id) (fun x_7 => cnd (bnot x_7) (some (.inl ((false, ()), ()))) (rec ((wrap .i64 (iadd x.1.1 1), ()), (x.2.1, (a2, ())))))) (some (.inl ((false, ()), ()))))) (some (.inl ((false, ()), ())))))) (cnd (ieq x_3.kind 2) (obind (gm x_3.id (qh a4)) (fun x_5 => cnd x_5 (obind (lget a5 x_3.id) (fun x_6 => cnd (bnot x_6) (some (.inl ((false, ()), ()))) (rec ((wrap .i64 (iadd x.1.1 1), ()), (x.2.1, (a2, ())))))) (some (.inl ((false, ()), ()))))) (some (.inl ((false, ()), ()))))))) (cnd (ieq x_3.kind 1) (obind (gm x_3.id (qh a3)) (fun x_4 => cnd x_4 (rec ((wrap .i64 (iadd x.1.1 1), ()), (x.2.1, (a2, ())))) (cnd (ieq x_3.kind 2) (obind (gm x_3.id (qh a4)) (fun x_5 => cnd x_5 (obind (lget a5 x_3.id) (fun x_6 => cnd (bnot x_6) (some (.inl ((false, ()), ()))) (rec ((wrap .i64 (iadd x.1.1 1), ()), (x.2.1, (a2, ())))))) (some (.inl ((false, ()), ()))))) (some (.inl ((false, ()), ())))))) (cnd (ieq x_3.kind 2) (obind (gm x_3.id (qh a4)) (fun x_4 => cnd x_4 (obind (lget a5 x_3.id) (fun x_5 => cnd (bnot x_5) (some (.inl ((false, ()), ()))) (rec ((wrap .i64 (iadd x.1.1 1), ()), (x.2.1, (a2, ())))))) (some (.inl ((false, ()), ()))))) (some (.inl ((false, ()), ()))))))) (some (.inr ((), (x.2.1, ()))))
noncomputable def rright.lr10 : Alt := ⟨rright.lr10.sp, rright.lr10.es, 100, rright.lr10.T⟩
noncomputable def rright.lr17.sp : SPat := ⟨158, [1, 8], [.ptr 0 0, .I], [wBP], [], 0⟩
noncomputable def rright.lr17.es : List (Ex × SPat) := [(.ret, ⟨158, [2], [.bool], [], [], 0⟩), (.exit 4, ⟨158, [], [], [], [], 0⟩)]
abbrev rright.lr17.X : Type := ((Int × Unit) × (WTy × Unit))
abbrev rright.lr17.O : Type := (((Bool × Unit) × Unit) ⊕ (Unit × Unit))
noncomputable def rright.lr17.T : (rright.lr17.X → Option rright.lr17.O) → rright.lr17.X → Option rright.lr17.O := fun rec x =>
 let a1 := x.2.1.2.2.2.2.2.2.2.2.2.2.1; cnd (ilt x.1.1 (qh a1)) (obind (lget a1 x.1.1) (fun x_5 => obind (vK ((wOf x.2.1)) (x_5)) (fun x_6 => cnd (ilt 4 x_6) (some (.inl ((false, ()), ()))) (obind (lget a1 x.1.1) (fun x_7 => obind (QA ((wOf x.2.1)) (x_7)) (fun x_8 => obind (lget a1 x.1.1) (fun x_9 => obind (Vq ((wOf x.2.1)) (x_9)) (fun x_10 => cnd (ilt x_10 x_8) (some (.inl ((false, ()), ()))) (rec ((wrap .i64 (iadd x.1.1 1), ()), (x.2.1, ()))))))))))) (some (.inr ((), ())))
noncomputable def rright.lr17 : Alt := ⟨rright.lr17.sp, rright.lr17.es, 100, rright.lr17.T⟩
noncomputable def rright.H : Hints := ⟨[(16, [(5, [rright.lr5]), (10, [rright.lr10]), (17, [rright.lr17])])], []⟩
noncomputable def gU (w : Sx.World) : Option (Bool) := obind (KB (w.desc)) (fun x => cnd (bnot x) (some false) (cnd (bnot (ieq (qh w.at_) (qh w.desc.players))) (some false) (cnd (bnot (ieq (qh w.coins) (qh w.desc.players))) (some false) (cnd (bnot (ieq (qh w.where_) (qh w.desc.items))) (some false) (obind (qt rright.lr5.T ql (((0, ()), ((wTo w), ((dTo w.desc), ()))))) (fun x_1 => scase x_1 (fun x_2 => some x_2.1.1) (fun x_2 => obind (qt rright.lr10.T ql (((0, ()), (x_2.2.1, (x_2.2.2.1, ()))))) (fun x_3 => scase x_3 (fun x_4 => some x_4.1.1) (fun x_4 => obind (qt rright.lr17.T ql (((0, ()), (x_4.2.1, ())))) (fun x_5 => scase x_5 (fun x_6 => some x_6.1.1) (fun x_6 => some true)))))))))))
theorem Ds : Alt.Round kL rright.H 16 (qG rright.H 16 Tryz.f16 0) rright.lr5 := by intro rec x; kernel_rfl
theorem Dr : Alt.Round kL rright.H 16 (qG rright.H 16 Tryz.f16 1) rright.lr10 := by intro rec x; kernel_rfl
theorem Dq : Alt.Round kL rright.H 16 (qG rright.H 16 Tryz.f16 2) rright.lr17 := by intro rec x; kernel_rfl
theorem Yx : ∀ c, Tryz.f16.body = some c → ToldC kL rright.H 16 c := qI [rright.lr5, rright.lr10, rright.lr17] (by kernel_rfl) (fun i hi => match i, hi with | 0, _ => Ds | 1, _ => Dr | 2, _ => Dq | n + 3, h => absurd h (by simp))
theorem qae : InlsOK Tryz.prog kL rright.H kL.inl := .nil
theorem RI (w : Sx.World) : qx kL rright.H 16 Tryz.f16 [.agg (SN.cells .world w)] (asR [.bool]) = gU w := by kernel_rfl
theorem qaf : FnOK Tryz.prog 16 ∧ CtrOK Tryz.prog GL 16 (qj [.st .world] [.bool] gU) :=
 qv (E := kL) qM (.cons qgh (.cons qds (.cons Dw (.cons Nd (.cons Ba (.cons Ng .nil)))))) qae j0 ja in16 Yx (fun xs => RI xs.1)
noncomputable def rcopied.H : Hints := ⟨[], []⟩
noncomputable def Gh (rc : Sx.World → Int → Option (Sx.Place)) : Env := { ty := zv, ctr := [(136, qj [.st .world, .I] [.st .place] rc)], inl := [], eqs := [(65, [.I, .I])], glob := GL, L := ql, get := [] }
noncomputable def rroot.H (rc : Sx.World → Int → Option (Sx.Place)) : Hints := ⟨[], []⟩
noncomputable def Dp (rc : Sx.World → Int → Option (Sx.Place)) (w : Sx.World) (i : Int) : Option (Sx.Place) := obind (lget w.where_ i) (fun x => cnd (bnot (ieq x.kind 2)) (some (x)) (obind (rc (w) x.id) (fun x_1 => some (x_1))))
theorem qfo (rc : Sx.World → Int → Option (Sx.Place)) : InlsOK Tryz.prog (Gh rc) (rroot.H rc) (Gh rc).inl := .nil
theorem qac (rc : Sx.World → Int → Option (Sx.Place)) (w : Sx.World) (i : Int) : qx (Gh rc) (rroot.H rc) 136 Tryz.f136 [.agg (SN.cells .world w), .I i] (asR [.st .place]) = Dp rc w i := by kernel_rfl
noncomputable def Q7 : Nat → Sx.World → Int → Option (Sx.Place)
 | 0 => fun _ _ => none
 | n + 1 => Dp (Q7 n)
theorem GZ : ∀ N, FnOK Tryz.prog 136 ∧ CtrOK Tryz.prog GL 136 (qj [.st .world, .I] [.st .place] (Q7 N))
 | 0 => ⟨⟨_, in136⟩, KX fun xs z hz => absurd (show none = some z from hz) (by simp)⟩
 | N + 1 => qv (E := (Gh (Q7 N))) qM (.cons (GZ N) .nil) (qfo (Q7 N)) j0 ja in136 (fun c _ => qi rfl c) (fun xs => qac (Q7 N) xs.1 xs.2.1)
noncomputable def K2 : Sx.World → Int → Option (Sx.Place) := Q7 100
theorem YV : FnOK Tryz.prog 136 ∧ CtrOK Tryz.prog GL 136 (qj [.st .world, .I] [.st .place] K2) := GZ 100
noncomputable def J3 (rc : Sx.World → Int → Int → Option (Bool)) : Env := { ty := zv, ctr := [(88, qj [.st .world, .I, .I] [.bool] rc)], inl := [], eqs := [(65, [.I, .I])], glob := GL, L := ql, get := [] }
noncomputable def rwithin.H (rc : Sx.World → Int → Int → Option (Bool)) : Hints := ⟨[], []⟩
noncomputable def Zx (rc : Sx.World → Int → Int → Option (Bool)) (w : Sx.World) (i : Int) (b : Int) : Option (Bool) := cnd (ieq i b) (some true) (obind (lget w.where_ i) (fun x => cnd (ieq x.kind 2) (obind (rc (w) x.id b) (fun x_1 => some x_1)) (some false)))
theorem RA (rc : Sx.World → Int → Int → Option (Bool)) : InlsOK Tryz.prog (J3 rc) (rwithin.H rc) (J3 rc).inl := .nil
theorem Dd (rc : Sx.World → Int → Int → Option (Bool)) (w : Sx.World) (i : Int) (b : Int) : qx (J3 rc) (rwithin.H rc) 88 Tryz.f88 [.agg (SN.cells .world w), .I i, .I b] (asR [.bool]) = Zx rc w i b := by kernel_rfl
noncomputable def z9 : Nat → Sx.World → Int → Int → Option (Bool)
 | 0 => fun _ _ _ => none
 | n + 1 => Zx (z9 n)
theorem Zw : ∀ N, FnOK Tryz.prog 88 ∧ CtrOK Tryz.prog GL 88 (qj [.st .world, .I, .I] [.bool] (z9 N))
 | 0 => ⟨⟨_, in88⟩, KX fun xs z hz => absurd (show none = some z from hz) (by simp)⟩
 | N + 1 => qv (E := (J3 (z9 N))) qM (.cons (Zw N) .nil) (RA (z9 N)) j0 ja in88 (fun c _ => qi rfl c) (fun xs => Dd (z9 N) xs.1 xs.2.1 xs.2.2.1)
noncomputable def Q4 : Sx.World → Int → Int → Option (Bool) := z9 100
theorem RB : FnOK Tryz.prog 88 ∧ CtrOK Tryz.prog GL 88 (qj [.st .world, .I, .I] [.bool] Q4) := Zw 100
noncomputable def gL : Env := { ty := zv, ctr := [(136, qj [.st .world, .I] [.st .place] K2)], inl := [], eqs := [(65, [.I, .I])], glob := GL, L := ql, get := [] }
noncomputable def runder.lr3.sp : SPat := ⟨30, [2, 3, 5, 6], [.ptr 0 0, .ptr 1 0, .vec 3, .I], [wBP, .cells [.I, .I], .dead, .vec (.st .seen)], [], 0⟩
noncomputable def runder.lr3.es : List (Ex × SPat) := [(.exit 0, ⟨30, [5], [.vec 3], [.dead, .dead, .dead, .vec (.st .seen)], [], 0⟩)]
abbrev runder.lr3.X : Type := ((Int × Unit) × (WTy × ((Int × (Int × Unit)) × ((List Sx.Seen) × Unit))))
abbrev runder.lr3.O : Type := (Unit × ((List Sx.Seen) × Unit))
noncomputable def runder.lr3.T : (runder.lr3.X → Option runder.lr3.O) → runder.lr3.X → Option runder.lr3.O := fun rec x =>
 let a1 := x.2.1.2.2.2.2.2.2.2.2.2.2.1; let a2 := x.2.2.1.1; let a3 := x.2.2.1.2.1; let a4 := x.2.2.2.1; cnd (ilt x.1.1 (qh a1)) (obind (K2 ((wOf x.2.1)) x.1.1) (fun x_1 => cnd (band (ieq x_1.kind a2) (ieq x_1.id a3)) (obind (lget a1 x.1.1) (fun x_2 => cnd (ilt (imul (iadd (qh a4) 1) 24) 140737488355329) (rec ((wrap .i64 (iadd x.1.1 1), ()), (x.2.1, ((a2, (a3, ())), (lapp a4 ([⟨x.1.1, x_2⟩]), ()))))) (none))) (rec ((wrap .i64 (iadd x.1.1 1), ()), (x.2.1, ((a2, (a3, ())), (a4, ()))))))) (some ((), (a4, ())))
noncomputable def runder.lr3 : Alt := ⟨runder.lr3.sp, runder.lr3.es, 100, runder.lr3.T⟩
noncomputable def runder.H : Hints := ⟨[(92, [(3, [runder.lr3])])], []⟩
noncomputable def vH (w : Sx.World) (p : Sx.Place) : Option (List Seen) := obind (qt runder.lr3.T ql (((0, ()), ((wTo w), ((p.kind, (p.id, ())), ([], ())))))) (fun x => some x.2.1)
theorem De : Alt.Round gL runder.H 92 (qG runder.H 92 Tryz.f92 0) runder.lr3 := by intro rec x; kernel_rfl
theorem Yr : ∀ c, Tryz.f92.body = some c → ToldC gL runder.H 92 c := qI [runder.lr3] (by kernel_rfl) (fun i hi => match i, hi with | 0, _ => De | n + 1, h => absurd h (by simp))
theorem MX : InlsOK Tryz.prog gL runder.H gL.inl := .nil
theorem RC (w : Sx.World) (p : Sx.Place) : qx gL runder.H 92 Tryz.f92 [.agg (SN.cells .world w), .agg (SN.cells .place p)] (asR [.sl (.st .seen)]) = vH w p := by kernel_rfl
theorem GV : FnOK Tryz.prog 92 ∧ CtrOK Tryz.prog GL 92 (qj [.st .world, .st .place] [.sl (.st .seen)] vH) :=
 qv (E := gL) qM (.cons YV .nil) MX j0 ja in92 Yr (fun xs => RC xs.1 xs.2.1)
noncomputable def Gi : Env := { ty := zv, ctr := [(36, qj [.st .world, .st .place] [.I] Vq), (35, qj [.st .world, .st .place] [.I] QA)], inl := [], eqs := [(65, [.I, .I])], glob := GL, L := ql, get := [] }
noncomputable def rroom.H : Hints := ⟨[], []⟩
noncomputable def jO (w : Sx.World) (p : Sx.Place) : Option (Int) := obind (Vq (w) (p)) (fun x => obind (QA (w) (p)) (fun x_1 => some (wrap .i64 (isub x x_1))))
theorem qfp : InlsOK Tryz.prog Gi rroom.H Gi.inl := .nil
theorem qad (w : Sx.World) (p : Sx.Place) : qx Gi rroom.H 84 Tryz.f84 [.agg (SN.cells .world w), .agg (SN.cells .place p)] (asR [.I]) = jO w p := by kernel_rfl
theorem vb : FnOK Tryz.prog 84 ∧ CtrOK Tryz.prog GL 84 (qj [.st .world, .st .place] [.I] jO) :=
 qv (E := Gi) qM (.cons Ng (.cons Ba .nil)) qfp j0 ja in84 (fun c _ => qi rfl c) (fun xs => qad xs.1 xs.2.1)
noncomputable def Gk : Env := { ty := zv, ctr := [], inl := [(89, Tryz.f89)], eqs := [(65, [.I, .I])], glob := GL, L := ql, get := [] }
noncomputable def rpass.H : Hints := ⟨[], []⟩
noncomputable def Q8 (w : Sx.World) (p : Int) (d : Int) : Option (Sx.World × Int × Int) := obind (lget w.at_ p) (fun x => obind (lget w.desc.exits x) (fun x_1 => cnd (ile 0 d) (cnd (ilt d 4) (cnd (ieq (jU (([x_1.e0, x_1.e1, x_1.e2, x_1.e3] : List Int)) d) (-1)) (some ((w, (0, 4)))) (cnd (ilt (imul (iadd 0 (qh w.at_)) 8) 140737488355329) (cnd (ilt (imul (iadd 0 (qh w.coins)) 8) 140737488355329) (cnd (ilt (imul (iadd 0 (qh w.where_)) 16) 140737488355329) (cnd (ile 0 p) (cnd (ilt p (qh w.at_)) (obind (lget w.at_ p) (fun x_2 => some ((⟨w.desc, lset w.at_ p (jU (([x_1.e0, x_1.e1, x_1.e2, x_1.e3] : List Int)) d), w.coins, w.where_⟩, (jU (([x_1.e0, x_1.e1, x_1.e2, x_1.e3] : List Int)) d, 0))))) none) none) none) none) none)) none) none))
theorem qfu : InlsOK Tryz.prog Gk rpass.H Gk.inl := .cons in89 (fun c _ => qi rfl c) .nil
theorem qak (w : Sx.World) (p : Int) (d : Int) : qx Gk rpass.H 83 Tryz.f83 [.agg (SN.cells .world w), .I p, .I d] (asR [.st .world, .I, .I]) = Q8 w p d := by kernel_rfl
theorem YW : FnOK Tryz.prog 83 ∧ CtrOK Tryz.prog GL 83 (qj [.st .world, .I, .I] [.st .world, .I, .I] Q8) :=
 qv (E := Gk) qM (.nil) qfu j0 ja in83 (fun c _ => qi rfl c) (fun xs => qak xs.1 xs.2.1 xs.2.2.1)
noncomputable def Gm : Env := { ty := zv, ctr := [(83, qj [.st .world, .I, .I] [.st .world, .I, .I] Q8)], inl := [], eqs := [(65, [.I, .I])], glob := GL, L := ql, get := [] }
noncomputable def rmove.H : Hints := ⟨[], []⟩
noncomputable def Ua (w : Sx.World) (p : Int) (d : Int) : Option (Sx.World × Int × Int) := obind (Q8 (w) p d) (fun x => some ((x.1, (x.2.1, x.2.2))))
theorem qfy : InlsOK Tryz.prog Gm rmove.H Gm.inl := .nil
theorem qan (w : Sx.World) (p : Int) (d : Int) : qx Gm rmove.H 42 Tryz.f42 [.agg (SN.cells .world w), .I p, .I d] (asR [.st .world, .I, .I]) = Ua w p d := by kernel_rfl
theorem qfz : FnOK Tryz.prog 42 ∧ CtrOK Tryz.prog GL 42 (qj [.st .world, .I, .I] [.st .world, .I, .I] Ua) :=
 qv (E := Gm) qM (.cons YW .nil) qfy j0 ja in42 (fun c _ => qi rfl c) (fun xs => qan xs.1 xs.2.1 xs.2.2.1)
noncomputable def Gj : Env := { ty := zv, ctr := [(83, qj [.st .world, .I, .I] [.st .world, .I, .I] Q8)], inl := [], eqs := [(65, [.I, .I])], glob := GL, L := ql, get := [] }
noncomputable def rpush.H : Hints := ⟨[], []⟩
noncomputable def K3 (w : Sx.World) (p : Int) (q : Int) (d : Int) : Option (Sx.World × Int × Int) := cnd (ilt q 0) (some ((w, (0, 3)))) (cnd (ile (qh w.at_) q) (some ((w, (0, 3)))) (cnd (ieq q p) (some ((w, (0, 12)))) (obind (lget w.at_ p) (fun x => obind (lget w.at_ q) (fun x_1 => cnd (bnot (ieq x x_1)) (some ((w, (0, 5)))) (obind (Q8 (w) q d) (fun x_2 => some ((x_2.1, (x_2.2.1, x_2.2.2))))))))))
theorem qfq : InlsOK Tryz.prog Gj rpush.H Gj.inl := .nil
theorem qai (w : Sx.World) (p : Int) (q : Int) (d : Int) : qx Gj rpush.H 43 Tryz.f43 [.agg (SN.cells .world w), .I p, .I q, .I d] (asR [.st .world, .I, .I]) = K3 w p q d := by kernel_rfl
theorem qfr : FnOK Tryz.prog 43 ∧ CtrOK Tryz.prog GL 43 (qj [.st .world, .I, .I, .I] [.st .world, .I, .I] K3) :=
 qv (E := Gj) qM (.cons YW .nil) qfq j0 ja in43 (fun c _ => qi rfl c) (fun xs => qai xs.1 xs.2.1 xs.2.2.1 xs.2.2.2.1)
noncomputable def qet : Env := { ty := zv, ctr := [], inl := [(89, Tryz.f89)], eqs := [(65, [.I, .I])], glob := GL, L := ql, get := [] }
noncomputable def rto.H : Hints := ⟨[], []⟩
noncomputable def JV (w : Sx.World) (i : Int) (p : Sx.Place) : Option (Sx.World) := cnd (ilt (imul (iadd 0 (qh w.at_)) 8) 140737488355329) (cnd (ilt (imul (iadd 0 (qh w.coins)) 8) 140737488355329) (cnd (ilt (imul (iadd 0 (qh w.where_)) 16) 140737488355329) (cnd (ile 0 i) (cnd (ilt i (qh w.where_)) (obind (lget w.where_ i) (fun x => some (⟨w.desc, w.at_, w.coins, lset w.where_ i (p)⟩))) none) none) none) none) none
theorem rto_inl : InlsOK Tryz.prog qet rto.H qet.inl := .cons in89 (fun c _ => qi rfl c) .nil
theorem qi2 (w : Sx.World) (i : Int) (p : Sx.Place) : qx qet rto.H 85 Tryz.f85 [.agg (SN.cells .world w), .I i, .agg (SN.cells .place p)] (asR [.st .world]) = JV w i p := by kernel_rfl
theorem Z0 : FnOK Tryz.prog 85 ∧ CtrOK Tryz.prog GL 85 (qj [.st .world, .I, .st .place] [.st .world] JV) :=
 qv (E := qet) qM (.nil) rto_inl j0 ja in85 (fun c _ => qi rfl c) (fun xs => qi2 xs.1 xs.2.1 xs.2.2.1)
noncomputable def Gr : Env := { ty := zv, ctr := [(84, qj [.st .world, .st .place] [.I] jO), (85, qj [.st .world, .I, .st .place] [.st .world] JV)], inl := [], eqs := [(65, [.I, .I])], glob := GL, L := ql, get := [] }
noncomputable def rget9.H : Hints := ⟨[], []⟩
noncomputable def K8 (w : Sx.World) (p : Int) (i : Int) : Option (Sx.World × Int) := cnd (ilt i 0) (some ((w, 3))) (cnd (ile (qh w.where_) i) (some ((w, 3))) (obind (lget w.where_ i) (fun x => obind (lget w.at_ p) (fun x_1 => cnd (bnot (band (ieq x.kind 0) (ieq x.id x_1))) (some ((w, 5))) (obind (jO (w) (⟨1, p⟩)) (fun x_2 => cnd (ieq x_2 0) (some ((w, 9))) (obind (JV (w) i (⟨1, p⟩)) (fun x_3 => some ((x_3, 0))))))))))
theorem qga : InlsOK Tryz.prog Gr rget9.H Gr.inl := .nil
theorem qa2 (w : Sx.World) (p : Int) (i : Int) : qx Gr rget9.H 44 Tryz.f44 [.agg (SN.cells .world w), .I p, .I i] (asR [.st .world, .I]) = K8 w p i := by kernel_rfl
theorem qgb : FnOK Tryz.prog 44 ∧ CtrOK Tryz.prog GL 44 (qj [.st .world, .I, .I] [.st .world, .I] K8) :=
 qv (E := Gr) qM (.cons vb (.cons Z0 .nil)) qga j0 ja in44 (fun c _ => qi rfl c) (fun xs => qa2 xs.1 xs.2.1 xs.2.2.1)
noncomputable def Ki : Env := { ty := zv, ctr := [(84, qj [.st .world, .st .place] [.I] jO), (85, qj [.st .world, .I, .st .place] [.st .world] JV)], inl := [], eqs := [(65, [.I, .I])], glob := GL, L := ql, get := [] }
noncomputable def rdrop9.H : Hints := ⟨[], []⟩
noncomputable def Jj (w : Sx.World) (p : Int) (i : Int) : Option (Sx.World × Int) := cnd (ilt i 0) (some ((w, 3))) (cnd (ile (qh w.where_) i) (some ((w, 3))) (obind (lget w.where_ i) (fun x => cnd (bnot (band (ieq x.kind 1) (ieq x.id p))) (some ((w, 5))) (obind (lget w.at_ p) (fun x_1 => obind (jO (w) (⟨0, x_1⟩)) (fun x_2 => cnd (ieq x_2 0) (some ((w, 9))) (obind (lget w.at_ p) (fun x_3 => obind (JV (w) i (⟨0, x_3⟩)) (fun x_4 => some ((x_4, 0)))))))))))
theorem qba : InlsOK Tryz.prog Ki rdrop9.H Ki.inl := .nil
theorem RW (w : Sx.World) (p : Int) (i : Int) : qx Ki rdrop9.H 45 Tryz.f45 [.agg (SN.cells .world w), .I p, .I i] (asR [.st .world, .I]) = Jj w p i := by kernel_rfl
theorem qbb : FnOK Tryz.prog 45 ∧ CtrOK Tryz.prog GL 45 (qj [.st .world, .I, .I] [.st .world, .I] Jj) :=
 qv (E := Ki) qM (.cons vb (.cons Z0 .nil)) qba j0 ja in45 (fun c _ => qi rfl c) (fun xs => RW xs.1 xs.2.1 xs.2.2.1)
noncomputable def Gp : Env := { ty := zv, ctr := [], inl := [], eqs := [(65, [.I, .I])], glob := GL, L := ql, get := [] }
noncomputable def ris10.H : Hints := ⟨[], []⟩
noncomputable def gV (w : Sx.World) (i : Int) : Option (Bool) := cnd (ile 0 i) (some (ilt i (qh w.where_))) (some false)
theorem qf3 : InlsOK Tryz.prog Gp ris10.H Gp.inl := .nil
theorem qaq (w : Sx.World) (i : Int) : qx Gp ris10.H 86 Tryz.f86 [.agg (SN.cells .world w), .I i] (asR [.bool]) = gV w i := by kernel_rfl
theorem Bb : FnOK Tryz.prog 86 ∧ CtrOK Tryz.prog GL 86 (qj [.st .world, .I] [.bool] gV) :=
 qv (E := Gp) qM (.nil) qf3 j0 ja in86 (fun c _ => qi rfl c) (fun xs => qaq xs.1 xs.2.1)
noncomputable def Gl : Env := { ty := zv, ctr := [(136, qj [.st .world, .I] [.st .place] K2)], inl := [], eqs := [(65, [.I, .I])], glob := GL, L := ql, get := [] }
noncomputable def rnear.H : Hints := ⟨[], []⟩
noncomputable def Q9 (w : Sx.World) (p : Int) (i : Int) : Option (Bool) := obind (K2 (w) i) (fun x => cnd (ieq x.kind 0) (obind (lget w.at_ p) (fun x_1 => cnd (ieq x.id x_1) (some true) (cnd (ieq x.kind 1) (some (ieq x.id p)) (some false)))) (cnd (ieq x.kind 1) (some (ieq x.id p)) (some false)))
theorem qfx : InlsOK Tryz.prog Gl rnear.H Gl.inl := .nil
theorem qam (w : Sx.World) (p : Int) (i : Int) : qx Gl rnear.H 87 Tryz.f87 [.agg (SN.cells .world w), .I p, .I i] (asR [.bool]) = Q9 w p i := by kernel_rfl
theorem YZ : FnOK Tryz.prog 87 ∧ CtrOK Tryz.prog GL 87 (qj [.st .world, .I, .I] [.bool] Q9) :=
 qv (E := Gl) qM (.cons YV .nil) qfx j0 ja in87 (fun c _ => qi rfl c) (fun xs => qam xs.1 xs.2.1 xs.2.2.1)
noncomputable def gM : Env := { ty := zv, ctr := [(86, qj [.st .world, .I] [.bool] gV), (87, qj [.st .world, .I, .I] [.bool] Q9), (88, qj [.st .world, .I, .I] [.bool] Q4), (85, qj [.st .world, .I, .st .place] [.st .world] JV), (34, qj [.st .world, .st .place] [.I] vK), (84, qj [.st .world, .st .place] [.I] jO)], inl := [], eqs := [(65, [.I, .I])], glob := GL, L := ql, get := [] }
noncomputable def rput10.lr11.sp : SPat := ⟨80, [3, 4, 8, 10, 11], [.I, .ptr 0 0, .ptr 1 0, .ptr 2 0, .I], [wBP, .cells [.nilsl, .nilsl, .nilsl, .nilsl, .nilsl, .I, .I, .I, .nilsl, .nilsl, .nilsl], wBP], [], 0⟩
noncomputable def rput10.lr11.es : List (Ex × SPat) := [(.ret, ⟨80, [8, 9], [.ptr 1 0, .I], [.dead, wBP], [], 0⟩), (.exit 0, ⟨80, [3, 4, 8, 10], [.I, .ptr 0 0, .ptr 1 0, .ptr 2 0], [wBP, .cells [.nilsl, .nilsl, .nilsl, .nilsl, .nilsl, .I, .I, .I, .nilsl, .nilsl, .nilsl], wBP], [], 0⟩)]
abbrev rput10.lr11.X : Type := ((Int × (Int × Unit)) × (WTy × ((Int × (Int × (Int × Unit))) × (WTy × Unit))))
abbrev rput10.lr11.O : Type := (((Int × Unit) × (WTy × Unit)) ⊕ ((Int × Unit) × (WTy × ((Int × (Int × (Int × Unit))) × (WTy × Unit)))))
noncomputable def rput10.lr11.T : (rput10.lr11.X → Option rput10.lr11.O) → rput10.lr11.X → Option rput10.lr11.O := fun rec x =>
 let a1 := x.1.2.1; let a2 := x.2.2.1.1; let a3 := x.2.2.1.2.1; let a4 := x.2.2.1.2.2.1; let a5 := x.2.2.2.1; let a6 := x.2.2.2.1.2.2.2.2.2.2.2.2.2.2.1; cnd (ilt a1 (qh a6)) (obind (lget a6 a1) (fun x_7 => obind (vK ((wOf a5)) (x_7)) (fun x_8 => cnd (ilt 4 x_8) (some (.inl ((8, ()), (x.2.1, ())))) (rec ((x.1.1, (wrap .i64 (iadd a1 1), ())), (x.2.1, ((a2, (a3, (a4, ()))), (a5, ())))))))) (some (.inr ((x.1.1, ()), (x.2.1, ((a2, (a3, (a4, ()))), (a5, ()))))))
noncomputable def rput10.lr11 : Alt := ⟨rput10.lr11.sp, rput10.lr11.es, 100, rput10.lr11.T⟩
noncomputable def rput10.H : Hints := ⟨[(46, [(11, [rput10.lr11])])], []⟩
noncomputable def Jh (w : Sx.World) (p : Int) (i : Int) (b : Int) : Option (Sx.World × Int) := obind (gV (w) i) (fun x => cnd (bnot x) (some ((w, 3))) (obind (gV (w) b) (fun x_1 => cnd (bnot x_1) (some ((w, 3))) (obind (lget w.where_ i) (fun x_2 => cnd (bnot (band (ieq x_2.kind 1) (ieq x_2.id p))) (some ((w, 5))) (obind (Q9 (w) p b) (fun x_3 => cnd (bnot x_3) (some ((w, 5))) (obind (lget w.desc.boxes b) (fun x_4 => cnd (bnot x_4) (some ((w, 6))) (obind (Q4 (w) b i) (fun x_5 => cnd x_5 (some ((w, 7))) (obind (JV (w) i (⟨2, b⟩)) (fun x_6 => obind (qt rput10.lr11.T ql (((b, (0, ())), ((wTo w), ((0, (0, (0, ()))), ((wTo x_6), ())))))) (fun x_7 => scase x_7 (fun x_8 => some (((wOf x_8.2.1), x_8.1.1))) (fun x_8 => let a1 := x_8.2.1; obind (jO ((wOf a1)) (⟨2, x_8.1.1⟩)) (fun x_9 => cnd (ieq x_9 0) (some (((wOf a1), 9))) (some (((wOf x_8.2.2.2.1), 0)))))))))))))))))))
theorem Dt : Alt.Round gM rput10.H 46 (qG rput10.H 46 Tryz.f46 0) rput10.lr11 := by intro rec x; kernel_rfl
theorem Yy : ∀ c, Tryz.f46.body = some c → ToldC gM rput10.H 46 c := qI [rput10.lr11] (by kernel_rfl) (fun i hi => match i, hi with | 0, _ => Dt | n + 1, h => absurd h (by simp))
theorem qag : InlsOK Tryz.prog gM rput10.H gM.inl := .nil
theorem RJ (w : Sx.World) (p : Int) (i : Int) (b : Int) : qx gM rput10.H 46 Tryz.f46 [.agg (SN.cells .world w), .I p, .I i, .I b] (asR [.st .world, .I]) = Jh w p i b := by kernel_rfl
theorem qah : FnOK Tryz.prog 46 ∧ CtrOK Tryz.prog GL 46 (qj [.st .world, .I, .I, .I] [.st .world, .I] Jh) :=
 qv (E := gM) qM (.cons Bb (.cons YZ (.cons RB (.cons Z0 (.cons Nd (.cons vb .nil)))))) qag j0 ja in46 Yy (fun xs => RJ xs.1 xs.2.1 xs.2.2.1 xs.2.2.2.1)
noncomputable def J4 : Env := { ty := zv, ctr := [(86, qj [.st .world, .I] [.bool] gV), (87, qj [.st .world, .I, .I] [.bool] Q9), (84, qj [.st .world, .st .place] [.I] jO), (85, qj [.st .world, .I, .st .place] [.st .world] JV)], inl := [], eqs := [(65, [.I, .I])], glob := GL, L := ql, get := [] }
noncomputable def rtake10.H : Hints := ⟨[], []⟩
noncomputable def gk (w : Sx.World) (p : Int) (i : Int) (b : Int) : Option (Sx.World × Int) := obind (gV (w) i) (fun x => cnd (bnot x) (some ((w, 3))) (obind (gV (w) b) (fun x_1 => cnd (bnot x_1) (some ((w, 3))) (obind (Q9 (w) p b) (fun x_2 => cnd (bnot x_2) (some ((w, 5))) (obind (lget w.desc.boxes b) (fun x_3 => cnd (bnot x_3) (some ((w, 6))) (obind (lget w.where_ i) (fun x_4 => cnd (bnot (band (ieq x_4.kind 2) (ieq x_4.id b))) (some ((w, 5))) (obind (jO (w) (⟨1, p⟩)) (fun x_5 => cnd (ieq x_5 0) (some ((w, 9))) (obind (JV (w) i (⟨1, p⟩)) (fun x_6 => some ((x_6, 0)))))))))))))))
theorem RG : InlsOK Tryz.prog J4 rtake10.H J4.inl := .nil
theorem Do (w : Sx.World) (p : Int) (i : Int) (b : Int) : qx J4 rtake10.H 47 Tryz.f47 [.agg (SN.cells .world w), .I p, .I i, .I b] (asR [.st .world, .I]) = gk w p i b := by kernel_rfl
theorem RH : FnOK Tryz.prog 47 ∧ CtrOK Tryz.prog GL 47 (qj [.st .world, .I, .I, .I] [.st .world, .I] gk) :=
 qv (E := J4) qM (.cons Bb (.cons YZ (.cons vb (.cons Z0 .nil)))) RG j0 ja in47 (fun c _ => qi rfl c) (fun xs => Do xs.1 xs.2.1 xs.2.2.1 xs.2.2.2.1)
noncomputable def Gq : Env := { ty := zv, ctr := [(84, qj [.st .world, .st .place] [.I] jO), (85, qj [.st .world, .I, .st .place] [.st .world] JV)], inl := [], eqs := [(65, [.I, .I])], glob := GL, L := ql, get := [] }
noncomputable def rgive.H : Hints := ⟨[], []⟩
noncomputable def K7 (w : Sx.World) (p : Int) (i : Int) (q : Int) : Option (Sx.World × Int) := cnd (ilt i 0) (some ((w, 3))) (cnd (ile (qh w.where_) i) (some ((w, 3))) (cnd (ilt q 0) (some ((w, 3))) (cnd (ile (qh w.at_) q) (some ((w, 3))) (cnd (ieq p q) (some ((w, 12))) (obind (lget w.at_ p) (fun x => obind (lget w.at_ q) (fun x_1 => cnd (bnot (ieq x x_1)) (some ((w, 5))) (obind (lget w.where_ i) (fun x_2 => cnd (bnot (band (ieq x_2.kind 1) (ieq x_2.id p))) (some ((w, 5))) (obind (jO (w) (⟨1, q⟩)) (fun x_3 => cnd (ieq x_3 0) (some ((w, 9))) (obind (JV (w) i (⟨1, q⟩)) (fun x_4 => some ((x_4, 0)))))))))))))))
theorem qf8 : InlsOK Tryz.prog Gq rgive.H Gq.inl := .nil
theorem qa1 (w : Sx.World) (p : Int) (i : Int) (q : Int) : qx Gq rgive.H 48 Tryz.f48 [.agg (SN.cells .world w), .I p, .I i, .I q] (asR [.st .world, .I]) = K7 w p i q := by kernel_rfl
theorem qf9 : FnOK Tryz.prog 48 ∧ CtrOK Tryz.prog GL 48 (qj [.st .world, .I, .I, .I] [.st .world, .I] K7) :=
 qv (E := Gq) qM (.cons vb (.cons Z0 .nil)) qf8 j0 ja in48 (fun c _ => qi rfl c) (fun xs => qa1 xs.1 xs.2.1 xs.2.2.1 xs.2.2.2.1)
noncomputable def zK : Env := { ty := zv, ctr := [(84, qj [.st .world, .st .place] [.I] jO), (90, qj [.I, .I, .I, .I] [.I, .I, .I] JW)], inl := [(89, Tryz.f89)], eqs := [(65, [.I, .I])], glob := GL, L := ql, get := [], all := true }
noncomputable def rtrade.lr6.sp : SPat := ⟨183, [1, 3, 5, 6, 8, 9, 10], [.I, .ptr 0 0, .ptr 1 0, .ptr 2 0, .I, .vec 3, .I], [wBP, .cells [.I, .I, .I, .I, .I, .sl .I, .I, .sl .I, .I], .cells [.nilsl, .nilsl, .nilsl, .nilsl, .nilsl, .I, .I, .I, .nilsl, .nilsl, .nilsl], .vec .I], [], 0⟩
noncomputable def rtrade.lr6.es : List (Ex × SPat) := [(.ret, ⟨183, [6, 7], [.ptr 2 0, .I], [.dead, .dead, wBP], [], 0⟩), (.exit 0, ⟨183, [1, 3, 5, 6, 8, 9], [.I, .ptr 0 0, .ptr 1 0, .ptr 2 0, .I, .vec 3], [wBP, .cells [.I, .I, .I, .I, .I, .sl .I, .I, .sl .I, .I], .cells [.nilsl, .nilsl, .nilsl, .nilsl, .nilsl, .I, .I, .I, .nilsl, .nilsl, .nilsl], .vec .I], [], 0⟩)]
abbrev rtrade.lr6.X : Type := ((Int × (Int × (Int × Unit))) × (WTy × ((Int × (Int × (Int × (Int × (Int × ((List Int) × (Int × ((List Int) × (Int × Unit))))))))) × ((Int × (Int × (Int × Unit))) × ((List Int) × Unit)))))
abbrev rtrade.lr6.O : Type := (((Int × Unit) × (WTy × Unit)) ⊕ ((Int × (Int × Unit)) × (WTy × ((Int × (Int × (Int × (Int × (Int × ((List Int) × (Int × ((List Int) × (Int × Unit))))))))) × ((Int × (Int × (Int × Unit))) × ((List Int) × Unit))))))
noncomputable def rtrade.lr6.T : (rtrade.lr6.X → Option rtrade.lr6.O) → rtrade.lr6.X → Option rtrade.lr6.O := fun rec x =>
 let a2 := x.1.2.1; let a3 := x.1.2.2.1; let a4 := x.2.2.1.1; let a5 := x.2.2.1.2.1; let a6 := x.2.2.1.2.2.1; let a7 := x.2.2.1.2.2.2.1; let a8 := x.2.2.1.2.2.2.2.1; let a9 := x.2.2.1.2.2.2.2.2.1; let a10 := x.2.2.1.2.2.2.2.2.2.1; let a11 := x.2.2.1.2.2.2.2.2.2.2.1; let a12 := x.2.2.1.2.2.2.2.2.2.2.2.1; let a13 := x.2.2.2.1.1; let a14 := x.2.2.2.1.2.1; let a15 := x.2.2.2.1.2.2.1; let a16 := x.2.2.2.2.1; cnd (ilt a3 (qh a16)) (obind (cnd (ile 0 a3) (cnd (ilt a3 (qh a16)) (obind (lget a16 a3) (fun x_1 => cnd (ilt x_1 0) (some (((x.1.1, (a2, (a3, (true, ())))), (x.2.1, ((a4, (a5, (a6, (a7, (a8, (a9, (a10, (a11, (a12, ()))))))))), ((a13, (a14, (a15, ()))), (a16, ()))))))) (cnd (ile 0 a3) (cnd (ilt a3 (qh a16)) (obind (lget a16 a3) (fun x_2 => some (((x.1.1, (a2, (a3, (ile (qh x.2.1.2.2.2.2.2.2.2.2.2.2.1) x_2, ())))), (x.2.1, ((a4, (a5, (a6, (a7, (a8, (a9, (a10, (a11, (a12, ()))))))))), ((a13, (a14, (a15, ()))), (a16, ())))))))) none) none))) none) none : Option ((Int × (Int × (Int × (Bool × Unit)))) × (WTy × ((Int × (Int × (Int × (Int × (Int × ((List Int) × (Int × ((List Int) × (Int × Unit))))))))) × ((Int × (Int × (Int × Unit))) × ((List Int) × Unit)))))) (fun x_1 => let a1 := x_1.2.1; cnd x_1.1.2.2.2.1 (some (.inl ((3, ()), (a1, ())))) (rec ((x_1.1.1, (x_1.1.2.1, (wrap .i64 (iadd x_1.1.2.2.1 1), ()))), (a1, ((x_1.2.2.1.1, (x_1.2.2.1.2.1, (x_1.2.2.1.2.2.1, (x_1.2.2.1.2.2.2.1, (x_1.2.2.1.2.2.2.2.1, (x_1.2.2.1.2.2.2.2.2.1, (x_1.2.2.1.2.2.2.2.2.2.1, (x_1.2.2.1.2.2.2.2.2.2.2.1, (x_1.2.2.1.2.2.2.2.2.2.2.2.1, ()))))))))), ((x_1.2.2.2.1.1, (x_1.2.2.2.1.2.1, (x_1.2.2.2.1.2.2.1, ()))), (x_1.2.2.2.2.1, ())))))))) (some (.inr ((x.1.1, (a2, ())), (x.2.1, ((a4, (a5, (a6, (a7, (a8, (a9, (a10, (a11, (a12, ()))))))))), ((a13, (a14, (a15, ()))), (a16, ())))))))
noncomputable def rtrade.lr6 : Alt := ⟨rtrade.lr6.sp, rtrade.lr6.es, 100, rtrade.lr6.T⟩
noncomputable def rtrade.lr18.sp : SPat := ⟨183, [1, 3, 5, 6, 8, 9, 11, 12], [.I, .ptr 0 0, .ptr 1 0, .ptr 2 0, .I, .vec 3, .I, .I], [wBP, .cells [.I, .I, .I, .I, .I, .sl .I, .I, .sl .I, .I], .cells [.nilsl, .nilsl, .nilsl, .nilsl, .nilsl, .I, .I, .I, .nilsl, .nilsl, .nilsl], .vec .I], [], 0⟩
noncomputable def rtrade.lr18.es : List (Ex × SPat) := [(.ret, ⟨183, [6, 7], [.ptr 2 0, .I], [.dead, .dead, wBP], [], 0⟩), (.exit 4, ⟨183, [1, 3, 5, 6, 8, 9, 11], [.I, .ptr 0 0, .ptr 1 0, .ptr 2 0, .I, .vec 3, .I], [wBP, .cells [.I, .I, .I, .I, .I, .sl .I, .I, .sl .I, .I], .cells [.nilsl, .nilsl, .nilsl, .nilsl, .nilsl, .I, .I, .I, .nilsl, .nilsl, .nilsl], .vec .I], [], 0⟩)]
abbrev rtrade.lr18.X : Type := ((Int × (Int × (Int × (Int × Unit)))) × (WTy × ((Int × (Int × (Int × (Int × (Int × ((List Int) × (Int × ((List Int) × (Int × Unit))))))))) × ((Int × (Int × (Int × Unit))) × ((List Int) × Unit)))))
abbrev rtrade.lr18.O : Type := (((Int × Unit) × (WTy × Unit)) ⊕ ((Int × (Int × (Int × Unit))) × (WTy × ((Int × (Int × (Int × (Int × (Int × ((List Int) × (Int × ((List Int) × (Int × Unit))))))))) × ((Int × (Int × (Int × Unit))) × ((List Int) × Unit))))))
noncomputable def rtrade.lr18.T : (rtrade.lr18.X → Option rtrade.lr18.O) → rtrade.lr18.X → Option rtrade.lr18.O := fun rec x =>
 let a1 := x.1.2.1; let a2 := x.1.2.2.1; let a3 := x.1.2.2.2.1; let a4 := x.2.2.1.1; let a5 := x.2.2.1.2.1; let a6 := x.2.2.1.2.2.1; let a7 := x.2.2.1.2.2.2.1; let a8 := x.2.2.1.2.2.2.2.1; let a9 := x.2.2.1.2.2.2.2.2.1; let a10 := x.2.2.1.2.2.2.2.2.2.1; let a11 := x.2.2.1.2.2.2.2.2.2.2.1; let a12 := x.2.2.1.2.2.2.2.2.2.2.2.1; let a13 := x.2.2.2.1.1; let a14 := x.2.2.2.1.2.1; let a15 := x.2.2.2.1.2.2.1; let a16 := x.2.2.2.2.1; cnd (ilt a3 a2) (cnd (ile 0 a2) (cnd (ilt a2 (qh a16)) (obind (lget a16 a2) (fun x_5 => cnd (ile 0 a3) (cnd (ilt a3 (qh a16)) (obind (lget a16 a3) (fun x_6 => cnd (ieq x_5 x_6) (some (.inl ((13, ()), (x.2.1, ())))) (rec ((x.1.1, (a1, (a2, (wrap .i64 (iadd a3 1), ())))), (x.2.1, ((a4, (a5, (a6, (a7, (a8, (a9, (a10, (a11, (a12, ()))))))))), ((a13, (a14, (a15, ()))), (a16, ())))))))) (none)) (none))) (none)) (none)) (some (.inr ((x.1.1, (a1, (a2, ()))), (x.2.1, ((a4, (a5, (a6, (a7, (a8, (a9, (a10, (a11, (a12, ()))))))))), ((a13, (a14, (a15, ()))), (a16, ())))))))
noncomputable def rtrade.lr18 : Alt := ⟨rtrade.lr18.sp, rtrade.lr18.es, 100, rtrade.lr18.T⟩
noncomputable def rtrade.lr15.sp : SPat := ⟨183, [1, 3, 5, 6, 8, 9, 11], [.I, .ptr 0 0, .ptr 1 0, .ptr 2 0, .I, .vec 3, .I], [wBP, .cells [.I, .I, .I, .I, .I, .sl .I, .I, .sl .I, .I], .cells [.nilsl, .nilsl, .nilsl, .nilsl, .nilsl, .I, .I, .I, .nilsl, .nilsl, .nilsl], .vec .I], [], 0⟩
noncomputable def rtrade.lr15.es : List (Ex × SPat) := [(.ret, ⟨183, [6, 7], [.ptr 2 0, .I], [.dead, .dead, wBP], [], 0⟩), (.exit 2, ⟨183, [1, 3, 5, 6, 8, 9], [.I, .ptr 0 0, .ptr 1 0, .ptr 2 0, .I, .vec 3], [wBP, .cells [.I, .I, .I, .I, .I, .sl .I, .I, .sl .I, .I], .cells [.nilsl, .nilsl, .nilsl, .nilsl, .nilsl, .I, .I, .I, .nilsl, .nilsl, .nilsl], .vec .I], [], 0⟩)]
abbrev rtrade.lr15.X : Type := ((Int × (Int × (Int × Unit))) × (WTy × ((Int × (Int × (Int × (Int × (Int × ((List Int) × (Int × ((List Int) × (Int × Unit))))))))) × ((Int × (Int × (Int × Unit))) × ((List Int) × Unit)))))
abbrev rtrade.lr15.O : Type := (((Int × Unit) × (WTy × Unit)) ⊕ ((Int × (Int × Unit)) × (WTy × ((Int × (Int × (Int × (Int × (Int × ((List Int) × (Int × ((List Int) × (Int × Unit))))))))) × ((Int × (Int × (Int × Unit))) × ((List Int) × Unit))))))
noncomputable def rtrade.lr15.T : (rtrade.lr15.X → Option rtrade.lr15.O) → rtrade.lr15.X → Option rtrade.lr15.O := fun rec x =>
 let a1 := x.1.2.1; let a2 := x.1.2.2.1; let a3 := x.2.2.1.1; let a4 := x.2.2.1.2.1; let a5 := x.2.2.1.2.2.1; let a6 := x.2.2.1.2.2.2.1; let a7 := x.2.2.1.2.2.2.2.1; let a8 := x.2.2.1.2.2.2.2.2.1; let a9 := x.2.2.1.2.2.2.2.2.2.1; let a10 := x.2.2.1.2.2.2.2.2.2.2.1; let a11 := x.2.2.1.2.2.2.2.2.2.2.2.1; let a12 := x.2.2.2.1.1; let a13 := x.2.2.2.1.2.1; let a14 := x.2.2.2.1.2.2.1; let a15 := x.2.2.2.2.1; cnd (ilt a2 (qh a15)) (obind (qt rtrade.lr18.T ql (((x.1.1, (a1, (a2, (0, ())))), (x.2.1, ((a3, (a4, (a5, (a6, (a7, (a8, (a9, (a10, (a11, ()))))))))), ((a12, (a13, (a14, ()))), (a15, ()))))))) (fun x_5 => scase (x_5) (fun x_6 => some (.inl ((x_6.1.1, ()), (x_6.2.1, ())))) (fun x_6 => rec ((x_6.1.1, (x_6.1.2.1, (wrap .i64 (iadd x_6.1.2.2.1 1), ()))), (x_6.2.1, ((x_6.2.2.1.1, (x_6.2.2.1.2.1, (x_6.2.2.1.2.2.1, (x_6.2.2.1.2.2.2.1, (x_6.2.2.1.2.2.2.2.1, (x_6.2.2.1.2.2.2.2.2.1, (x_6.2.2.1.2.2.2.2.2.2.1, (x_6.2.2.1.2.2.2.2.2.2.2.1, (x_6.2.2.1.2.2.2.2.2.2.2.2.1, ()))))))))), ((x_6.2.2.2.1.1, (x_6.2.2.2.1.2.1, (x_6.2.2.2.1.2.2.1, ()))), (x_6.2.2.2.2.1, ())))))))) (some (.inr ((x.1.1, (a1, ())), (x.2.1, ((a3, (a4, (a5, (a6, (a7, (a8, (a9, (a10, (a11, ()))))))))), ((a12, (a13, (a14, ()))), (a15, ())))))))
noncomputable def rtrade.lr15 : Alt := ⟨rtrade.lr15.sp, rtrade.lr15.es, 200, rtrade.lr15.T⟩
noncomputable def rtrade.lr24.sp : SPat := ⟨183, [1, 3, 5, 6, 8, 9, 13, 14], [.I, .ptr 0 0, .ptr 1 0, .ptr 2 0, .I, .vec 3, .ptr 9 0, .I], [wBP, .cells [.I, .I, .I, .I, .I, .sl .I, .I, .sl .I, .I], .cells [.nilsl, .nilsl, .nilsl, .nilsl, .nilsl, .I, .I, .I, .nilsl, .nilsl, .nilsl], .vec .I, .dead, .dead, .vec .I, .vec .I, .vec (.st .place), .cells [.sl (.st .exits), .sl .I, .sl .I, .sl .I, .sl .bool, .I, .I, .I, .vec 6, .vec 7, .vec 8]], [], 0⟩
noncomputable def rtrade.lr24.es : List (Ex × SPat) := [(.ret, ⟨183, [6, 7], [.ptr 2 0, .I], [.dead, .dead, wBP], [], 0⟩), (.exit 6, ⟨183, [1, 3, 5, 6, 8, 13], [.I, .ptr 0 0, .ptr 1 0, .ptr 2 0, .I, .ptr 9 0], [wBP, .cells [.I, .I, .I, .I, .I, .sl .I, .I, .sl .I, .I], .cells [.nilsl, .nilsl, .nilsl, .nilsl, .nilsl, .I, .I, .I, .nilsl, .nilsl, .nilsl], .dead, .dead, .dead, .vec .I, .vec .I, .vec (.st .place), .cells [.sl (.st .exits), .sl .I, .sl .I, .sl .I, .sl .bool, .I, .I, .I, .vec 6, .vec 7, .vec 8]], [], 0⟩)]
abbrev rtrade.lr24.X : Type := ((Int × (Int × (Int × Unit))) × (WTy × ((Int × (Int × (Int × (Int × (Int × ((List Int) × (Int × ((List Int) × (Int × Unit))))))))) × ((Int × (Int × (Int × Unit))) × ((List Int) × ((List Int) × ((List Int) × ((List Sx.Place) × (((List Sx.Exits) × ((List Int) × ((List Int) × ((List Int) × ((List Bool) × (Int × (Int × (Int × Unit)))))))) × Unit)))))))))
abbrev rtrade.lr24.O : Type := (((Int × Unit) × (WTy × Unit)) ⊕ ((Int × (Int × Unit)) × (WTy × ((Int × (Int × (Int × (Int × (Int × ((List Int) × (Int × ((List Int) × (Int × Unit))))))))) × ((Int × (Int × (Int × Unit))) × ((List Int) × ((List Int) × ((List Sx.Place) × (((List Sx.Exits) × ((List Int) × ((List Int) × ((List Int) × ((List Bool) × (Int × (Int × (Int × Unit)))))))) × Unit)))))))))
noncomputable def rtrade.lr24.T : (rtrade.lr24.X → Option rtrade.lr24.O) → rtrade.lr24.X → Option rtrade.lr24.O := fun rec x =>
 let a5 := x.1.2.1; let a6 := x.1.2.2.1; let a7 := x.2.2.1.1; let a8 := x.2.2.1.2.1; let a9 := x.2.2.1.2.2.1; let a10 := x.2.2.1.2.2.2.1; let a11 := x.2.2.1.2.2.2.2.1; let a12 := x.2.2.1.2.2.2.2.2.1; let a13 := x.2.2.1.2.2.2.2.2.2.1; let a14 := x.2.2.1.2.2.2.2.2.2.2.1; let a15 := x.2.2.1.2.2.2.2.2.2.2.2.1; let a16 := x.2.2.2.1.1; let a17 := x.2.2.2.1.2.1; let a18 := x.2.2.2.1.2.2.1; let a19 := x.2.2.2.2.1; let a20 := x.2.2.2.2.2.1; let a21 := x.2.2.2.2.2.2.1; let a22 := x.2.2.2.2.2.2.2.1; let a23 := x.2.2.2.2.2.2.2.2.1.1; let a24 := x.2.2.2.2.2.2.2.2.1.2.1; let a25 := x.2.2.2.2.2.2.2.2.1.2.2.1; let a26 := x.2.2.2.2.2.2.2.2.1.2.2.2.1; let a27 := x.2.2.2.2.2.2.2.2.1.2.2.2.2.1; let a28 := x.2.2.2.2.2.2.2.2.1.2.2.2.2.2.1; let a29 := x.2.2.2.2.2.2.2.2.1.2.2.2.2.2.2.1; let a30 := x.2.2.2.2.2.2.2.2.1.2.2.2.2.2.2.2.1; cnd (ilt a6 (qh a19)) (obind (cnd (ile (qh a12) a6) (some (((x.1.1, (a5, (a6, (a5, (x.1.1, ()))))), (x.2.1, ((a7, (a8, (a9, (a10, (a11, (a12, (a13, (a14, (a15, ()))))))))), ((a16, (a17, (a18, ()))), (a19, (a20, (a21, (a22, ((a23, (a24, (a25, (a26, (a27, (a28, (a29, (a30, ())))))))), ()))))))))))) (some (((x.1.1, (a5, (a6, (x.1.1, (a5, ()))))), (x.2.1, ((a7, (a8, (a9, (a10, (a11, (a12, (a13, (a14, (a15, ()))))))))), ((a16, (a17, (a18, ()))), (a19, (a20, (a21, (a22, ((a23, (a24, (a25, (a26, (a27, (a28, (a29, (a30, ())))))))), ()))))))))))) : Option ((Int × (Int × (Int × (Int × (Int × Unit))))) × (WTy × ((Int × (Int × (Int × (Int × (Int × ((List Int) × (Int × ((List Int) × (Int × Unit))))))))) × ((Int × (Int × (Int × Unit))) × ((List Int) × ((List Int) × ((List Int) × ((List Sx.Place) × (((List Sx.Exits) × ((List Int) × ((List Int) × ((List Int) × ((List Bool) × (Int × (Int × (Int × Unit)))))))) × Unit)))))))))) (fun x_7 => let a1 := x_7.1.2.2.1; let a2 := x_7.2.1; let a3 := x_7.2.2.2.2.1; let a4 := x_7.2.2.2.2.2.2.2.1; cnd (ile 0 a1) (cnd (ilt a1 (qh a3)) (obind (lget a3 a1) (fun x_8 => obind (lget x_7.2.1.2.2.2.2.2.2.2.2.2.2.1 x_8) (fun x_9 => cnd (bnot (band (ieq x_9.kind 1) (ieq x_9.id x_7.1.2.2.2.1))) (some (.inl ((5, ()), (a2, ())))) (cnd (ile 0 a1) (cnd (ilt a1 (qh a3)) (obind (lget a3 a1) (fun x_10 => cnd (ile 0 x_10) (cnd (ilt x_10 (qh a4)) (obind (lget a4 x_10) (fun x_11 => rec ((x_7.1.1, (x_7.1.2.1, (wrap .i64 (iadd a1 1), ()))), (a2, ((x_7.2.2.1.1, (x_7.2.2.1.2.1, (x_7.2.2.1.2.2.1, (x_7.2.2.1.2.2.2.1, (x_7.2.2.1.2.2.2.2.1, (x_7.2.2.1.2.2.2.2.2.1, (x_7.2.2.1.2.2.2.2.2.2.1, (x_7.2.2.1.2.2.2.2.2.2.2.1, (x_7.2.2.1.2.2.2.2.2.2.2.2.1, ()))))))))), ((x_7.2.2.2.1.1, (x_7.2.2.2.1.2.1, (x_7.2.2.2.1.2.2.1, ()))), (a3, (x_7.2.2.2.2.2.1, (x_7.2.2.2.2.2.2.1, (lset a4 x_10 (⟨1, x_7.1.2.2.2.2.1⟩), ((x_7.2.2.2.2.2.2.2.2.1.1, (x_7.2.2.2.2.2.2.2.2.1.2.1, (x_7.2.2.2.2.2.2.2.2.1.2.2.1, (x_7.2.2.2.2.2.2.2.2.1.2.2.2.1, (x_7.2.2.2.2.2.2.2.2.1.2.2.2.2.1, (x_7.2.2.2.2.2.2.2.2.1.2.2.2.2.2.1, (x_7.2.2.2.2.2.2.2.2.1.2.2.2.2.2.2.1, (x_7.2.2.2.2.2.2.2.2.1.2.2.2.2.2.2.2.1, ())))))))), ()))))))))))) (none)) (none))) (none)) (none))))) (none)) (none))) (some (.inr ((x.1.1, (a5, ())), (x.2.1, ((a7, (a8, (a9, (a10, (a11, (a12, (a13, (a14, (a15, ()))))))))), ((a16, (a17, (a18, ()))), (a20, (a21, (a22, ((a23, (a24, (a25, (a26, (a27, (a28, (a29, (a30, ())))))))), ()))))))))))
noncomputable def rtrade.lr24 : Alt := ⟨rtrade.lr24.sp, rtrade.lr24.es, 100, rtrade.lr24.T⟩
noncomputable def rtrade.jr4 : List Join := [⟨⟨183, [1, 3, 5, 6, 8, 9], [.I, .ptr 0 0, .ptr 1 0, .ptr 2 0, .I, .vec 3], [wBP, .cells [.I, .I, .I, .I, .I, .sl .I, .I, .sl .I, .I], .cells [.nilsl, .nilsl, .nilsl, .nilsl, .nilsl, .I, .I, .I, .nilsl, .nilsl, .nilsl], .vec .I], [], 0⟩, true, [(.normal, ⟨183, [1, 3, 5, 6, 8, 9, 37], [.I, .ptr 0 0, .ptr 1 0, .ptr 2 0, .I, .vec 3, .bool], [wBP, .cells [.I, .I, .I, .I, .I, .sl .I, .I, .sl .I, .I], .cells [.nilsl, .nilsl, .nilsl, .nilsl, .nilsl, .I, .I, .I, .nilsl, .nilsl, .nilsl], .vec .I], [], 0⟩)]⟩]
noncomputable def rtrade.jr9 : List Join := [⟨⟨183, [1, 3, 5, 6, 8, 9, 10], [.I, .ptr 0 0, .ptr 1 0, .ptr 2 0, .I, .vec 3, .I], [wBP, .cells [.I, .I, .I, .I, .I, .sl .I, .I, .sl .I, .I], .cells [.nilsl, .nilsl, .nilsl, .nilsl, .nilsl, .I, .I, .I, .nilsl, .nilsl, .nilsl], .vec .I], [], 0⟩, true, [(.normal, ⟨183, [1, 3, 5, 6, 8, 9, 10, 59], [.I, .ptr 0 0, .ptr 1 0, .ptr 2 0, .I, .vec 3, .I, .bool], [wBP, .cells [.I, .I, .I, .I, .I, .sl .I, .I, .sl .I, .I], .cells [.nilsl, .nilsl, .nilsl, .nilsl, .nilsl, .I, .I, .I, .nilsl, .nilsl, .nilsl], .vec .I], [], 0⟩)]⟩]
noncomputable def rtrade.jr31 : List Join := [⟨⟨183, [1, 3, 5, 6, 8, 9, 13, 14, 15, 16], [.I, .ptr 0 0, .ptr 1 0, .ptr 2 0, .I, .vec 3, .ptr 9 0, .I, .I, .I], [wBP, .cells [.I, .I, .I, .I, .I, .sl .I, .I, .sl .I, .I], .cells [.nilsl, .nilsl, .nilsl, .nilsl, .nilsl, .I, .I, .I, .nilsl, .nilsl, .nilsl], .vec .I, .dead, .dead, .vec .I, .vec .I, .vec (.st .place), .cells [.sl (.st .exits), .sl .I, .sl .I, .sl .I, .sl .bool, .I, .I, .I, .vec 6, .vec 7, .vec 8]], [], 0⟩, true, [(.normal, ⟨183, [1, 3, 5, 6, 8, 9, 13, 14, 15, 16], [.I, .ptr 0 0, .ptr 1 0, .ptr 2 0, .I, .vec 3, .ptr 9 0, .I, .I, .I], [wBP, .cells [.I, .I, .I, .I, .I, .sl .I, .I, .sl .I, .I], .cells [.nilsl, .nilsl, .nilsl, .nilsl, .nilsl, .I, .I, .I, .nilsl, .nilsl, .nilsl], .vec .I, .dead, .dead, .vec .I, .vec .I, .vec (.st .place), .cells [.sl (.st .exits), .sl .I, .sl .I, .sl .I, .sl .bool, .I, .I, .I, .vec 6, .vec 7, .vec 8]], [], 0⟩)]⟩]
noncomputable def rtrade.jr35 : List Join := [⟨⟨183, [1, 3, 5, 6, 8, 13], [.I, .ptr 0 0, .ptr 1 0, .ptr 2 0, .I, .ptr 9 0], [wBP, .cells [.I, .I, .I, .I, .I, .sl .I, .I, .sl .I, .I], .cells [.nilsl, .nilsl, .nilsl, .nilsl, .nilsl, .I, .I, .I, .nilsl, .nilsl, .nilsl], .dead, .dead, .dead, .vec .I, .vec .I, .vec (.st .place), .cells [.sl (.st .exits), .sl .I, .sl .I, .sl .I, .sl .bool, .I, .I, .I, .vec 6, .vec 7, .vec 8]], [], 0⟩, true, [(.normal, ⟨183, [1, 3, 5, 6, 8, 13, 147], [.I, .ptr 0 0, .ptr 1 0, .ptr 2 0, .I, .ptr 9 0, .bool], [wBP, .cells [.I, .I, .I, .I, .I, .sl .I, .I, .sl .I, .I], .cells [.nilsl, .nilsl, .nilsl, .nilsl, .nilsl, .I, .I, .I, .nilsl, .nilsl, .nilsl], .dead, .dead, .dead, .vec .I, .vec .I, .vec (.st .place), .cells [.sl (.st .exits), .sl .I, .sl .I, .sl .I, .sl .bool, .I, .I, .I, .vec 6, .vec 7, .vec 8]], [], 0⟩)]⟩]
noncomputable def rtrade.H : Hints := ⟨[(49, [(6, [rtrade.lr6]), (18, [rtrade.lr18]), (15, [rtrade.lr15]), (24, [rtrade.lr24])])], [(49, [(4, rtrade.jr4), (9, rtrade.jr9), (31, rtrade.jr31), (35, rtrade.jr35)])]⟩
noncomputable def Jg (w : Sx.World) (p : Int) (c : Cmd) : Option (Sx.World × Int) := (fun z => (qq (qq (qq z z) z) (qq (qq (qq z z) z) (qq z z)))) (cnd (ilt (imul (iadd 0 (qh c.gives)) 8) 140737488355329) (cnd (ilt (imul (iadd (qh c.gives) (qh c.wants)) 8) 140737488355329) (obind (cnd (ilt c.who 0) (some (((p, (c.who, (true, ()))), ((wTo w), ((c.kind, (c.dir, (c.item, (c.box, (c.who, (c.gives, (c.pay, (c.wants, (c.fee, ()))))))))), ((0, (0, (0, ()))), (lapp c.gives c.wants, ()))))))) (some (((p, (c.who, (ile (qh w.at_) c.who, ()))), ((wTo w), ((c.kind, (c.dir, (c.item, (c.box, (c.who, (c.gives, (c.pay, (c.wants, (c.fee, ()))))))))), ((0, (0, (0, ()))), (lapp c.gives c.wants, ()))))))) : Option ((Int × (Int × (Bool × Unit))) × (WTy × ((Int × (Int × (Int × (Int × (Int × ((List Int) × (Int × ((List Int) × (Int × Unit))))))))) × ((Int × (Int × (Int × Unit))) × ((List Int) × Unit)))))) (fun x => cnd x.1.2.2.1 (some (((wOf x.2.1), 3))) (obind (qt rtrade.lr6.T ql (((x.1.1, (x.1.2.1, (0, ()))), (x.2.1, ((x.2.2.1.1, (x.2.2.1.2.1, (x.2.2.1.2.2.1, (x.2.2.1.2.2.2.1, (x.2.2.1.2.2.2.2.1, (x.2.2.1.2.2.2.2.2.1, (x.2.2.1.2.2.2.2.2.2.1, (x.2.2.1.2.2.2.2.2.2.2.1, (x.2.2.1.2.2.2.2.2.2.2.2.1, ()))))))))), ((x.2.2.2.1.1, (x.2.2.2.1.2.1, (x.2.2.2.1.2.2.1, ()))), (x.2.2.2.2.1, ()))))))) (fun x_1 => scase x_1 (fun x_2 => some (((wOf x_2.2.1), x_2.1.1))) (fun x_2 => let a38 := x_2.1.1; let a39 := x_2.1.2.1; let a40 := x_2.2.1; let a41 := x_2.2.1.2.2.2.2.2.2.2.2.1; cnd (ieq a38 a39) (some (((wOf a40), 12))) (obind (lget a41 a38) (fun x_3 => obind (lget a41 a39) (fun x_4 => cnd (bnot (ieq x_3 x_4)) (some (((wOf a40), 5))) (obind (qt rtrade.lr15.T ql (((a38, (a39, (0, ()))), (a40, ((x_2.2.2.1.1, (x_2.2.2.1.2.1, (x_2.2.2.1.2.2.1, (x_2.2.2.1.2.2.2.1, (x_2.2.2.1.2.2.2.2.1, (x_2.2.2.1.2.2.2.2.2.1, (x_2.2.2.1.2.2.2.2.2.2.1, (x_2.2.2.1.2.2.2.2.2.2.2.1, (x_2.2.2.1.2.2.2.2.2.2.2.2.1, ()))))))))), ((x_2.2.2.2.1.1, (x_2.2.2.2.1.2.1, (x_2.2.2.2.1.2.2.1, ()))), (x_2.2.2.2.2.1, ()))))))) (fun x_5 => scase x_5 (fun x_6 => some (((wOf x_6.2.1), x_6.1.1))) (fun x_6 => let a35 := x_6.2.1.2.2.2.2.2.2.2.2.1; let a36 := x_6.2.1.2.2.2.2.2.2.2.2.2.1; let a37 := x_6.2.1.2.2.2.2.2.2.2.2.2.2.1; cnd (ilt (imul (iadd 0 (qh a35)) 8) 140737488355329) (cnd (ilt (imul (iadd 0 (qh a36)) 8) 140737488355329) (cnd (ilt (imul (iadd 0 (qh a37)) 16) 140737488355329) (obind (qt rtrade.lr24.T ql (((x_6.1.1, (x_6.1.2.1, (0, ()))), (x_6.2.1, ((x_6.2.2.1.1, (x_6.2.2.1.2.1, (x_6.2.2.1.2.2.1, (x_6.2.2.1.2.2.2.1, (x_6.2.2.1.2.2.2.2.1, (x_6.2.2.1.2.2.2.2.2.1, (x_6.2.2.1.2.2.2.2.2.2.1, (x_6.2.2.1.2.2.2.2.2.2.2.1, (x_6.2.2.1.2.2.2.2.2.2.2.2.1, ()))))))))), ((x_6.2.2.2.1.1, (x_6.2.2.2.1.2.1, (x_6.2.2.2.1.2.2.1, ()))), (x_6.2.2.2.2.1, (a35, (a36, (a37, ((x_6.2.1.1, (x_6.2.1.2.1, (x_6.2.1.2.2.1, (x_6.2.1.2.2.2.1, (x_6.2.1.2.2.2.2.1, (x_6.2.1.2.2.2.2.2.1, (x_6.2.1.2.2.2.2.2.2.1, (x_6.2.1.2.2.2.2.2.2.2.1, ())))))))), ()))))))))))) (fun x_7 => scase x_7 (fun x_8 => some (((wOf x_8.2.1), x_8.1.1))) (fun x_8 => let a8 := x_8.1.1; let a9 := x_8.1.2.1; let a10 := x_8.2.1; let a11 := x_8.2.2.1.1; let a12 := x_8.2.2.1.2.1; let a13 := x_8.2.2.1.2.2.1; let a14 := x_8.2.2.1.2.2.2.1; let a15 := x_8.2.2.1.2.2.2.2.1; let a16 := x_8.2.2.1.2.2.2.2.2.1; let a17 := x_8.2.2.1.2.2.2.2.2.2.1; let a18 := x_8.2.2.1.2.2.2.2.2.2.2.1; let a19 := x_8.2.2.1.2.2.2.2.2.2.2.2.1; let a20 := x_8.2.2.2.1.1; let a21 := x_8.2.2.2.1.2.1; let a22 := x_8.2.2.2.1.2.2.1; let a23 := x_8.2.2.2.2.1; let a24 := x_8.2.2.2.2.2.1; let a25 := x_8.2.2.2.2.2.2.1; let a26 := x_8.2.2.2.2.2.2.2.1; let a27 := x_8.2.2.2.2.2.2.2.1.1; let a28 := x_8.2.2.2.2.2.2.2.1.2.1; let a29 := x_8.2.2.2.2.2.2.2.1.2.2.1; let a30 := x_8.2.2.2.2.2.2.2.1.2.2.2.1; let a31 := x_8.2.2.2.2.2.2.2.1.2.2.2.2.1; let a32 := x_8.2.2.2.2.2.2.2.1.2.2.2.2.2.1; let a33 := x_8.2.2.2.2.2.2.2.1.2.2.2.2.2.2.1; let a34 := x_8.2.2.2.2.2.2.2.1.2.2.2.2.2.2.2.1; obind (obind (jO (⟨(dOf a26), a23, a24, a25⟩) (⟨1, a8⟩)) (fun x_9 => cnd (ilt x_9 0) (some (((a8, (a9, (true, ()))), (a10, ((a11, (a12, (a13, (a14, (a15, (a16, (a17, (a18, (a19, ()))))))))), ((a20, (a21, (a22, ()))), (a23, (a24, (a25, ((a27, (a28, (a29, (a30, (a31, (a32, (a33, (a34, ())))))))), ())))))))))) (obind (jO (⟨(dOf a26), a23, a24, a25⟩) (⟨1, a9⟩)) (fun x_10 => some (((a8, (a9, (ilt x_10 0, ()))), (a10, ((a11, (a12, (a13, (a14, (a15, (a16, (a17, (a18, (a19, ()))))))))), ((a20, (a21, (a22, ()))), (a23, (a24, (a25, ((a27, (a28, (a29, (a30, (a31, (a32, (a33, (a34, ())))))))), ())))))))))))) : Option ((Int × (Int × (Bool × Unit))) × (WTy × ((Int × (Int × (Int × (Int × (Int × ((List Int) × (Int × ((List Int) × (Int × Unit))))))))) × ((Int × (Int × (Int × Unit))) × ((List Int) × ((List Int) × ((List Sx.Place) × (((List Sx.Exits) × ((List Int) × ((List Int) × ((List Int) × ((List Bool) × (Int × (Int × (Int × Unit)))))))) × Unit))))))))) (fun x_9 => let a3 := x_9.1.1; let a4 := x_9.1.2.1; let a5 := x_9.2.1; let a6 := x_9.2.1.2.2.2.2.2.2.2.2.2.1; let a7 := x_9.2.2.2.2.2.1; cnd x_9.1.2.2.1 (some (((wOf a5), 9))) (obind (lget a6 a3) (fun x_10 => obind (lget a6 a4) (fun x_11 => obind (JW x_10 x_11 x_9.2.2.1.2.2.2.2.2.2.1 x_9.2.2.1.2.2.2.2.2.2.2.2.1) (fun x_12 => let a1 := x_12.1; let a2 := x_12.2.2; cnd (bnot (ieq a2 0)) (some (((wOf a5), a2))) (cnd (ile 0 a3) (cnd (ilt a3 (qh a7)) (obind (lget a7 a3) (fun x_13 => cnd (ile 0 a4) (cnd (ilt a4 (qh (lset a7 a3 a1))) (obind (lget (lset a7 a3 a1) a4) (fun x_14 => some ((⟨(dOf x_9.2.2.2.2.2.2.2.1), x_9.2.2.2.2.1, lset (lset a7 a3 a1) a4 x_12.2.1, x_9.2.2.2.2.2.2.1⟩, 0)))) none) none)) none) none))))))))) none) none) none))))))))))) none) none)
theorem Dn : Alt.Round zK rtrade.H 49 (qG rtrade.H 49 Tryz.f49 0) rtrade.lr6 := by intro rec x; kernel_rfl
theorem Dm : Alt.Round zK rtrade.H 49 (qG rtrade.H 49 Tryz.f49 1) rtrade.lr15 := by intro rec x; kernel_rfl
theorem Dl : Alt.Round zK rtrade.H 49 (qG rtrade.H 49 Tryz.f49 2) rtrade.lr18 := by intro rec x; kernel_rfl
theorem Dk : Alt.Round zK rtrade.H 49 (qG rtrade.H 49 Tryz.f49 3) rtrade.lr24 := by intro rec x; kernel_rfl
theorem Yw : ∀ c, Tryz.f49.body = some c → ToldC zK rtrade.H 49 c := qI [rtrade.lr6, rtrade.lr15, rtrade.lr18, rtrade.lr24] (by kernel_rfl) (fun i hi => match i, hi with | 0, _ => Dn | 1, _ => Dm | 2, _ => Dl | 3, _ => Dk | n + 4, h => absurd h (by simp))
theorem MY : InlsOK Tryz.prog zK rtrade.H zK.inl := .cons in89 (fun c _ => qi rfl c) .nil
theorem RF (w : Sx.World) (p : Int) (c : Cmd) : qx zK rtrade.H 49 Tryz.f49 [.agg (SN.cells .world w), .I p, .agg (SN.cells .cmd c)] (asR [.st .world, .I]) = Jg w p c := by kernel_rfl
theorem MZ : FnOK Tryz.prog 49 ∧ CtrOK Tryz.prog GL 49 (qj [.st .world, .I, .st .cmd] [.st .world, .I] Jg) :=
 qv (E := zK) qM (.cons vb (.cons qfm .nil)) MY j0 ja in49 Yw (fun xs => RF xs.1 xs.2.1 xs.2.2.1)
noncomputable def J5 : Env := { ty := zv, ctr := [], inl := [], eqs := [(65, [.I, .I])], glob := GL, L := ql, get := [] }
noncomputable def rpres.lr3.sp : SPat := ⟨26, [1, 2, 5, 6], [.I, .ptr 0 0, .vec 2, .I], [wBP, .dead, .vec .I], [], 0⟩
noncomputable def rpres.lr3.es : List (Ex × SPat) := [(.exit 0, ⟨26, [5], [.vec 2], [.dead, .dead, .vec .I], [], 0⟩)]
abbrev rpres.lr3.X : Type := ((Int × (Int × Unit)) × (WTy × ((List Int) × Unit)))
abbrev rpres.lr3.O : Type := (Unit × ((List Int) × Unit))
noncomputable def rpres.lr3.T : (rpres.lr3.X → Option rpres.lr3.O) → rpres.lr3.X → Option rpres.lr3.O := fun rec x =>
 let a1 := x.1.2.1; let a2 := x.2.1.2.2.2.2.2.2.2.2.1; let a3 := x.2.2.1; cnd (ilt a1 (qh a2)) (obind (lget a2 a1) (fun x_1 => cnd (ieq x_1 x.1.1) (cnd (ilt (imul (iadd (qh a3) 1) 8) 140737488355329) (rec ((x.1.1, (wrap .i64 (iadd a1 1), ())), (x.2.1, (lapp a3 (([a1] : List Int)), ())))) (none)) (rec ((x.1.1, (wrap .i64 (iadd a1 1), ())), (x.2.1, (a3, ())))))) (some ((), (a3, ())))
noncomputable def rpres.lr3 : Alt := ⟨rpres.lr3.sp, rpres.lr3.es, 100, rpres.lr3.T⟩
noncomputable def rpres.H : Hints := ⟨[(91, [(3, [rpres.lr3])])], []⟩
noncomputable def K4 (w : Sx.World) (r : Int) : Option (List Int) := obind (qt rpres.lr3.T ql (((r, (0, ())), ((wTo w), (([] : List Int), ()))))) (fun x => some x.2.1)
theorem RK : Alt.Round J5 rpres.H 91 (qG rpres.H 91 Tryz.f91 0) rpres.lr3 := by intro rec x; kernel_rfl
theorem Du : ∀ c, Tryz.f91.body = some c → ToldC J5 rpres.H 91 c := qI [rpres.lr3] (by kernel_rfl) (fun i hi => match i, hi with | 0, _ => RK | n + 1, h => absurd h (by simp))
theorem qfs : InlsOK Tryz.prog J5 rpres.H J5.inl := .nil
theorem qaj (w : Sx.World) (r : Int) : qx J5 rpres.H 91 Tryz.f91 [.agg (SN.cells .world w), .I r] (asR [.sl .I]) = K4 w r := by kernel_rfl
theorem qft : FnOK Tryz.prog 91 ∧ CtrOK Tryz.prog GL 91 (qj [.st .world, .I] [.sl .I] K4) :=
 qv (E := J5) qM (.nil) qfs j0 ja in91 Du (fun xs => qaj xs.1 xs.2.1)
noncomputable def Gn : Env := { ty := zv, ctr := [(91, qj [.st .world, .I] [.sl .I] K4), (92, qj [.st .world, .st .place] [.sl (.st .seen)] vH)], inl := [], eqs := [(65, [.I, .I])], glob := GL, L := ql, get := [] }
noncomputable def rlook.H : Hints := ⟨[], []⟩
noncomputable def K5 (w : Sx.World) (p : Int) : Option (Reply) := obind (lget w.at_ p) (fun x => obind (lget w.at_ p) (fun x_1 => obind (K4 (w) x_1) (fun x_2 => obind (lget w.at_ p) (fun x_3 => obind (vH (w) (⟨0, x_3⟩)) (fun x_4 => some (⟨0, 9, x, x_2, x_4, 0⟩))))))
theorem qf1 : InlsOK Tryz.prog Gn rlook.H Gn.inl := .nil
theorem qap (w : Sx.World) (p : Int) : qx Gn rlook.H 50 Tryz.f50 [.agg (SN.cells .world w), .I p] (asR [.st .reply]) = K5 w p := by kernel_rfl
theorem qf2 : FnOK Tryz.prog 50 ∧ CtrOK Tryz.prog GL 50 (qj [.st .world, .I] [.st .reply] K5) :=
 qv (E := Gn) qM (.cons qft (.cons GV .nil)) qf1 j0 ja in50 (fun c _ => qi rfl c) (fun xs => qap xs.1 xs.2.1)
noncomputable def Ro : Env := { ty := zv, ctr := [(92, qj [.st .world, .st .place] [.sl (.st .seen)] vH)], inl := [], eqs := [(65, [.I, .I])], glob := GL, L := ql, get := [] }
noncomputable def rown.H : Hints := ⟨[], []⟩
noncomputable def YX (w : Sx.World) (p : Int) : Option (Reply) := obind (lget w.coins p) (fun x => obind (vH (w) (⟨1, p⟩)) (fun x_1 => some (⟨0, 10, 0, ([] : List Int), x_1, x⟩)))
theorem qi9 : InlsOK Tryz.prog Ro rown.H Ro.inl := .nil
theorem qfv (w : Sx.World) (p : Int) : qx Ro rown.H 51 Tryz.f51 [.agg (SN.cells .world w), .I p] (asR [.st .reply]) = YX w p := by kernel_rfl
theorem qja : FnOK Tryz.prog 51 ∧ CtrOK Tryz.prog GL 51 (qj [.st .world, .I] [.st .reply] YX) :=
 qv (E := Ro) qM (.cons GV .nil) qi9 j0 ja in51 (fun c _ => qi rfl c) (fun xs => qfv xs.1 xs.2.1)
noncomputable def qex : Env := { ty := zv, ctr := [(41, qj [.st .cmd] [.bool] JY), (42, qj [.st .world, .I, .I] [.st .world, .I, .I] Ua), (43, qj [.st .world, .I, .I, .I] [.st .world, .I, .I] K3), (44, qj [.st .world, .I, .I] [.st .world, .I] K8), (45, qj [.st .world, .I, .I] [.st .world, .I] Jj), (46, qj [.st .world, .I, .I, .I] [.st .world, .I] Jh), (47, qj [.st .world, .I, .I, .I] [.st .world, .I] gk), (48, qj [.st .world, .I, .I, .I] [.st .world, .I] K7), (49, qj [.st .world, .I, .st .cmd] [.st .world, .I] Jg), (50, qj [.st .world, .I] [.st .reply] K5), (51, qj [.st .world, .I] [.st .reply] YX)], inl := [], eqs := [(65, [.I, .I])], glob := GL, L := ql, get := [] }
noncomputable def rdo.H : Hints := ⟨[], []⟩
noncomputable def rdoF (w : Sx.World) (p : Int) (c : Cmd) : Option (Sx.World × Reply) := obind (JY (c)) (fun x => cnd (bnot x) (some ((w, ⟨2, 0, 0, ([] : List Int), [], 0⟩))) (cnd (ieq c.kind 1) (obind (Ua (w) p c.dir) (fun x_1 => let a1 := x_1.2.2; cnd (bnot (ieq a1 0)) (some ((w, ⟨a1, 0, 0, ([] : List Int), [], 0⟩))) (some ((x_1.1, ⟨0, c.kind, x_1.2.1, ([] : List Int), [], 0⟩))))) (cnd (ieq c.kind 2) (obind (K3 (w) p c.who c.dir) (fun x_1 => let a2 := x_1.2.2; cnd (bnot (ieq a2 0)) (some ((w, ⟨a2, 0, 0, ([] : List Int), [], 0⟩))) (some ((x_1.1, ⟨0, c.kind, x_1.2.1, ([] : List Int), [], 0⟩))))) (cnd (ieq c.kind 3) (obind (K8 (w) p c.item) (fun x_1 => cnd (bnot (ieq x_1.2 0)) (some ((w, ⟨x_1.2, 0, 0, ([] : List Int), [], 0⟩))) (some ((x_1.1, ⟨0, c.kind, 0, ([] : List Int), [], 0⟩))))) (cnd (ieq c.kind 4) (obind (Jj (w) p c.item) (fun x_1 => cnd (bnot (ieq x_1.2 0)) (some ((w, ⟨x_1.2, 0, 0, ([] : List Int), [], 0⟩))) (some ((x_1.1, ⟨0, c.kind, 0, ([] : List Int), [], 0⟩))))) (cnd (ieq c.kind 5) (obind (Jh (w) p c.item c.box) (fun x_1 => cnd (bnot (ieq x_1.2 0)) (some ((w, ⟨x_1.2, 0, 0, ([] : List Int), [], 0⟩))) (some ((x_1.1, ⟨0, c.kind, 0, ([] : List Int), [], 0⟩))))) (cnd (ieq c.kind 6) (obind (gk (w) p c.item c.box) (fun x_1 => cnd (bnot (ieq x_1.2 0)) (some ((w, ⟨x_1.2, 0, 0, ([] : List Int), [], 0⟩))) (some ((x_1.1, ⟨0, c.kind, 0, ([] : List Int), [], 0⟩))))) (cnd (ieq c.kind 7) (obind (K7 (w) p c.item c.who) (fun x_1 => cnd (bnot (ieq x_1.2 0)) (some ((w, ⟨x_1.2, 0, 0, ([] : List Int), [], 0⟩))) (some ((x_1.1, ⟨0, c.kind, 0, ([] : List Int), [], 0⟩))))) (cnd (ieq c.kind 8) (obind (Jg (w) p (c)) (fun x_1 => cnd (bnot (ieq x_1.2 0)) (some ((w, ⟨x_1.2, 0, 0, ([] : List Int), [], 0⟩))) (some ((x_1.1, ⟨0, c.kind, 0, ([] : List Int), [], 0⟩))))) (cnd (ieq c.kind 9) (obind (K5 (w) p) (fun x_1 => some ((w, x_1)))) (cnd (ieq c.kind 10) (obind (YX (w) p) (fun x_1 => some ((w, x_1)))) (some ((w, ⟨0, c.kind, 0, ([] : List Int), [], 0⟩))))))))))))))
theorem rdo_inl : InlsOK Tryz.prog qex rdo.H qex.inl := .nil
theorem qjp (w : Sx.World) (p : Int) (c : Cmd) : qx qex rdo.H 22 Tryz.f22 [.agg (SN.cells .world w), .I p, .agg (SN.cells .cmd c)] (asR [.st .world, .st .reply]) = rdoF w p c := by kernel_rfl
theorem rdo_ctr : FnOK Tryz.prog 22 ∧ CtrOK Tryz.prog GL 22 (qj [.st .world, .I, .st .cmd] [.st .world, .st .reply] rdoF) :=
 qv (E := qex) qM (.cons qgn (.cons qfz (.cons qfr (.cons qgb (.cons qbb (.cons qah (.cons RH (.cons qf9 (.cons MZ (.cons qf2 (.cons qja .nil))))))))))) rdo_inl j0 ja in22 (fun c _ => qi rfl c) (fun xs => qjp xs.1 xs.2.1 xs.2.2.1)
end Go.Sx
