/-
  replies and sessions, walked (printed by wip/dev/gen2.py)
-/
import Derived.Test.YtcpildkbkjeijaaGreatDoorSyN
import Derived.Test.YtcpildkbkjeijaaGreatDoorProg
import Derived.KernelRfl
set_option linter.unusedVariables false
set_option linter.unusedSimpArgs false
namespace Go.Sx
open Go Go.Proofs
def tyLO : List (Nat × TyI) :=
  [(3, ⟨false, 1, 8, [.int .i64 0], some (.int .i64), .int .i64⟩),
   (4, ⟨false, 1, 1, [.bool false], some .bool, .bool⟩),
   (9, ⟨false, 1, 16, [.str []], some .str, .str⟩),
   (22, ⟨false, 1, 24, [.nilsl], some (.sl .str), .sl 9⟩),
   (27, ⟨false, 1, 24, [.nilsl], some (.sl (.int .i64)), .sl 3⟩),
   (30, ⟨false, 1, 24, [.nilsl], some (.sl (.st .key)), .sl 75⟩),
   (31, ⟨false, 1, 24, [.nilsl], some (.sl (.st .write)), .sl 80⟩),
   (32, ⟨false, 1, 8, [.int .i64 0], some (.int .i64), .int .i64⟩),
   (33, ⟨false, 1, 24, [.nilsl], some (.sl (.st .seen)), .sl 100⟩),
   (35, ⟨true, 6, 80, [.int .i64 0, .int .i64 0, .int .i64 0, .nilsl, .nilsl, .int .i64 0], some (.st .reply), .st [(0, 32), (1, 3), (2, 3), (3, 27), (4, 33), (5, 3)]⟩),
   (36, ⟨false, 1, 24, [.nilsl], some (.sl (.st .place)), .sl 78⟩),
   (75, ⟨true, 2, 16, [.int .i64 0, .int .i64 0], some (.st .key), .st [(0, 3), (1, 3)]⟩),
   (78, ⟨true, 2, 16, [.int .i64 0, .int .i64 0], some (.st .place), .st [(0, 3), (1, 3)]⟩),
   (80, ⟨true, 5, 40, [.int .i64 0, .int .i64 0, .int .i64 0, .int .i64 0, .int .i64 0], some (.st .write), .st [(0, 3), (1, 3), (2, 3), (3, 78)]⟩),
   (100, ⟨true, 3, 24, [.int .i64 0, .int .i64 0, .int .i64 0], some (.st .seen), .st [(0, 3), (1, 78)]⟩),
   (105, ⟨true, 4, 32, [.int .i64 0, .int .i64 0, .int .i64 0, .int .i64 0], none, .st [(0, 32), (1, 3), (2, 3), (3, 3)]⟩)]
theorem tyLO_ok : (tyLO.all fun p => tyOK Tryz.prog p.1 p.2) = true := by kernel_rfl
theorem mixedO : Tryz.prog.follows .mixedOrders = true := by kernel_rfl
theorem eqsLO : EqsOK Tryz.prog [(75, [.int .i64, .int .i64]), (78, [.int .i64, .int .i64]), (80, [.int .i64, .int .i64, .int .i64, .int .i64, .int .i64]), (100, [.int .i64, .int .i64, .int .i64]), (105, [.int .i64, .int .i64, .int .i64, .int .i64])] := .cons (eqFact_of (P := Tryz.prog) (t := 75) (ks := [.int .i64, .int .i64]) (by kernel_rfl) (by kernel_rfl) (by kernel_rfl)) (.cons (eqFact_of (P := Tryz.prog) (t := 78) (ks := [.int .i64, .int .i64]) (by kernel_rfl) (by kernel_rfl) (by kernel_rfl)) (.cons (eqFact_of (P := Tryz.prog) (t := 80) (ks := [.int .i64, .int .i64, .int .i64, .int .i64, .int .i64]) (by kernel_rfl) (by kernel_rfl) (by kernel_rfl)) (.cons (eqFact_of (P := Tryz.prog) (t := 100) (ks := [.int .i64, .int .i64, .int .i64]) (by kernel_rfl) (by kernel_rfl) (by kernel_rfl)) (.cons (eqFact_of (P := Tryz.prog) (t := 105) (ks := [.int .i64, .int .i64, .int .i64, .int .i64]) (by kernel_rfl) (by kernel_rfl) (by kernel_rfl)) .nil))))
theorem in16 : FnIn Tryz.prog 16 Tryz.f16 := .mk Tryz.func16 (by kernel_rfl) (by kernel_rfl)
theorem in38 : FnIn Tryz.prog 38 Tryz.f38 := .mk Tryz.func38 (by kernel_rfl) (by kernel_rfl)
theorem in39 : FnIn Tryz.prog 39 Tryz.f39 := .mk Tryz.func39 (by kernel_rfl) (by kernel_rfl)
theorem in42 : FnIn Tryz.prog 42 Tryz.f42 := .mk Tryz.func42 (by kernel_rfl) (by kernel_rfl)
theorem in65 : FnIn Tryz.prog 65 Tryz.f65 := .mk Tryz.func65 (by kernel_rfl) (by kernel_rfl)
theorem in66 : FnIn Tryz.prog 66 Tryz.f66 := .mk Tryz.func66 (by kernel_rfl) (by kernel_rfl)
theorem in69 : FnIn Tryz.prog 69 Tryz.f69 := .mk Tryz.func69 (by kernel_rfl) (by kernel_rfl)
theorem in72 : FnIn Tryz.prog 72 Tryz.f72 := .mk Tryz.func72 (by kernel_rfl) (by kernel_rfl)
theorem in75 : FnIn Tryz.prog 75 Tryz.f75 := .mk Tryz.func75 (by kernel_rfl) (by kernel_rfl)
theorem in78 : FnIn Tryz.prog 78 Tryz.f78 := .mk Tryz.func78 (by kernel_rfl) (by kernel_rfl)
/-! slices.Equal[[]string,string] -/
noncomputable def E_tequal : Env := { ty := tyLO, ctr := [], inl := [], eqs := [(75, [.int .i64, .int .i64]), (78, [.int .i64, .int .i64]), (80, [.int .i64, .int .i64, .int .i64, .int .i64, .int .i64]), (100, [.int .i64, .int .i64, .int .i64]), (105, [.int .i64, .int .i64, .int .i64, .int .i64])], glob := GL, L := bigL, get := [] }
noncomputable def tequal.lr4.sp : SPat := ⟨26, [0, 1, 12, 13], [.sl .str, .sl .str, .int .i64, .int .i64], [], [], 0⟩
noncomputable def tequal.lr4.es : List (Ex × SPat) := [(.ret, ⟨26, [4], [.bool], [], [], 0⟩), (.exit 0, ⟨26, [], [], [], [], 0⟩)]
noncomputable def tequal.lr4.T : ((((List (List UInt8)) × ((List (List UInt8)) × (Int × (Int × Unit)))) × Unit) → Option (((Bool × Unit) × Unit) ⊕ (Unit × Unit))) → (((List (List UInt8)) × ((List (List UInt8)) × (Int × (Int × Unit)))) × Unit) → Option (((Bool × Unit) × Unit) ⊕ (Unit × Unit)) := fun rec x =>
  cnd (ilt x.1.2.2.2.1 x.1.2.2.1) (obind (lget x.1.1 x.1.2.2.2.1) (fun x_1 => obind (lget x.1.2.1 x.1.2.2.2.1) (fun x_2 => cnd (bnot (seq x_1 x_2)) (some (.inl ((false, ()), ()))) (rec ((x.1.1, (x.1.2.1, (x.1.2.2.1, (wrap .i64 (iadd x.1.2.2.2.1 1), ())))), ()))))) (some (.inr ((), ())))
noncomputable def tequal.lr4 : Alt := ⟨tequal.lr4.sp, tequal.lr4.es, 100, tequal.lr4.T⟩
noncomputable def tequal.H : Hints := ⟨[(69, [(4, [tequal.lr4])])], []⟩
noncomputable def tequalF (a : List Str) (b : List Str) : Option (Bool) := cnd (bnot (ieq (ilen a) (ilen b))) (some false) (obind (iter tequal.lr4.T bigL (((a, (b, (ilen a, (0, ())))), ()))) (fun x => scase x (fun x => some x.1.1) (fun y => some true)))
theorem tequal_r69_0 : Alt.Round E_tequal tequal.H 69 (oblAt tequal.H 69 Tryz.f69 0) tequal.lr4 := by intro rec x; kernel_rfl
theorem tequal_told69 : ∀ c, Tryz.f69.body = some c → ToldC E_tequal tequal.H 69 c := told_of [tequal.lr4] (by kernel_rfl) (fun i hi => match i, hi with | 0, _ => tequal_r69_0 | n + 1, h => absurd h (by simp))
theorem tequal_inl : InlsOK Tryz.prog E_tequal tequal.H E_tequal.inl := .nil
theorem tequal_walk (a : List Str) (b : List Str) : evalF E_tequal tequal.H 69 Tryz.f69 [.sl .str a, .sl .str b] (asR [.bool]) = tequalF a b := by kernel_rfl
theorem tequal_ctr : FnOK Tryz.prog 69 ∧ CtrOK Tryz.prog GL 69 (ctrOf [.sl .str, .sl .str] [.bool] tequalF) :=
  fn_ctr (E := E_tequal) tyLO_ok (.nil) tequal_inl eqsLO mixedO in69 tequal_told69 (fun xs => tequal_walk xs.1 xs.2.1)
/-! slices.Equal[[]innkeep/api.Key,innkeep/api.Key] -/
noncomputable def E_kequal : Env := { ty := tyLO, ctr := [], inl := [], eqs := [(75, [.int .i64, .int .i64]), (78, [.int .i64, .int .i64]), (80, [.int .i64, .int .i64, .int .i64, .int .i64, .int .i64]), (100, [.int .i64, .int .i64, .int .i64]), (105, [.int .i64, .int .i64, .int .i64, .int .i64])], glob := GL, L := bigL, get := [] }
noncomputable def kequal.lr4.sp : SPat := ⟨26, [0, 1, 12, 13], [.sl (.st .key), .sl (.st .key), .int .i64, .int .i64], [], [], 0⟩
noncomputable def kequal.lr4.es : List (Ex × SPat) := [(.ret, ⟨26, [4], [.bool], [], [], 0⟩), (.exit 0, ⟨26, [], [], [], [], 0⟩)]
noncomputable def kequal.lr4.T : ((((List Sx.Key) × ((List Sx.Key) × (Int × (Int × Unit)))) × Unit) → Option (((Bool × Unit) × Unit) ⊕ (Unit × Unit))) → (((List Sx.Key) × ((List Sx.Key) × (Int × (Int × Unit)))) × Unit) → Option (((Bool × Unit) × Unit) ⊕ (Unit × Unit)) := fun rec x =>
  cnd (ilt x.1.2.2.2.1 x.1.2.2.1) (obind (lget x.1.1 x.1.2.2.2.1) (fun x_1 => obind (lget x.1.2.1 x.1.2.2.2.1) (fun x_2 => cnd (bnot (band (ieq x_1.kind x_2.kind) (ieq x_1.id x_2.id))) (some (.inl ((false, ()), ()))) (rec ((x.1.1, (x.1.2.1, (x.1.2.2.1, (wrap .i64 (iadd x.1.2.2.2.1 1), ())))), ()))))) (some (.inr ((), ())))
noncomputable def kequal.lr4 : Alt := ⟨kequal.lr4.sp, kequal.lr4.es, 100, kequal.lr4.T⟩
noncomputable def kequal.H : Hints := ⟨[(72, [(4, [kequal.lr4])])], []⟩
noncomputable def kequalF (a : List Key) (b : List Key) : Option (Bool) := cnd (bnot (ieq (ilen a) (ilen b))) (some false) (obind (iter kequal.lr4.T bigL (((a, (b, (ilen a, (0, ())))), ()))) (fun x => scase x (fun x => some x.1.1) (fun y => some true)))
theorem kequal_r72_0 : Alt.Round E_kequal kequal.H 72 (oblAt kequal.H 72 Tryz.f72 0) kequal.lr4 := by intro rec x; kernel_rfl
theorem kequal_told72 : ∀ c, Tryz.f72.body = some c → ToldC E_kequal kequal.H 72 c := told_of [kequal.lr4] (by kernel_rfl) (fun i hi => match i, hi with | 0, _ => kequal_r72_0 | n + 1, h => absurd h (by simp))
theorem kequal_inl : InlsOK Tryz.prog E_kequal kequal.H E_kequal.inl := .nil
theorem kequal_walk (a : List Key) (b : List Key) : evalF E_kequal kequal.H 72 Tryz.f72 [.sl (.st .key) a, .sl (.st .key) b] (asR [.bool]) = kequalF a b := by kernel_rfl
theorem kequal_ctr : FnOK Tryz.prog 72 ∧ CtrOK Tryz.prog GL 72 (ctrOf [.sl (.st .key), .sl (.st .key)] [.bool] kequalF) :=
  fn_ctr (E := E_kequal) tyLO_ok (.nil) kequal_inl eqsLO mixedO in72 kequal_told72 (fun xs => kequal_walk xs.1 xs.2.1)
/-! slices.Equal[[]innkeep/api.Write,innkeep/api.Write] -/
noncomputable def E_wequal : Env := { ty := tyLO, ctr := [], inl := [], eqs := [(75, [.int .i64, .int .i64]), (78, [.int .i64, .int .i64]), (80, [.int .i64, .int .i64, .int .i64, .int .i64, .int .i64]), (100, [.int .i64, .int .i64, .int .i64]), (105, [.int .i64, .int .i64, .int .i64, .int .i64])], glob := GL, L := bigL, get := [] }
noncomputable def wequal.lr4.sp : SPat := ⟨26, [0, 1, 12, 13], [.sl (.st .write), .sl (.st .write), .int .i64, .int .i64], [], [], 0⟩
noncomputable def wequal.lr4.es : List (Ex × SPat) := [(.ret, ⟨26, [4], [.bool], [], [], 0⟩), (.exit 0, ⟨26, [], [], [], [], 0⟩)]
noncomputable def wequal.lr4.T : ((((List Sx.Write) × ((List Sx.Write) × (Int × (Int × Unit)))) × Unit) → Option (((Bool × Unit) × Unit) ⊕ (Unit × Unit))) → (((List Sx.Write) × ((List Sx.Write) × (Int × (Int × Unit)))) × Unit) → Option (((Bool × Unit) × Unit) ⊕ (Unit × Unit)) := fun rec x =>
  cnd (ilt x.1.2.2.2.1 x.1.2.2.1) (obind (lget x.1.1 x.1.2.2.2.1) (fun x_1 => obind (lget x.1.2.1 x.1.2.2.2.1) (fun x_2 => cnd (bnot (band (ieq x_1.kind x_2.kind) (band (ieq x_1.id x_2.id) (band (ieq x_1.num x_2.num) (band (ieq x_1.place.kind x_2.place.kind) (ieq x_1.place.id x_2.place.id)))))) (some (.inl ((false, ()), ()))) (rec ((x.1.1, (x.1.2.1, (x.1.2.2.1, (wrap .i64 (iadd x.1.2.2.2.1 1), ())))), ()))))) (some (.inr ((), ())))
noncomputable def wequal.lr4 : Alt := ⟨wequal.lr4.sp, wequal.lr4.es, 100, wequal.lr4.T⟩
noncomputable def wequal.H : Hints := ⟨[(75, [(4, [wequal.lr4])])], []⟩
noncomputable def wequalF (a : List Write) (b : List Write) : Option (Bool) := cnd (bnot (ieq (ilen a) (ilen b))) (some false) (obind (iter wequal.lr4.T bigL (((a, (b, (ilen a, (0, ())))), ()))) (fun x => scase x (fun x => some x.1.1) (fun y => some true)))
theorem wequal_r75_0 : Alt.Round E_wequal wequal.H 75 (oblAt wequal.H 75 Tryz.f75 0) wequal.lr4 := by intro rec x; kernel_rfl
theorem wequal_told75 : ∀ c, Tryz.f75.body = some c → ToldC E_wequal wequal.H 75 c := told_of [wequal.lr4] (by kernel_rfl) (fun i hi => match i, hi with | 0, _ => wequal_r75_0 | n + 1, h => absurd h (by simp))
theorem wequal_inl : InlsOK Tryz.prog E_wequal wequal.H E_wequal.inl := .nil
theorem wequal_walk (a : List Write) (b : List Write) : evalF E_wequal wequal.H 75 Tryz.f75 [.sl (.st .write) a, .sl (.st .write) b] (asR [.bool]) = wequalF a b := by kernel_rfl
theorem wequal_ctr : FnOK Tryz.prog 75 ∧ CtrOK Tryz.prog GL 75 (ctrOf [.sl (.st .write), .sl (.st .write)] [.bool] wequalF) :=
  fn_ctr (E := E_wequal) tyLO_ok (.nil) wequal_inl eqsLO mixedO in75 wequal_told75 (fun xs => wequal_walk xs.1 xs.2.1)
/-! slices.Equal[[]innkeep/api.Place,innkeep/api.Place] -/
noncomputable def E_pequal : Env := { ty := tyLO, ctr := [], inl := [], eqs := [(75, [.int .i64, .int .i64]), (78, [.int .i64, .int .i64]), (80, [.int .i64, .int .i64, .int .i64, .int .i64, .int .i64]), (100, [.int .i64, .int .i64, .int .i64]), (105, [.int .i64, .int .i64, .int .i64, .int .i64])], glob := GL, L := bigL, get := [] }
noncomputable def pequal.lr4.sp : SPat := ⟨26, [0, 1, 12, 13], [.sl (.st .place), .sl (.st .place), .int .i64, .int .i64], [], [], 0⟩
noncomputable def pequal.lr4.es : List (Ex × SPat) := [(.ret, ⟨26, [4], [.bool], [], [], 0⟩), (.exit 0, ⟨26, [], [], [], [], 0⟩)]
noncomputable def pequal.lr4.T : ((((List Sx.Place) × ((List Sx.Place) × (Int × (Int × Unit)))) × Unit) → Option (((Bool × Unit) × Unit) ⊕ (Unit × Unit))) → (((List Sx.Place) × ((List Sx.Place) × (Int × (Int × Unit)))) × Unit) → Option (((Bool × Unit) × Unit) ⊕ (Unit × Unit)) := fun rec x =>
  cnd (ilt x.1.2.2.2.1 x.1.2.2.1) (obind (lget x.1.1 x.1.2.2.2.1) (fun x_1 => obind (lget x.1.2.1 x.1.2.2.2.1) (fun x_2 => cnd (bnot (band (ieq x_1.kind x_2.kind) (ieq x_1.id x_2.id))) (some (.inl ((false, ()), ()))) (rec ((x.1.1, (x.1.2.1, (x.1.2.2.1, (wrap .i64 (iadd x.1.2.2.2.1 1), ())))), ()))))) (some (.inr ((), ())))
noncomputable def pequal.lr4 : Alt := ⟨pequal.lr4.sp, pequal.lr4.es, 100, pequal.lr4.T⟩
noncomputable def pequal.H : Hints := ⟨[(78, [(4, [pequal.lr4])])], []⟩
noncomputable def pequalF (a : List Sx.Place) (b : List Sx.Place) : Option (Bool) := cnd (bnot (ieq (ilen a) (ilen b))) (some false) (obind (iter pequal.lr4.T bigL (((a, (b, (ilen a, (0, ())))), ()))) (fun x => scase x (fun x => some x.1.1) (fun y => some true)))
theorem pequal_r78_0 : Alt.Round E_pequal pequal.H 78 (oblAt pequal.H 78 Tryz.f78 0) pequal.lr4 := by intro rec x; kernel_rfl
theorem pequal_told78 : ∀ c, Tryz.f78.body = some c → ToldC E_pequal pequal.H 78 c := told_of [pequal.lr4] (by kernel_rfl) (fun i hi => match i, hi with | 0, _ => pequal_r78_0 | n + 1, h => absurd h (by simp))
theorem pequal_inl : InlsOK Tryz.prog E_pequal pequal.H E_pequal.inl := .nil
theorem pequal_walk (a : List Sx.Place) (b : List Sx.Place) : evalF E_pequal pequal.H 78 Tryz.f78 [.sl (.st .place) a, .sl (.st .place) b] (asR [.bool]) = pequalF a b := by kernel_rfl
theorem pequal_ctr : FnOK Tryz.prog 78 ∧ CtrOK Tryz.prog GL 78 (ctrOf [.sl (.st .place), .sl (.st .place)] [.bool] pequalF) :=
  fn_ctr (E := E_pequal) tyLO_ok (.nil) pequal_inl eqsLO mixedO in78 pequal_told78 (fun xs => pequal_walk xs.1 xs.2.1)
/-! slices.Equal[[]innkeep/api.Seen,innkeep/api.Seen] -/
noncomputable def E_eequal : Env := { ty := tyLO, ctr := [], inl := [], eqs := [(75, [.int .i64, .int .i64]), (78, [.int .i64, .int .i64]), (80, [.int .i64, .int .i64, .int .i64, .int .i64, .int .i64]), (100, [.int .i64, .int .i64, .int .i64]), (105, [.int .i64, .int .i64, .int .i64, .int .i64])], glob := GL, L := bigL, get := [] }
noncomputable def eequal.lr4.sp : SPat := ⟨26, [0, 1, 12, 13], [.sl (.st .seen), .sl (.st .seen), .int .i64, .int .i64], [], [], 0⟩
noncomputable def eequal.lr4.es : List (Ex × SPat) := [(.ret, ⟨26, [4], [.bool], [], [], 0⟩), (.exit 0, ⟨26, [], [], [], [], 0⟩)]
noncomputable def eequal.lr4.T : ((((List Sx.Seen) × ((List Sx.Seen) × (Int × (Int × Unit)))) × Unit) → Option (((Bool × Unit) × Unit) ⊕ (Unit × Unit))) → (((List Sx.Seen) × ((List Sx.Seen) × (Int × (Int × Unit)))) × Unit) → Option (((Bool × Unit) × Unit) ⊕ (Unit × Unit)) := fun rec x =>
  cnd (ilt x.1.2.2.2.1 x.1.2.2.1) (obind (lget x.1.1 x.1.2.2.2.1) (fun x_1 => obind (lget x.1.2.1 x.1.2.2.2.1) (fun x_2 => cnd (bnot (band (ieq x_1.item x_2.item) (band (ieq x_1.at_.kind x_2.at_.kind) (ieq x_1.at_.id x_2.at_.id)))) (some (.inl ((false, ()), ()))) (rec ((x.1.1, (x.1.2.1, (x.1.2.2.1, (wrap .i64 (iadd x.1.2.2.2.1 1), ())))), ()))))) (some (.inr ((), ())))
noncomputable def eequal.lr4 : Alt := ⟨eequal.lr4.sp, eequal.lr4.es, 100, eequal.lr4.T⟩
noncomputable def eequal.H : Hints := ⟨[(66, [(4, [eequal.lr4])])], []⟩
noncomputable def eequalF (a : List Seen) (b : List Seen) : Option (Bool) := cnd (bnot (ieq (ilen a) (ilen b))) (some false) (obind (iter eequal.lr4.T bigL (((a, (b, (ilen a, (0, ())))), ()))) (fun x => scase x (fun x => some x.1.1) (fun y => some true)))
theorem eequal_r66_0 : Alt.Round E_eequal eequal.H 66 (oblAt eequal.H 66 Tryz.f66 0) eequal.lr4 := by intro rec x; kernel_rfl
theorem eequal_told66 : ∀ c, Tryz.f66.body = some c → ToldC E_eequal eequal.H 66 c := told_of [eequal.lr4] (by kernel_rfl) (fun i hi => match i, hi with | 0, _ => eequal_r66_0 | n + 1, h => absurd h (by simp))
theorem eequal_inl : InlsOK Tryz.prog E_eequal eequal.H E_eequal.inl := .nil
theorem eequal_walk (a : List Seen) (b : List Seen) : evalF E_eequal eequal.H 66 Tryz.f66 [.sl (.st .seen) a, .sl (.st .seen) b] (asR [.bool]) = eequalF a b := by kernel_rfl
theorem eequal_ctr : FnOK Tryz.prog 66 ∧ CtrOK Tryz.prog GL 66 (ctrOf [.sl (.st .seen), .sl (.st .seen)] [.bool] eequalF) :=
  fn_ctr (E := E_eequal) tyLO_ok (.nil) eequal_inl eqsLO mixedO in66 eequal_told66 (fun xs => eequal_walk xs.1 xs.2.1)
/-! innkeep/innkeepref05.Seens -/
noncomputable def E_r5seens : Env := { ty := tyLO, ctr := [], inl := [], eqs := [(75, [.int .i64, .int .i64]), (78, [.int .i64, .int .i64]), (80, [.int .i64, .int .i64, .int .i64, .int .i64, .int .i64]), (100, [.int .i64, .int .i64, .int .i64]), (105, [.int .i64, .int .i64, .int .i64, .int .i64])], glob := GL, L := bigL, get := [] }
noncomputable def r5seens.lr4.sp : SPat := ⟨26, [0, 1, 5], [.sl (.st .seen), .sl (.st .seen), .int .i64], [], [], 0⟩
noncomputable def r5seens.lr4.es : List (Ex × SPat) := [(.ret, ⟨26, [4], [.bool], [], [], 0⟩), (.exit 0, ⟨26, [], [], [], [], 0⟩)]
noncomputable def r5seens.lr4.T : ((((List Sx.Seen) × ((List Sx.Seen) × (Int × Unit))) × Unit) → Option (((Bool × Unit) × Unit) ⊕ (Unit × Unit))) → (((List Sx.Seen) × ((List Sx.Seen) × (Int × Unit))) × Unit) → Option (((Bool × Unit) × Unit) ⊕ (Unit × Unit)) := fun rec x =>
  cnd (ilt x.1.2.2.1 (ilen x.1.1)) (obind (lget x.1.1 x.1.2.2.1) (fun x_1 => obind (lget x.1.2.1 x.1.2.2.1) (fun x_2 => cnd (bnot (band (ieq x_1.item x_2.item) (band (ieq x_1.at_.kind x_2.at_.kind) (ieq x_1.at_.id x_2.at_.id)))) (some (.inl ((false, ()), ()))) (rec ((x.1.1, (x.1.2.1, (wrap .i64 (iadd x.1.2.2.1 1), ()))), ()))))) (some (.inr ((), ())))
noncomputable def r5seens.lr4 : Alt := ⟨r5seens.lr4.sp, r5seens.lr4.es, 100, r5seens.lr4.T⟩
noncomputable def r5seens.H : Hints := ⟨[(38, [(4, [r5seens.lr4])])], []⟩
noncomputable def r5seensF (a : List Seen) (b : List Seen) : Option (Bool) := cnd (bnot (ieq (ilen a) (ilen b))) (some false) (obind (iter r5seens.lr4.T bigL (((a, (b, (0, ()))), ()))) (fun x => scase x (fun x => some x.1.1) (fun y => some true)))
theorem r5seens_r38_0 : Alt.Round E_r5seens r5seens.H 38 (oblAt r5seens.H 38 Tryz.f38 0) r5seens.lr4 := by intro rec x; kernel_rfl
theorem r5seens_told38 : ∀ c, Tryz.f38.body = some c → ToldC E_r5seens r5seens.H 38 c := told_of [r5seens.lr4] (by kernel_rfl) (fun i hi => match i, hi with | 0, _ => r5seens_r38_0 | n + 1, h => absurd h (by simp))
theorem r5seens_inl : InlsOK Tryz.prog E_r5seens r5seens.H E_r5seens.inl := .nil
theorem r5seens_walk (a : List Seen) (b : List Seen) : evalF E_r5seens r5seens.H 38 Tryz.f38 [.sl (.st .seen) a, .sl (.st .seen) b] (asR [.bool]) = r5seensF a b := by kernel_rfl
theorem r5seens_ctr : FnOK Tryz.prog 38 ∧ CtrOK Tryz.prog GL 38 (ctrOf [.sl (.st .seen), .sl (.st .seen)] [.bool] r5seensF) :=
  fn_ctr (E := E_r5seens) tyLO_ok (.nil) r5seens_inl eqsLO mixedO in38 r5seens_told38 (fun xs => r5seens_walk xs.1 xs.2.1)
/-! innkeep/innkeepref05.Same -/
noncomputable def E_r5same : Env := { ty := tyLO, ctr := [(37, ctrOf [.sl (.int .i64), .sl (.int .i64)] [.bool] r3intsF), (38, ctrOf [.sl (.st .seen), .sl (.st .seen)] [.bool] r5seensF)], inl := [], eqs := [(75, [.int .i64, .int .i64]), (78, [.int .i64, .int .i64]), (80, [.int .i64, .int .i64, .int .i64, .int .i64, .int .i64]), (100, [.int .i64, .int .i64, .int .i64]), (105, [.int .i64, .int .i64, .int .i64, .int .i64])], glob := GL, L := bigL, get := [] }
noncomputable def r5same.H : Hints := ⟨[], []⟩
noncomputable def r5sameF (a : Reply) (b : Reply) : Option (Bool) := cnd (ieq a.err b.err) (cnd (ieq a.kind b.kind) (cnd (ieq a.room b.room) (cnd (ieq a.coins b.coins) (obind (r3intsF a.players b.players) (fun x => cnd x (obind (r5seensF a.items b.items) (fun x_1 => some x_1)) (some false))) (some false)) (some false)) (some false)) (some false)
theorem r5same_inl : InlsOK Tryz.prog E_r5same r5same.H E_r5same.inl := .nil
theorem r5same_walk (a : Reply) (b : Reply) : evalF E_r5same r5same.H 16 Tryz.f16 [.agg (SN.cells .reply a), .agg (SN.cells .reply b)] (asR [.bool]) = r5sameF a b := by kernel_rfl
theorem r5same_ctr : FnOK Tryz.prog 16 ∧ CtrOK Tryz.prog GL 16 (ctrOf [.st .reply, .st .reply] [.bool] r5sameF) :=
  fn_ctr (E := E_r5same) tyLO_ok (.cons r3ints_ctr (.cons r5seens_ctr .nil)) r5same_inl eqsLO mixedO in16 (fun c _ => told_none rfl c) (fun xs => r5same_walk xs.1 xs.2.1)
/-! innkeep/innkeepref05.Few -/
noncomputable def E_r5few : Env := { ty := tyLO, ctr := [], inl := [], eqs := [(75, [.int .i64, .int .i64]), (78, [.int .i64, .int .i64]), (80, [.int .i64, .int .i64, .int .i64, .int .i64, .int .i64]), (100, [.int .i64, .int .i64, .int .i64]), (105, [.int .i64, .int .i64, .int .i64, .int .i64])], glob := GL, L := bigL, get := [] }
noncomputable def r5few.H : Hints := ⟨[], []⟩
noncomputable def r5fewF (r : Reply) : Option (Bool) := cnd (ile (ilen r.players) 40) (some (ile (ilen r.items) 40)) (some false)
theorem r5few_inl : InlsOK Tryz.prog E_r5few r5few.H E_r5few.inl := .nil
theorem r5few_walk (r : Reply) : evalF E_r5few r5few.H 39 Tryz.f39 [.agg (SN.cells .reply r)] (asR [.bool]) = r5fewF r := by kernel_rfl
theorem r5few_ctr : FnOK Tryz.prog 39 ∧ CtrOK Tryz.prog GL 39 (ctrOf [.st .reply] [.bool] r5fewF) :=
  fn_ctr (E := E_r5few) tyLO_ok (.nil) r5few_inl eqsLO mixedO in39 (fun c _ => told_none rfl c) (fun xs => r5few_walk xs.1)
/-! innkeep/reply.of -/
noncomputable def E_rof : Env := { ty := tyLO, ctr := [], inl := [], eqs := [(75, [.int .i64, .int .i64]), (78, [.int .i64, .int .i64]), (80, [.int .i64, .int .i64, .int .i64, .int .i64, .int .i64]), (100, [.int .i64, .int .i64, .int .i64]), (105, [.int .i64, .int .i64, .int .i64, .int .i64])], glob := GL, L := bigL, get := [] }
noncomputable def rof.H : Hints := ⟨[], []⟩
noncomputable def rofF (r : Reply) : Option (AV) := some (AV.agg [AV.int .i64 r.err, AV.int .i64 r.kind, AV.int .i64 r.room, AV.int .i64 r.coins])
theorem rof_inl : InlsOK Tryz.prog E_rof rof.H E_rof.inl := .nil
theorem rof_walk (r : Reply) : evalF E_rof rof.H 65 Tryz.f65 [.agg (SN.cells .reply r)] (fun v => some v) = rofF r := by kernel_rfl
theorem rof_ctr : FnOK Tryz.prog 65 ∧ CtrOK Tryz.prog GL 65 (ctrAV [.st .reply] rofF) :=
  fn_ctr_av (E := E_rof) tyLO_ok (.nil) rof_inl eqsLO mixedO in65 (fun c _ => told_none rfl c) (fun xs => rof_walk xs.1)
/-! innkeep/reply.Same -/
noncomputable def E_rsame : Env := { ty := tyLO, ctr := [(65, ctrAV [.st .reply] rofF), (64, ctrOf [.sl (.int .i64), .sl (.int .i64)] [.bool] iequalF), (66, ctrOf [.sl (.st .seen), .sl (.st .seen)] [.bool] eequalF)], inl := [], eqs := [(75, [.int .i64, .int .i64]), (78, [.int .i64, .int .i64]), (80, [.int .i64, .int .i64, .int .i64, .int .i64, .int .i64]), (100, [.int .i64, .int .i64, .int .i64]), (105, [.int .i64, .int .i64, .int .i64, .int .i64])], glob := GL, L := bigL, get := [] }
noncomputable def rsame.H : Hints := ⟨[], []⟩
noncomputable def rsameF (a : Reply) (b : Reply) : Option (Bool) := cnd (band (ieq a.err b.err) (band (ieq a.kind b.kind) (band (ieq a.room b.room) (ieq a.coins b.coins)))) (obind (iequalF a.players b.players) (fun x => cnd x (obind (eequalF a.items b.items) (fun x_1 => some x_1)) (some false))) (some false)
theorem rsame_inl : InlsOK Tryz.prog E_rsame rsame.H E_rsame.inl := .nil
theorem rsame_walk (a : Reply) (b : Reply) : evalF E_rsame rsame.H 42 Tryz.f42 [.agg (SN.cells .reply a), .agg (SN.cells .reply b)] (asR [.bool]) = rsameF a b := by kernel_rfl
theorem rsame_ctr : FnOK Tryz.prog 42 ∧ CtrOK Tryz.prog GL 42 (ctrOf [.st .reply, .st .reply] [.bool] rsameF) :=
  fn_ctr (E := E_rsame) tyLO_ok (.cons rof_ctr (.cons iequal_ctr (.cons eequal_ctr .nil))) rsame_inl eqsLO mixedO in42 (fun c _ => told_none rfl c) (fun xs => rsame_walk xs.1 xs.2.1)
end Go.Sx
