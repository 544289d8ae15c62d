/-
  sessions, walked (printed by wip/dev/gen2.py)
-/
import Derived.Test.YtcpildkbkjeijaaGreatDoorSyO
import Derived.Test.YtcpildkbkjeijaaGreatDoorProg
import Derived.KernelRfl
set_option linter.unusedVariables false
set_option linter.unusedSimpArgs false
namespace Go.Sx
open Go Go.Proofs
def tyLP : List (Nat × TyI) :=
  [(3, ⟨false, 1, 8, [.int .i64 0], some (.int .i64), .int .i64⟩),
   (4, ⟨false, 1, 1, [.bool false], some .bool, .bool⟩),
   (9, ⟨false, 1, 16, [.str []], some .str, .str⟩),
   (22, ⟨false, 1, 24, [.nilsl], some (.sl .str), .sl 9⟩),
   (24, ⟨true, 2, 32, [.int .i64 0, .nilsl], some (.st .script), .st [(0, 3), (1, 22)]⟩),
   (27, ⟨false, 1, 24, [.nilsl], some (.sl (.int .i64)), .sl 3⟩),
   (29, ⟨true, 9, 104, [.int .i64 0, .int .i64 0, .int .i64 0, .int .i64 0, .int .i64 0, .nilsl, .int .i64 0, .nilsl, .int .i64 0], some (.st .cmd), .st [(0, 3), (1, 3), (2, 3), (3, 3), (4, 3), (5, 27), (6, 3), (7, 27), (8, 3)]⟩),
   (30, ⟨false, 1, 24, [.nilsl], some (.sl (.st .key)), .sl 75⟩),
   (31, ⟨false, 1, 24, [.nilsl], some (.sl (.st .write)), .sl 80⟩),
   (32, ⟨false, 1, 8, [.int .i64 0], some (.int .i64), .int .i64⟩),
   (33, ⟨false, 1, 24, [.nilsl], some (.sl (.st .seen)), .sl 100⟩),
   (35, ⟨true, 6, 80, [.int .i64 0, .int .i64 0, .int .i64 0, .nilsl, .nilsl, .int .i64 0], some (.st .reply), .st [(0, 32), (1, 3), (2, 3), (3, 27), (4, 33), (5, 3)]⟩),
   (36, ⟨false, 1, 24, [.nilsl], some (.sl (.st .place)), .sl 78⟩),
   (38, ⟨true, 30, 384, [.int .i64 0, .nilsl, .int .i64 0, .int .i64 0, .int .i64 0, .int .i64 0, .int .i64 0, .int .i64 0, .int .i64 0, .int .i64 0, .nilsl, .int .i64 0, .nilsl, .int .i64 0, .nilsl, .int .i64 0, .nilsl, .int .i64 0, .int .i64 0, .int .i64 0, .nilsl, .nilsl, .int .i64 0, .bool false, .int .i64 0, .int .i64 0, .int .i64 0, .nilsl, .nilsl, .int .i64 0], some (.st .sess), .st [(0, 3), (1, 22), (2, 3), (3, 3), (4, 3), (5, 29), (14, 30), (15, 3), (16, 31), (17, 35), (23, 4), (24, 3), (25, 3), (26, 3), (27, 36), (28, 27), (29, 3)]⟩),
   (69, ⟨true, 9, 72, [.int .i64 0, .int .i64 0, .int .i64 0, .int .i64 0, .int .i64 0, .int .i64 0, .int .i64 0, .int .i64 0, .int .i64 0], none, .arr 9 3⟩),
   (72, ⟨true, 2, 48, [.nilsl, .nilsl], none, .arr 2 22⟩),
   (75, ⟨true, 2, 16, [.int .i64 0, .int .i64 0], some (.st .key), .st [(0, 3), (1, 3)]⟩),
   (76, ⟨true, 2, 48, [.nilsl, .nilsl], none, .arr 2 30⟩),
   (78, ⟨true, 2, 16, [.int .i64 0, .int .i64 0], some (.st .place), .st [(0, 3), (1, 3)]⟩),
   (80, ⟨true, 5, 40, [.int .i64 0, .int .i64 0, .int .i64 0, .int .i64 0, .int .i64 0], some (.st .write), .st [(0, 3), (1, 3), (2, 3), (3, 78)]⟩),
   (81, ⟨true, 2, 48, [.nilsl, .nilsl], none, .arr 2 31⟩),
   (83, ⟨true, 2, 48, [.nilsl, .nilsl], none, .arr 2 36⟩),
   (85, ⟨true, 2, 48, [.nilsl, .nilsl], none, .arr 2 27⟩),
   (100, ⟨true, 3, 24, [.int .i64 0, .int .i64 0, .int .i64 0], some (.st .seen), .st [(0, 3), (1, 78)]⟩),
   (107, ⟨false, 1, 24, [.nilsl], none, .sl 72⟩),
   (109, ⟨false, 1, 8, [.nilf], none, .func⟩),
   (110, ⟨false, 1, 24, [.nilsl], none, .sl 76⟩),
   (113, ⟨false, 1, 8, [.nilf], none, .func⟩),
   (114, ⟨false, 1, 24, [.nilsl], none, .sl 81⟩),
   (117, ⟨false, 1, 8, [.nilf], none, .func⟩),
   (118, ⟨false, 1, 24, [.nilsl], none, .sl 83⟩),
   (121, ⟨false, 1, 8, [.nilf], none, .func⟩),
   (122, ⟨false, 1, 24, [.nilsl], none, .sl 85⟩),
   (124, ⟨false, 1, 8, [.nilf], none, .func⟩)]
theorem tyLP_ok : (tyLP.all fun p => tyOK Tryz.prog p.1 p.2) = true := by kernel_rfl
theorem mixedP : Tryz.prog.follows .mixedOrders = true := by kernel_rfl
theorem eqsLP : EqsOK Tryz.prog [(69, [.int .i64, .int .i64, .int .i64, .int .i64, .int .i64, .int .i64, .int .i64, .int .i64, .int .i64])] := .cons (eqFact_of (P := Tryz.prog) (t := 69) (ks := [.int .i64, .int .i64, .int .i64, .int .i64, .int .i64, .int .i64, .int .i64, .int .i64, .int .i64]) (by kernel_rfl) (by kernel_rfl) (by kernel_rfl)) .nil
theorem in11 : FnIn Tryz.prog 11 Tryz.f11 := .mk Tryz.func11 (by kernel_rfl) (by kernel_rfl)
theorem in12 : FnIn Tryz.prog 12 Tryz.f12 := .mk Tryz.func12 (by kernel_rfl) (by kernel_rfl)
theorem in13 : FnIn Tryz.prog 13 Tryz.f13 := .mk Tryz.func13 (by kernel_rfl) (by kernel_rfl)
theorem in17 : FnIn Tryz.prog 17 Tryz.f17 := .mk Tryz.func17 (by kernel_rfl) (by kernel_rfl)
theorem in18 : FnIn Tryz.prog 18 Tryz.f18 := .mk Tryz.func18 (by kernel_rfl) (by kernel_rfl)
theorem in19 : FnIn Tryz.prog 19 Tryz.f19 := .mk Tryz.func19 (by kernel_rfl) (by kernel_rfl)
theorem in20 : FnIn Tryz.prog 20 Tryz.f20 := .mk Tryz.func20 (by kernel_rfl) (by kernel_rfl)
theorem in31 : FnIn Tryz.prog 31 Tryz.f31 := .mk Tryz.func31 (by kernel_rfl) (by kernel_rfl)
theorem in40 : FnIn Tryz.prog 40 Tryz.f40 := .mk Tryz.func40 (by kernel_rfl) (by kernel_rfl)
theorem in43 : FnIn Tryz.prog 43 Tryz.f43 := .mk Tryz.func43 (by kernel_rfl) (by kernel_rfl)
theorem in44 : FnIn Tryz.prog 44 Tryz.f44 := .mk Tryz.func44 (by kernel_rfl) (by kernel_rfl)
theorem in45 : FnIn Tryz.prog 45 Tryz.f45 := .mk Tryz.func45 (by kernel_rfl) (by kernel_rfl)
theorem in46 : FnIn Tryz.prog 46 Tryz.f46 := .mk Tryz.func46 (by kernel_rfl) (by kernel_rfl)
theorem in47 : FnIn Tryz.prog 47 Tryz.f47 := .mk Tryz.func47 (by kernel_rfl) (by kernel_rfl)
theorem in67 : FnIn Tryz.prog 67 Tryz.f67 := .mk Tryz.func67 (by kernel_rfl) (by kernel_rfl)
theorem in68 : FnIn Tryz.prog 68 Tryz.f68 := .mk Tryz.func68 (by kernel_rfl) (by kernel_rfl)
theorem in70 : FnIn Tryz.prog 70 Tryz.f70 := .mk Tryz.func70 (by kernel_rfl) (by kernel_rfl)
theorem in71 : FnIn Tryz.prog 71 Tryz.f71 := .mk Tryz.func71 (by kernel_rfl) (by kernel_rfl)
theorem in73 : FnIn Tryz.prog 73 Tryz.f73 := .mk Tryz.func73 (by kernel_rfl) (by kernel_rfl)
theorem in74 : FnIn Tryz.prog 74 Tryz.f74 := .mk Tryz.func74 (by kernel_rfl) (by kernel_rfl)
theorem in76 : FnIn Tryz.prog 76 Tryz.f76 := .mk Tryz.func76 (by kernel_rfl) (by kernel_rfl)
theorem in77 : FnIn Tryz.prog 77 Tryz.f77 := .mk Tryz.func77 (by kernel_rfl) (by kernel_rfl)
theorem in79 : FnIn Tryz.prog 79 Tryz.f79 := .mk Tryz.func79 (by kernel_rfl) (by kernel_rfl)
theorem in80 : FnIn Tryz.prog 80 Tryz.f80 := .mk Tryz.func80 (by kernel_rfl) (by kernel_rfl)
theorem in102 : FnIn Tryz.prog 102 Tryz.f102 := .mk Tryz.func102 (by kernel_rfl) (by kernel_rfl)
theorem in103 : FnIn Tryz.prog 103 Tryz.f103 := .mk Tryz.func103 (by kernel_rfl) (by kernel_rfl)
theorem in104 : FnIn Tryz.prog 104 Tryz.f104 := .mk Tryz.func104 (by kernel_rfl) (by kernel_rfl)
theorem in105 : FnIn Tryz.prog 105 Tryz.f105 := .mk Tryz.func105 (by kernel_rfl) (by kernel_rfl)
theorem in106 : FnIn Tryz.prog 106 Tryz.f106 := .mk Tryz.func106 (by kernel_rfl) (by kernel_rfl)
/-! innkeep/sess.rests -/
noncomputable def E_srests : Env := { ty := tyLP, ctr := [], inl := [], eqs := [(69, [.int .i64, .int .i64, .int .i64, .int .i64, .int .i64, .int .i64, .int .i64, .int .i64, .int .i64])], glob := GL, L := bigL, get := [] }
noncomputable def srests.H : Hints := ⟨[], []⟩
noncomputable def srestsF (s : Sess) : Option (Sess) := cnd (ile (ilen s.lines) s.next) (some (⟨s.player, s.lines, s.next, 12, 0, ⟨0, 0, 0, 0, 0, ([] : List Int), 0, ([] : List Int), 0⟩, [], 0, [], ⟨0, 0, 0, ([] : List Int), [], 0⟩, false, 0, 0, 0, [], ([] : List Int), 0⟩)) (some (⟨s.player, s.lines, s.next, 0, 0, ⟨0, 0, 0, 0, 0, ([] : List Int), 0, ([] : List Int), 0⟩, [], 0, [], ⟨0, 0, 0, ([] : List Int), [], 0⟩, false, 0, 0, 0, [], ([] : List Int), 0⟩))
theorem srests_inl : InlsOK Tryz.prog E_srests srests.H E_srests.inl := .nil
theorem srests_walk (s : Sess) : evalF E_srests srests.H 31 Tryz.f31 [.agg (SN.cells .sess s)] (asR [.st .sess]) = srestsF s := by kernel_rfl
theorem srests_ctr : FnOK Tryz.prog 31 ∧ CtrOK Tryz.prog GL 31 (ctrOf [.st .sess] [.st .sess] srestsF) :=
  fn_ctr (E := E_srests) tyLP_ok (.nil) srests_inl eqsLP mixedP in31 (fun c _ => told_none rfl c) (fun xs => srests_walk xs.1)
/-! innkeep/sess.New -/
noncomputable def E_snew : Env := { ty := tyLP, ctr := [(31, ctrOf [.st .sess] [.st .sess] srestsF)], inl := [], eqs := [(69, [.int .i64, .int .i64, .int .i64, .int .i64, .int .i64, .int .i64, .int .i64, .int .i64, .int .i64])], glob := GL, L := bigL, get := [] }
noncomputable def snew.H : Hints := ⟨[], []⟩
noncomputable def snewF (c : Script) : Option (Sess) := obind (srestsF (⟨c.player, c.lines, 0, 0, 0, ⟨0, 0, 0, 0, 0, ([] : List Int), 0, ([] : List Int), 0⟩, [], 0, [], ⟨0, 0, 0, ([] : List Int), [], 0⟩, false, 0, 0, 0, [], ([] : List Int), 0⟩)) (fun x => some (⟨x.player, x.lines, x.next, x.phase, x.step, ⟨x.cmd.kind, x.cmd.dir, x.cmd.item, x.cmd.box, x.cmd.who, x.cmd.gives, x.cmd.pay, x.cmd.wants, x.cmd.fee⟩, x.foot, x.has, x.plan, ⟨x.reply.err, x.reply.kind, x.reply.room, x.reply.players, x.reply.items, x.reply.coins⟩, x.stale, x.tries, x.ver, x.room, x.copies, x.heads, x.purse⟩))
theorem snew_inl : InlsOK Tryz.prog E_snew snew.H E_snew.inl := .nil
theorem snew_walk (c : Script) : evalF E_snew snew.H 12 Tryz.f12 [.agg (SN.cells .script c)] (asR [.st .sess]) = snewF c := by kernel_rfl
theorem snew_ctr : FnOK Tryz.prog 12 ∧ CtrOK Tryz.prog GL 12 (ctrOf [.st .script] [.st .sess] snewF) :=
  fn_ctr (E := E_snew) tyLP_ok (.cons srests_ctr .nil) snew_inl eqsLP mixedP in12 (fun c _ => told_none rfl c) (fun xs => snew_walk xs.1)
/-! innkeep/sess.Open -/
noncomputable def E_sopen : Env := { ty := tyLP, ctr := [(25, ctrOf [.str] [.st .cmd, .int .i64] lgetF)], inl := [], eqs := [(69, [.int .i64, .int .i64, .int .i64, .int .i64, .int .i64, .int .i64, .int .i64, .int .i64, .int .i64])], glob := GL, L := bigL, get := [] }
noncomputable def sopen.H : Hints := ⟨[], []⟩
noncomputable def sopenF (s : Sess) : Option (Sess) := obind (lget s.lines s.next) (fun x => obind (lgetF x) (fun x_1 => cnd (bnot (ieq x_1.2 0)) (some (⟨s.player, s.lines, s.next, 8, s.step, ⟨x_1.1.kind, x_1.1.dir, x_1.1.item, x_1.1.box, x_1.1.who, x_1.1.gives, x_1.1.pay, x_1.1.wants, x_1.1.fee⟩, s.foot, s.has, s.plan, ⟨x_1.2, 0, 0, ([] : List Int), [], 0⟩, s.stale, s.tries, s.ver, s.room, s.copies, s.heads, s.purse⟩)) (cnd (ieq x_1.1.kind 9) (some (⟨s.player, s.lines, s.next, 9, s.step, ⟨x_1.1.kind, x_1.1.dir, x_1.1.item, x_1.1.box, x_1.1.who, x_1.1.gives, x_1.1.pay, x_1.1.wants, x_1.1.fee⟩, s.foot, s.has, s.plan, ⟨s.reply.err, s.reply.kind, s.reply.room, s.reply.players, s.reply.items, s.reply.coins⟩, s.stale, s.tries, s.ver, s.room, s.copies, s.heads, s.purse⟩)) (cnd (ieq x_1.1.kind 10) (some (⟨s.player, s.lines, s.next, 9, s.step, ⟨x_1.1.kind, x_1.1.dir, x_1.1.item, x_1.1.box, x_1.1.who, x_1.1.gives, x_1.1.pay, x_1.1.wants, x_1.1.fee⟩, s.foot, s.has, s.plan, ⟨s.reply.err, s.reply.kind, s.reply.room, s.reply.players, s.reply.items, s.reply.coins⟩, s.stale, s.tries, s.ver, s.room, s.copies, s.heads, s.purse⟩)) (some (⟨s.player, s.lines, s.next, 1, s.step, ⟨x_1.1.kind, x_1.1.dir, x_1.1.item, x_1.1.box, x_1.1.who, x_1.1.gives, x_1.1.pay, x_1.1.wants, x_1.1.fee⟩, s.foot, s.has, s.plan, ⟨s.reply.err, s.reply.kind, s.reply.room, s.reply.players, s.reply.items, s.reply.coins⟩, s.stale, s.tries, s.ver, s.room, s.copies, s.heads, s.purse⟩))))))
theorem sopen_inl : InlsOK Tryz.prog E_sopen sopen.H E_sopen.inl := .nil
theorem sopen_walk (s : Sess) : evalF E_sopen sopen.H 13 Tryz.f13 [.agg (SN.cells .sess s)] (asR [.st .sess]) = sopenF s := by kernel_rfl
theorem sopen_ctr : FnOK Tryz.prog 13 ∧ CtrOK Tryz.prog GL 13 (ctrOf [.st .sess] [.st .sess] sopenF) :=
  fn_ctr (E := E_sopen) tyLP_ok (.cons lget_ctr .nil) sopen_inl eqsLP mixedP in13 (fun c _ => told_none rfl c) (fun xs => sopen_walk xs.1)
/-! innkeep/sess.Close -/
noncomputable def E_sclose : Env := { ty := tyLP, ctr := [(31, ctrOf [.st .sess] [.st .sess] srestsF)], inl := [], eqs := [(69, [.int .i64, .int .i64, .int .i64, .int .i64, .int .i64, .int .i64, .int .i64, .int .i64, .int .i64])], glob := GL, L := bigL, get := [] }
noncomputable def sclose.H : Hints := ⟨[], []⟩
noncomputable def scloseF (s : Sess) : Option (Sess) := obind (srestsF (⟨s.player, s.lines, wrap .i64 (iadd s.next 1), s.phase, s.step, ⟨s.cmd.kind, s.cmd.dir, s.cmd.item, s.cmd.box, s.cmd.who, s.cmd.gives, s.cmd.pay, s.cmd.wants, s.cmd.fee⟩, s.foot, s.has, s.plan, ⟨s.reply.err, s.reply.kind, s.reply.room, s.reply.players, s.reply.items, s.reply.coins⟩, s.stale, s.tries, s.ver, s.room, s.copies, s.heads, s.purse⟩)) (fun x => some (⟨x.player, x.lines, x.next, x.phase, x.step, ⟨x.cmd.kind, x.cmd.dir, x.cmd.item, x.cmd.box, x.cmd.who, x.cmd.gives, x.cmd.pay, x.cmd.wants, x.cmd.fee⟩, x.foot, x.has, x.plan, ⟨x.reply.err, x.reply.kind, x.reply.room, x.reply.players, x.reply.items, x.reply.coins⟩, x.stale, x.tries, x.ver, x.room, x.copies, x.heads, x.purse⟩))
theorem sclose_inl : InlsOK Tryz.prog E_sclose sclose.H E_sclose.inl := .nil
theorem sclose_walk (s : Sess) : evalF E_sclose sclose.H 17 Tryz.f17 [.agg (SN.cells .sess s)] (asR [.st .sess]) = scloseF s := by kernel_rfl
theorem sclose_ctr : FnOK Tryz.prog 17 ∧ CtrOK Tryz.prog GL 17 (ctrOf [.st .sess] [.st .sess] scloseF) :=
  fn_ctr (E := E_sclose) tyLP_ok (.cons srests_ctr .nil) sclose_inl eqsLP mixedP in17 (fun c _ => told_none rfl c) (fun xs => sclose_walk xs.1)
/-! innkeep/sess.Anew -/
noncomputable def E_sanew : Env := { ty := tyLP, ctr := [], inl := [], eqs := [(69, [.int .i64, .int .i64, .int .i64, .int .i64, .int .i64, .int .i64, .int .i64, .int .i64, .int .i64])], glob := GL, L := bigL, get := [] }
noncomputable def sanew.H : Hints := ⟨[], []⟩
noncomputable def sanewF (s : Sess) : Option (Sess) := some (⟨s.player, s.lines, s.next, 1, 0, ⟨s.cmd.kind, s.cmd.dir, s.cmd.item, s.cmd.box, s.cmd.who, s.cmd.gives, s.cmd.pay, s.cmd.wants, s.cmd.fee⟩, [], 0, [], ⟨0, 0, 0, ([] : List Int), [], 0⟩, false, s.tries, 0, 0, [], ([] : List Int), 0⟩)
theorem sanew_inl : InlsOK Tryz.prog E_sanew sanew.H E_sanew.inl := .nil
theorem sanew_walk (s : Sess) : evalF E_sanew sanew.H 19 Tryz.f19 [.agg (SN.cells .sess s)] (asR [.st .sess]) = sanewF s := by kernel_rfl
theorem sanew_ctr : FnOK Tryz.prog 19 ∧ CtrOK Tryz.prog GL 19 (ctrOf [.st .sess] [.st .sess] sanewF) :=
  fn_ctr (E := E_sanew) tyLP_ok (.nil) sanew_inl eqsLP mixedP in19 (fun c _ => told_none rfl c) (fun xs => sanew_walk xs.1)
/-! innkeep/sess.plain -/
noncomputable def E_splain : Env := { ty := tyLP, ctr := [], inl := [], eqs := [(69, [.int .i64, .int .i64, .int .i64, .int .i64, .int .i64, .int .i64, .int .i64, .int .i64, .int .i64])], glob := GL, L := bigL, get := [] }
noncomputable def splain.H : Hints := ⟨[], []⟩
noncomputable def splainF (s : Sess) : Option (AV) := some (AV.agg [AV.int .i64 s.player, AV.int .i64 s.next, AV.int .i64 s.phase, AV.int .i64 s.step, AV.int .i64 s.has, AV.int .i64 s.tries, AV.int .i64 s.ver, AV.int .i64 s.room, AV.int .i64 s.purse])
theorem splain_inl : InlsOK Tryz.prog E_splain splain.H E_splain.inl := .nil
theorem splain_walk (s : Sess) : evalF E_splain splain.H 40 Tryz.f40 [.agg (SN.cells .sess s)] (fun v => some v) = splainF s := by kernel_rfl
theorem splain_ctr : FnOK Tryz.prog 40 ∧ CtrOK Tryz.prog GL 40 (ctrAV [.st .sess] splainF) :=
  fn_ctr_av (E := E_splain) tyLP_ok (.nil) splain_inl eqsLP mixedP in40 (fun c _ => told_none rfl c) (fun xs => splain_walk xs.1)
/-! innkeep/sess.Same -/
noncomputable def E_ssame : Env := { ty := tyLP, ctr := [(40, ctrAV [.st .sess] splainF), (41, ctrOf [.st .cmd, .st .cmd] [.bool] csameF), (42, ctrOf [.st .reply, .st .reply] [.bool] rsameF), (69, ctrOf [.sl .str, .sl .str] [.bool] tequalF), (72, ctrOf [.sl (.st .key), .sl (.st .key)] [.bool] kequalF), (75, ctrOf [.sl (.st .write), .sl (.st .write)] [.bool] wequalF), (78, ctrOf [.sl (.st .place), .sl (.st .place)] [.bool] pequalF), (64, ctrOf [.sl (.int .i64), .sl (.int .i64)] [.bool] iequalF)], inl := [(43, Tryz.f43), (67, Tryz.f67), (102, Tryz.f102), (68, Tryz.f68), (44, Tryz.f44), (70, Tryz.f70), (103, Tryz.f103), (71, Tryz.f71), (45, Tryz.f45), (73, Tryz.f73), (104, Tryz.f104), (74, Tryz.f74), (46, Tryz.f46), (76, Tryz.f76), (105, Tryz.f105), (77, Tryz.f77), (47, Tryz.f47), (79, Tryz.f79), (106, Tryz.f106), (80, Tryz.f80)], eqs := [(69, [.int .i64, .int .i64, .int .i64, .int .i64, .int .i64, .int .i64, .int .i64, .int .i64, .int .i64])], glob := GL, L := bigL, get := [] }
noncomputable def ssame.H : Hints := ⟨[], []⟩
noncomputable def ssameF (a : Sess) (b : Sess) : Option (Bool) := cnd (band (ieq a.player b.player) (band (ieq a.next b.next) (band (ieq a.phase b.phase) (band (ieq a.step b.step) (band (ieq a.has b.has) (band (ieq a.tries b.tries) (band (ieq a.ver b.ver) (band (ieq a.room b.room) (ieq a.purse b.purse))))))))) (cnd (beq' a.stale b.stale) (obind (csameF (⟨a.cmd.kind, a.cmd.dir, a.cmd.item, a.cmd.box, a.cmd.who, a.cmd.gives, a.cmd.pay, a.cmd.wants, a.cmd.fee⟩) (⟨b.cmd.kind, b.cmd.dir, b.cmd.item, b.cmd.box, b.cmd.who, b.cmd.gives, b.cmd.pay, b.cmd.wants, b.cmd.fee⟩)) (fun x => cnd x (obind (rsameF (⟨a.reply.err, a.reply.kind, a.reply.room, a.reply.players, a.reply.items, a.reply.coins⟩) (⟨b.reply.err, b.reply.kind, b.reply.room, b.reply.players, b.reply.items, b.reply.coins⟩)) (fun x_1 => cnd x_1 (obind (tequalF a.lines b.lines) (fun x_2 => cnd (bnot x_2) (some false) (obind (kequalF a.foot b.foot) (fun x_3 => cnd (bnot x_3) (some false) (obind (wequalF a.plan b.plan) (fun x_4 => cnd (bnot x_4) (some false) (obind (pequalF a.copies b.copies) (fun x_5 => cnd (bnot x_5) (some false) (obind (iequalF a.heads b.heads) (fun x_6 => cnd (bnot x_6) (some false) (some true))))))))))) (some false))) (some false))) (some false)) (some false)
theorem ssame_inl : InlsOK Tryz.prog E_ssame ssame.H E_ssame.inl := .cons in43 (fun c _ => told_none rfl c) (.cons in67 (fun c _ => told_none rfl c) (.cons in102 (fun c _ => told_none rfl c) (.cons in68 (fun c _ => told_none rfl c) (.cons in44 (fun c _ => told_none rfl c) (.cons in70 (fun c _ => told_none rfl c) (.cons in103 (fun c _ => told_none rfl c) (.cons in71 (fun c _ => told_none rfl c) (.cons in45 (fun c _ => told_none rfl c) (.cons in73 (fun c _ => told_none rfl c) (.cons in104 (fun c _ => told_none rfl c) (.cons in74 (fun c _ => told_none rfl c) (.cons in46 (fun c _ => told_none rfl c) (.cons in76 (fun c _ => told_none rfl c) (.cons in105 (fun c _ => told_none rfl c) (.cons in77 (fun c _ => told_none rfl c) (.cons in47 (fun c _ => told_none rfl c) (.cons in79 (fun c _ => told_none rfl c) (.cons in106 (fun c _ => told_none rfl c) (.cons in80 (fun c _ => told_none rfl c) .nil)))))))))))))))))))
theorem ssame_walk (a : Sess) (b : Sess) : evalF E_ssame ssame.H 20 Tryz.f20 [.agg (SN.cells .sess a), .agg (SN.cells .sess b)] (asR [.bool]) = ssameF a b := by kernel_rfl
theorem ssame_ctr : FnOK Tryz.prog 20 ∧ CtrOK Tryz.prog GL 20 (ctrOf [.st .sess, .st .sess] [.bool] ssameF) :=
  fn_ctr (E := E_ssame) tyLP_ok (.cons splain_ctr (.cons csame_ctr (.cons rsame_ctr (.cons tequal_ctr (.cons kequal_ctr (.cons wequal_ctr (.cons pequal_ctr (.cons iequal_ctr .nil)))))))) ssame_inl eqsLP mixedP in20 (fun c _ => told_none rfl c) (fun xs => ssame_walk xs.1 xs.2.1)
/-! innkeep/innkeepref19.Few -/
noncomputable def E_r19few : Env := { ty := tyLP, ctr := [(22, ctrOf [.st .cmd] [.bool] r3fewF), (39, ctrOf [.st .reply] [.bool] r5fewF)], inl := [], eqs := [(69, [.int .i64, .int .i64, .int .i64, .int .i64, .int .i64, .int .i64, .int .i64, .int .i64, .int .i64])], glob := GL, L := bigL, get := [] }
noncomputable def r19few.lr3.sp : SPat := ⟨66, [1, 3, 4], [.ptr 0 0, .int .i64, .int .i64], [.cells [.int .i64, .sl .str, .int .i64, .int .i64, .int .i64, .int .i64, .int .i64, .int .i64, .int .i64, .int .i64, .sl (.int .i64), .int .i64, .sl (.int .i64), .int .i64, .sl (.st .key), .int .i64, .sl (.st .write), .int .i64, .int .i64, .int .i64, .sl (.int .i64), .sl (.st .seen), .int .i64, .bool, .int .i64, .int .i64, .int .i64, .sl (.st .place), .sl (.int .i64), .int .i64]], [], 0⟩
noncomputable def r19few.lr3.es : List (Ex × SPat) := [(.exit 0, ⟨66, [1, 3], [.ptr 0 0, .int .i64], [.cells [.int .i64, .sl .str, .int .i64, .int .i64, .int .i64, .int .i64, .int .i64, .int .i64, .int .i64, .int .i64, .sl (.int .i64), .int .i64, .sl (.int .i64), .int .i64, .sl (.st .key), .int .i64, .sl (.st .write), .int .i64, .int .i64, .int .i64, .sl (.int .i64), .sl (.st .seen), .int .i64, .bool, .int .i64, .int .i64, .int .i64, .sl (.st .place), .sl (.int .i64), .int .i64]], [], 0⟩)]
noncomputable def r19few.lr3.T : (((Int × (Int × Unit)) × ((Int × ((List (List UInt8)) × (Int × (Int × (Int × (Int × (Int × (Int × (Int × (Int × ((List Int) × (Int × ((List Int) × (Int × ((List Sx.Key) × (Int × ((List Sx.Write) × (Int × (Int × (Int × ((List Int) × ((List Sx.Seen) × (Int × (Bool × (Int × (Int × (Int × ((List Sx.Place) × ((List Int) × (Int × Unit)))))))))))))))))))))))))))))) × Unit)) → Option ((Int × Unit) × ((Int × ((List (List UInt8)) × (Int × (Int × (Int × (Int × (Int × (Int × (Int × (Int × ((List Int) × (Int × ((List Int) × (Int × ((List Sx.Key) × (Int × ((List Sx.Write) × (Int × (Int × (Int × ((List Int) × ((List Sx.Seen) × (Int × (Bool × (Int × (Int × (Int × ((List Sx.Place) × ((List Int) × (Int × Unit)))))))))))))))))))))))))))))) × Unit))) → ((Int × (Int × Unit)) × ((Int × ((List (List UInt8)) × (Int × (Int × (Int × (Int × (Int × (Int × (Int × (Int × ((List Int) × (Int × ((List Int) × (Int × ((List Sx.Key) × (Int × ((List Sx.Write) × (Int × (Int × (Int × ((List Int) × ((List Sx.Seen) × (Int × (Bool × (Int × (Int × (Int × ((List Sx.Place) × ((List Int) × (Int × Unit)))))))))))))))))))))))))))))) × Unit)) → Option ((Int × Unit) × ((Int × ((List (List UInt8)) × (Int × (Int × (Int × (Int × (Int × (Int × (Int × (Int × ((List Int) × (Int × ((List Int) × (Int × ((List Sx.Key) × (Int × ((List Sx.Write) × (Int × (Int × (Int × ((List Int) × ((List Sx.Seen) × (Int × (Bool × (Int × (Int × (Int × ((List Sx.Place) × ((List Int) × (Int × Unit)))))))))))))))))))))))))))))) × Unit)) := fun rec x =>
  cnd (ilt x.1.2.1 (ilen x.2.1.2.1)) (cnd (ilt x.1.2.1 100) (obind (lget x.2.1.2.1 x.1.2.1) (fun x_1 => rec ((wrap .i64 (iadd x.1.1 (ilen x_1)), (wrap .i64 (iadd x.1.2.1 1), ())), ((x.2.1.1, (x.2.1.2.1, (x.2.1.2.2.1, (x.2.1.2.2.2.1, (x.2.1.2.2.2.2.1, (x.2.1.2.2.2.2.2.1, (x.2.1.2.2.2.2.2.2.1, (x.2.1.2.2.2.2.2.2.2.1, (x.2.1.2.2.2.2.2.2.2.2.1, (x.2.1.2.2.2.2.2.2.2.2.2.1, (x.2.1.2.2.2.2.2.2.2.2.2.2.1, (x.2.1.2.2.2.2.2.2.2.2.2.2.2.1, (x.2.1.2.2.2.2.2.2.2.2.2.2.2.2.1, (x.2.1.2.2.2.2.2.2.2.2.2.2.2.2.2.1, (x.2.1.2.2.2.2.2.2.2.2.2.2.2.2.2.2.1, (x.2.1.2.2.2.2.2.2.2.2.2.2.2.2.2.2.2.1, (x.2.1.2.2.2.2.2.2.2.2.2.2.2.2.2.2.2.2.1, (x.2.1.2.2.2.2.2.2.2.2.2.2.2.2.2.2.2.2.2.1, (x.2.1.2.2.2.2.2.2.2.2.2.2.2.2.2.2.2.2.2.2.1, (x.2.1.2.2.2.2.2.2.2.2.2.2.2.2.2.2.2.2.2.2.2.1, (x.2.1.2.2.2.2.2.2.2.2.2.2.2.2.2.2.2.2.2.2.2.2.1, (x.2.1.2.2.2.2.2.2.2.2.2.2.2.2.2.2.2.2.2.2.2.2.2.1, (x.2.1.2.2.2.2.2.2.2.2.2.2.2.2.2.2.2.2.2.2.2.2.2.2.1, (x.2.1.2.2.2.2.2.2.2.2.2.2.2.2.2.2.2.2.2.2.2.2.2.2.2.1, (x.2.1.2.2.2.2.2.2.2.2.2.2.2.2.2.2.2.2.2.2.2.2.2.2.2.2.1, (x.2.1.2.2.2.2.2.2.2.2.2.2.2.2.2.2.2.2.2.2.2.2.2.2.2.2.2.1, (x.2.1.2.2.2.2.2.2.2.2.2.2.2.2.2.2.2.2.2.2.2.2.2.2.2.2.2.2.1, (x.2.1.2.2.2.2.2.2.2.2.2.2.2.2.2.2.2.2.2.2.2.2.2.2.2.2.2.2.2.1, (x.2.1.2.2.2.2.2.2.2.2.2.2.2.2.2.2.2.2.2.2.2.2.2.2.2.2.2.2.2.2.1, (x.2.1.2.2.2.2.2.2.2.2.2.2.2.2.2.2.2.2.2.2.2.2.2.2.2.2.2.2.2.2.2.1, ())))))))))))))))))))))))))))))), ())))) (some ((x.1.1, ()), ((x.2.1.1, (x.2.1.2.1, (x.2.1.2.2.1, (x.2.1.2.2.2.1, (x.2.1.2.2.2.2.1, (x.2.1.2.2.2.2.2.1, (x.2.1.2.2.2.2.2.2.1, (x.2.1.2.2.2.2.2.2.2.1, (x.2.1.2.2.2.2.2.2.2.2.1, (x.2.1.2.2.2.2.2.2.2.2.2.1, (x.2.1.2.2.2.2.2.2.2.2.2.2.1, (x.2.1.2.2.2.2.2.2.2.2.2.2.2.1, (x.2.1.2.2.2.2.2.2.2.2.2.2.2.2.1, (x.2.1.2.2.2.2.2.2.2.2.2.2.2.2.2.1, (x.2.1.2.2.2.2.2.2.2.2.2.2.2.2.2.2.1, (x.2.1.2.2.2.2.2.2.2.2.2.2.2.2.2.2.2.1, (x.2.1.2.2.2.2.2.2.2.2.2.2.2.2.2.2.2.2.1, (x.2.1.2.2.2.2.2.2.2.2.2.2.2.2.2.2.2.2.2.1, (x.2.1.2.2.2.2.2.2.2.2.2.2.2.2.2.2.2.2.2.2.1, (x.2.1.2.2.2.2.2.2.2.2.2.2.2.2.2.2.2.2.2.2.2.1, (x.2.1.2.2.2.2.2.2.2.2.2.2.2.2.2.2.2.2.2.2.2.2.1, (x.2.1.2.2.2.2.2.2.2.2.2.2.2.2.2.2.2.2.2.2.2.2.2.1, (x.2.1.2.2.2.2.2.2.2.2.2.2.2.2.2.2.2.2.2.2.2.2.2.2.1, (x.2.1.2.2.2.2.2.2.2.2.2.2.2.2.2.2.2.2.2.2.2.2.2.2.2.1, (x.2.1.2.2.2.2.2.2.2.2.2.2.2.2.2.2.2.2.2.2.2.2.2.2.2.2.1, (x.2.1.2.2.2.2.2.2.2.2.2.2.2.2.2.2.2.2.2.2.2.2.2.2.2.2.2.1, (x.2.1.2.2.2.2.2.2.2.2.2.2.2.2.2.2.2.2.2.2.2.2.2.2.2.2.2.2.1, (x.2.1.2.2.2.2.2.2.2.2.2.2.2.2.2.2.2.2.2.2.2.2.2.2.2.2.2.2.2.1, (x.2.1.2.2.2.2.2.2.2.2.2.2.2.2.2.2.2.2.2.2.2.2.2.2.2.2.2.2.2.2.1, (x.2.1.2.2.2.2.2.2.2.2.2.2.2.2.2.2.2.2.2.2.2.2.2.2.2.2.2.2.2.2.2.1, ())))))))))))))))))))))))))))))), ())))) (some ((x.1.1, ()), ((x.2.1.1, (x.2.1.2.1, (x.2.1.2.2.1, (x.2.1.2.2.2.1, (x.2.1.2.2.2.2.1, (x.2.1.2.2.2.2.2.1, (x.2.1.2.2.2.2.2.2.1, (x.2.1.2.2.2.2.2.2.2.1, (x.2.1.2.2.2.2.2.2.2.2.1, (x.2.1.2.2.2.2.2.2.2.2.2.1, (x.2.1.2.2.2.2.2.2.2.2.2.2.1, (x.2.1.2.2.2.2.2.2.2.2.2.2.2.1, (x.2.1.2.2.2.2.2.2.2.2.2.2.2.2.1, (x.2.1.2.2.2.2.2.2.2.2.2.2.2.2.2.1, (x.2.1.2.2.2.2.2.2.2.2.2.2.2.2.2.2.1, (x.2.1.2.2.2.2.2.2.2.2.2.2.2.2.2.2.2.1, (x.2.1.2.2.2.2.2.2.2.2.2.2.2.2.2.2.2.2.1, (x.2.1.2.2.2.2.2.2.2.2.2.2.2.2.2.2.2.2.2.1, (x.2.1.2.2.2.2.2.2.2.2.2.2.2.2.2.2.2.2.2.2.1, (x.2.1.2.2.2.2.2.2.2.2.2.2.2.2.2.2.2.2.2.2.2.1, (x.2.1.2.2.2.2.2.2.2.2.2.2.2.2.2.2.2.2.2.2.2.2.1, (x.2.1.2.2.2.2.2.2.2.2.2.2.2.2.2.2.2.2.2.2.2.2.2.1, (x.2.1.2.2.2.2.2.2.2.2.2.2.2.2.2.2.2.2.2.2.2.2.2.2.1, (x.2.1.2.2.2.2.2.2.2.2.2.2.2.2.2.2.2.2.2.2.2.2.2.2.2.1, (x.2.1.2.2.2.2.2.2.2.2.2.2.2.2.2.2.2.2.2.2.2.2.2.2.2.2.1, (x.2.1.2.2.2.2.2.2.2.2.2.2.2.2.2.2.2.2.2.2.2.2.2.2.2.2.2.1, (x.2.1.2.2.2.2.2.2.2.2.2.2.2.2.2.2.2.2.2.2.2.2.2.2.2.2.2.2.1, (x.2.1.2.2.2.2.2.2.2.2.2.2.2.2.2.2.2.2.2.2.2.2.2.2.2.2.2.2.2.1, (x.2.1.2.2.2.2.2.2.2.2.2.2.2.2.2.2.2.2.2.2.2.2.2.2.2.2.2.2.2.2.1, (x.2.1.2.2.2.2.2.2.2.2.2.2.2.2.2.2.2.2.2.2.2.2.2.2.2.2.2.2.2.2.2.1, ())))))))))))))))))))))))))))))), ())))
noncomputable def r19few.lr3 : Alt := ⟨r19few.lr3.sp, r19few.lr3.es, 100, r19few.lr3.T⟩
noncomputable def r19few.H : Hints := ⟨[(18, [(3, [r19few.lr3])])], []⟩
noncomputable def r19fewF (s : Sess) : Option (Bool) := obind (iter r19few.lr3.T bigL (((0, (0, ())), ((s.player, (s.lines, (s.next, (s.phase, (s.step, (s.cmd.kind, (s.cmd.dir, (s.cmd.item, (s.cmd.box, (s.cmd.who, (s.cmd.gives, (s.cmd.pay, (s.cmd.wants, (s.cmd.fee, (s.foot, (s.has, (s.plan, (s.reply.err, (s.reply.kind, (s.reply.room, (s.reply.players, (s.reply.items, (s.reply.coins, (s.stale, (s.tries, (s.ver, (s.room, (s.copies, (s.heads, (s.purse, ())))))))))))))))))))))))))))))), ())))) (fun x => cnd (ile (ilen x.2.1.2.1) 40) (cnd (ile x.1.1 20000) (obind (r3fewF (⟨x.2.1.2.2.2.2.2.1, x.2.1.2.2.2.2.2.2.1, x.2.1.2.2.2.2.2.2.2.1, x.2.1.2.2.2.2.2.2.2.2.1, x.2.1.2.2.2.2.2.2.2.2.2.1, x.2.1.2.2.2.2.2.2.2.2.2.2.1, x.2.1.2.2.2.2.2.2.2.2.2.2.2.1, x.2.1.2.2.2.2.2.2.2.2.2.2.2.2.1, x.2.1.2.2.2.2.2.2.2.2.2.2.2.2.2.1⟩)) (fun x_1 => cnd x_1 (obind (r5fewF (⟨x.2.1.2.2.2.2.2.2.2.2.2.2.2.2.2.2.2.2.2.1, x.2.1.2.2.2.2.2.2.2.2.2.2.2.2.2.2.2.2.2.2.1, x.2.1.2.2.2.2.2.2.2.2.2.2.2.2.2.2.2.2.2.2.2.1, x.2.1.2.2.2.2.2.2.2.2.2.2.2.2.2.2.2.2.2.2.2.2.1, x.2.1.2.2.2.2.2.2.2.2.2.2.2.2.2.2.2.2.2.2.2.2.2.1, x.2.1.2.2.2.2.2.2.2.2.2.2.2.2.2.2.2.2.2.2.2.2.2.2.1⟩)) (fun x_2 => cnd x_2 (cnd (ile (ilen x.2.1.2.2.2.2.2.2.2.2.2.2.2.2.2.2.1) 20) (cnd (ile (ilen x.2.1.2.2.2.2.2.2.2.2.2.2.2.2.2.2.2.2.1) 60) (cnd (ile (ilen x.2.1.2.2.2.2.2.2.2.2.2.2.2.2.2.2.2.2.2.2.2.2.2.2.2.2.2.2.2.1) 60) (some (ile (ilen x.2.1.2.2.2.2.2.2.2.2.2.2.2.2.2.2.2.2.2.2.2.2.2.2.2.2.2.2.2.2.1) 60)) (some false)) (some false)) (some false)) (some false))) (some false))) (some false)) (some false))
theorem r19few_r18_0 : Alt.Round E_r19few r19few.H 18 (oblAt r19few.H 18 Tryz.f18 0) r19few.lr3 := by intro rec x; kernel_rfl
theorem r19few_told18 : ∀ c, Tryz.f18.body = some c → ToldC E_r19few r19few.H 18 c := told_of [r19few.lr3] (by kernel_rfl) (fun i hi => match i, hi with | 0, _ => r19few_r18_0 | n + 1, h => absurd h (by simp))
theorem r19few_inl : InlsOK Tryz.prog E_r19few r19few.H E_r19few.inl := .nil
theorem r19few_walk (s : Sess) : evalF E_r19few r19few.H 18 Tryz.f18 [.agg (SN.cells .sess s)] (asR [.bool]) = r19fewF s := by kernel_rfl
theorem r19few_ctr : FnOK Tryz.prog 18 ∧ CtrOK Tryz.prog GL 18 (ctrOf [.st .sess] [.bool] r19fewF) :=
  fn_ctr (E := E_r19few) tyLP_ok (.cons r3few_ctr (.cons r5few_ctr .nil)) r19few_inl eqsLP mixedP in18 r19few_told18 (fun xs => r19few_walk xs.1)
/-! innkeep/innkeeplaw19.few -/
noncomputable def E_wfew : Env := { ty := tyLP, ctr := [(18, ctrOf [.st .sess] [.bool] r19fewF)], inl := [], eqs := [(69, [.int .i64, .int .i64, .int .i64, .int .i64, .int .i64, .int .i64, .int .i64, .int .i64, .int .i64])], glob := GL, L := bigL, get := [] }
noncomputable def wfew.H : Hints := ⟨[], []⟩
noncomputable def wfewF (c : Script) : Option (Bool) := obind (r19fewF (⟨0, c.lines, 0, 0, 0, ⟨0, 0, 0, 0, 0, ([] : List Int), 0, ([] : List Int), 0⟩, [], 0, [], ⟨0, 0, 0, ([] : List Int), [], 0⟩, false, 0, 0, 0, [], ([] : List Int), 0⟩)) (fun x => some x)
theorem wfew_inl : InlsOK Tryz.prog E_wfew wfew.H E_wfew.inl := .nil
theorem wfew_walk (c : Script) : evalF E_wfew wfew.H 11 Tryz.f11 [.agg (SN.cells .script c)] (asR [.bool]) = wfewF c := by kernel_rfl
theorem wfew_ctr : FnOK Tryz.prog 11 ∧ CtrOK Tryz.prog GL 11 (ctrOf [.st .script] [.bool] wfewF) :=
  fn_ctr (E := E_wfew) tyLP_ok (.cons r19few_ctr .nil) wfew_inl eqsLP mixedP in11 (fun c _ => told_none rfl c) (fun xs => wfew_walk xs.1)
end Go.Sx
