/- The law LineKinds of the program is true for every input, and leaves its input as it was (a line's first word is its command's kind, and no other kind's line has it; two commands of unlike kinds have unlike lines, of whatever else). Conditions: none; the listed variables are tied to the program's text. -/
import Derived.Test.YtcpildkbkjeijaaGreatDoorRows
import Derived.Test.YtcpildkbkjeijaaGreatDoorCards
import Derived.Test.YtcpildkbkjeijaaGreatDoorTie
import Derived.Test.YtcpildkbkjeijaaGreatDoorSyR
import Derived.Test.YtcpildkbkjeijaaGreatDoorSyTk
import Derived.ProofKit
import Derived.SizedLaws
import Derived.Lay
import Derived.LaidOnce
import Derived.SevenTiedAt
namespace Go.Proofs.YtcpildkbkjeijaaGreatDoor.sxLineKinds
open Go Go.Sx Go.ChangeShapes Go.WideShapes Go.ChangeAt Go.RowKit
theorem own : ownKnob Tryz.prog.godebug = none := by kernel_rfl
theorem laidOut : laidOutB Tryz.prog = true := by kernel_rfl
theorem okKinds : argsK Tryz.prog Tryz.f9.params.toList [.st .cmd, .int .u8] = true := by kernel_rfl
theorem tells : ∀ xs : Lf [.st .cmd, .int .u8], (∀ m, wfA m _ xs) → CallsTo Tryz.prog GL 9 (cellsL [.st .cmd, .int .u8] xs) (.bool true) := lineKinds_law lineKinds_ok
set_option maxRecDepth 100000 in
theorem lifted (os : Os) (started : os.Started) (H : Type) (enc : TypeId × Value → H) :
    ReturnsInHanded {} Tryz.checked os 9 .any (fun w args => (Rows.lineKindsSpec.pre enc Tryz.prog Tryz.f9 [] false w args ∧ laidMetH Tryz.prog Rows.lineKindsRow.laid w) ∧ sizedMet enc Tryz.prog Tryz.f9 (OpenSpec.ofChange Rows.lineKindsSpec) false w args)
      (Rows.lineKindsSpec.post enc Tryz.prog Tryz.f9 false true false false) := by
  refine returnsInHanded_of_change_and (C := Tryz.checked) (X := fun w _ => laidMetH Tryz.prog Rows.lineKindsRow.laid w) (fun _ _ _ hh h => h.of_heap hh) own started (by kernel_rfl) Tryz.func9
    (ChangeSpec.witness_shaped (enc := enc) (C := Tryz.checked) (os := os) (X := fun w _ => laidMetH Tryz.prog Rows.lineKindsRow.laid w) false (World.laidAll Tryz.prog os Rows.lineKindsRow.laid) #[.agg #[.int .i64 0, .int .i64 0, .int .i64 0, .int .i64 0, .int .i64 0, .slice none 0 0, .int .i64 0, .slice none 0 0, .int .i64 0], .int .u8 0] 8 (World.laidAll_os _ _ _)
      (World.shaped_of_ZipB (by kernel_rfl) (by kernel_rfl)) (by kernel_rfl) (by kernel_rfl) (by kernel_rfl)
      (by rw [MakeChecks.laidMetH_plain _ _ _ (by kernel_rfl)]; exact laidMet_laidAll _ (by kernel_rfl) (by kernel_rfl))) ?_
  intro W base args ds gs before hval0 hW0 _ hsz0 hL _
  have hsz : (DataW.weightsEach Tryz.prog (Tryz.f9.params.toList ++ Rows.lineKindsSpec.plain.varTypes Tryz.prog) (ds ++ gs)).all (· ≤ reachBytes) = true := hsz0
  have hval : ∀ (j : Nat) t v, Tryz.f9.params[j]? = some t → args[j]? = some v → Value.okWide Tryz.prog W .any base t v := hval0
  have hW : DataW.Whole enc Tryz.prog Tryz.f9.params.toList Rows.lineKindsSpec.vars false W args.toList ds gs before := hW0
  exact law_calls_gl (fn := Tryz.f9) (tb := 4) tells (gok_laid hL) laidOut okKinds rfl (by kernel_rfl) (by kernel_rfl) (fun ds hd => match ds, hd with | [_, _], _ => rfl) hval hW hsz
theorem proved : Rows.LineKindsSaid :=
  OpenClaim.holds_of_wide 9 Tryz.f9 rfl rfl rfl rfl rfl rfl rfl ⟨rfl, rfl, rfl, rfl, rfl⟩ rfl rfl rfl rfl rfl (by kernel_rfl) Tryz.func9 (by kernel_rfl)
    (of_decide_eq_true (by kernel_rfl)) (by unfold Func.isWrapper; first | (rw [if_pos (by decide +kernel)]; kernel_rfl) | (rw [if_neg (by decide +kernel)]; exact ⟨rfl, rfl⟩))
    (fun os started H enc _ => lifted os started H enc)
theorem pars : Tryz.f9.params = #[29, 5] := by kernel_rfl
theorem card : Rows.LineKindsCardSaid :=
  Claim7.holds_tied_plain_at .later [] [.data, .data, .data, .data, .widerDeep, .widerDeep, .sentinel, .sentinel, .pinned] true (true, "e8f079dfcbd4b6c9f03ffaa2a789cf89204bbfe7176151def592f8a0f67b55bb") true proved (fun _ h => by cases h) (by kernel_rfl) (fun _ h => by cases h) lineKinds_row_tie rfl ⟨rfl, rfl⟩ (by kernel_rfl) rfl
    (fun f fn hf hfn => by
      obtain rfl : f = 9 := Option.some.inj ((show Tryz.prog.funcNamed "innkeep/innkeeplaw04.LineKinds" = some 9 by kernel_rfl).symm.trans hf) |>.symm
      obtain rfl : fn = Tryz.f9 := (Option.some.inj (Tryz.func9.symm.trans hfn)).symm
      exact ⟨by kernel_rfl, fun j t ht => by
        rw [pars] at ht
        have hm : t ∈ [29, 5] := by simpa using Array.mem_of_getElem? ht
        have hall : ([29, 5].all fun u => !Tryz.prog.wantsStandIn u) = true := by kernel_rfl
        exact (show Tryz.prog.wantsStandIn t = false by simpa using List.all_eq_true.1 hall t hm)⟩)
    (by kernel_rfl)
end Go.Proofs.YtcpildkbkjeijaaGreatDoor.sxLineKinds
namespace Go.Proofs.YtcpildkbkjeijaaGreatDoor
/-- The card, under a short name. -/
theorem lineKinds_holds : Rows.LineKindsCardSaid := sxLineKinds.card
end Go.Proofs.YtcpildkbkjeijaaGreatDoor
