/- The law LinearApart of the program is true for every input, and leaves its input as it was (calls that don't overlap, done at once one behind the other, have one good order alone, if each is answered: that in which they came; with an answer that wasn't given, none). Conditions: none; the listed variables are tied to the program's text. -/
import Derived.Test.YtcpabdpbldmmmaaGreatDoorRows
import Derived.Test.YtcpabdpbldmmmaaGreatDoorCards
import Derived.Test.YtcpabdpbldmmmaaGreatDoorTie
import Derived.Test.YtcpabdpbldmmmaaGreatDoorSyR
import Derived.Test.YtcpabdpbldmmmaaGreatDoorLyTx
import Derived.ProofKit
import Derived.SizedLaws
import Derived.Lay
import Derived.LaidOnce
import Derived.SevenTiedAt
namespace Go.Proofs.YtcpabdpbldmmmaaGreatDoor.sxLinearApart
open Go Go.Sx Go.ChangeShapes Go.WideShapes Go.ChangeAt Go.RowKit
theorem own : ownKnob Tryz.prog.godebug = none := by kernel_rfl
theorem laidOut : laidOutB Tryz.prog = true := by kernel_rfl
theorem okKinds : argsK Tryz.prog Tryz.f5.params.toList [.st .world, .sl (.st .call), .int .u8] = true := by kernel_rfl
theorem tells : ∀ xs : Lf [.st .world, .sl (.st .call), .int .u8], (∀ m, wfA m _ xs) → CallsTo Tryz.prog GL 5 (cellsL [.st .world, .sl (.st .call), .int .u8] xs) (.bool true) := linearApart_law linearApart_ok
set_option maxRecDepth 100000 in
theorem lifted (os : Os) (started : os.Started) (H : Type) (enc : TypeId × Value → H) :
    ReturnsInHanded {} Tryz.checked os 5 .any (fun w args => (Rows.linearApartSpec.pre enc Tryz.prog Tryz.f5 [] false w args ∧ laidMetH Tryz.prog Rows.linearApartRow.laid w) ∧ sizedMet enc Tryz.prog Tryz.f5 (OpenSpec.ofChange Rows.linearApartSpec) false w args)
      (Rows.linearApartSpec.post enc Tryz.prog Tryz.f5 false true false false) := by
  refine returnsInHanded_of_change_and (C := Tryz.checked) (X := fun w _ => laidMetH Tryz.prog Rows.linearApartRow.laid w) (fun _ _ _ hh h => h.of_heap hh) own started (by kernel_rfl) Tryz.func5
    (ChangeSpec.witness_shaped (enc := enc) (C := Tryz.checked) (os := os) (X := fun w _ => laidMetH Tryz.prog Rows.linearApartRow.laid w) false (World.laidAll Tryz.prog os Rows.linearApartRow.laid) #[.agg #[.slice none 0 0, .slice none 0 0, .slice none 0 0, .slice none 0 0, .slice none 0 0, .int .i64 0, .int .i64 0, .int .i64 0, .slice none 0 0, .slice none 0 0, .slice none 0 0], .slice none 0 0, .int .u8 0] 8 (World.laidAll_os _ _ _)
      (World.shaped_of_ZipB (by kernel_rfl) (by kernel_rfl)) (by kernel_rfl) (by kernel_rfl) (by kernel_rfl)
      (by rw [MakeChecks.laidMetH_plain _ _ _ (by kernel_rfl)]; exact laidMet_laidAll _ (by kernel_rfl) (by kernel_rfl))) ?_
  intro W base args ds gs before hval0 hW0 _ hsz0 hL _
  have hsz : (DataW.weightsEach Tryz.prog (Tryz.f5.params.toList ++ Rows.linearApartSpec.plain.varTypes Tryz.prog) (ds ++ gs)).all (· ≤ reachBytes) = true := hsz0
  have hval : ∀ (j : Nat) t v, Tryz.f5.params[j]? = some t → args[j]? = some v → Value.okWide Tryz.prog W .any base t v := hval0
  have hW : DataW.Whole enc Tryz.prog Tryz.f5.params.toList Rows.linearApartSpec.vars false W args.toList ds gs before := hW0
  exact law_calls_gl (fn := Tryz.f5) (tb := 4) tells (gok_laid hL) laidOut okKinds rfl (by kernel_rfl) (by kernel_rfl) (fun ds hd => match ds, hd with | [_, _, _], _ => rfl) hval hW hsz
theorem proved : Rows.LinearApartSaid :=
  OpenClaim.holds_of_wide 5 Tryz.f5 rfl rfl rfl rfl rfl rfl rfl ⟨rfl, rfl, rfl, rfl, rfl⟩ rfl rfl rfl rfl rfl (by kernel_rfl) Tryz.func5 (by kernel_rfl)
    (of_decide_eq_true (by kernel_rfl)) (by unfold Func.isWrapper; first | (rw [if_pos (by decide +kernel)]; kernel_rfl) | (rw [if_neg (by decide +kernel)]; exact ⟨rfl, rfl⟩))
    (fun os started H enc _ => lifted os started H enc)
theorem pars : Tryz.f5.params = #[29, 30, 5] := by kernel_rfl
theorem card : Rows.LinearApartCardSaid :=
  Claim7.holds_tied_plain_at .later [] [.widerDeep, .widerDeep] true (true, "55e1366739f21eefbfab6ddeb990d57147e0100f36c6921ceb302cd39e2bdccd") false proved (fun _ h => by cases h) (by kernel_rfl) (fun _ h => by cases h) linearApart_row_tie rfl ⟨rfl, rfl⟩ (by kernel_rfl) rfl
    (fun f fn hf hfn => by
      obtain rfl : f = 5 := Option.some.inj ((show Tryz.prog.funcNamed "innkeep/innkeeplaw24.LinearApart" = some 5 by kernel_rfl).symm.trans hf) |>.symm
      obtain rfl : fn = Tryz.f5 := (Option.some.inj (Tryz.func5.symm.trans hfn)).symm
      exact ⟨by kernel_rfl, fun j t ht => by
        rw [pars] at ht
        have hm : t ∈ [29, 30, 5] := by simpa using Array.mem_of_getElem? ht
        have hall : ([29, 30, 5].all fun u => !Tryz.prog.wantsStandIn u) = true := by kernel_rfl
        exact (show Tryz.prog.wantsStandIn t = false by simpa using List.all_eq_true.1 hall t hm)⟩)
    (by kernel_rfl)
end Go.Proofs.YtcpabdpbldmmmaaGreatDoor.sxLinearApart
namespace Go.Proofs.YtcpabdpbldmmmaaGreatDoor
/-- The card, under a short name. -/
theorem linearApart_holds : Rows.LinearApartCardSaid := sxLinearApart.card
end Go.Proofs.YtcpabdpbldmmmaaGreatDoor
