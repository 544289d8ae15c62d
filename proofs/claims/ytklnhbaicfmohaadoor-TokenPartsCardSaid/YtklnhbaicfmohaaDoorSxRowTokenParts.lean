/- The law TokenParts of the program is true for every input, and leaves its input as it was (the words of two lines, with a gap between, are those of the one, and then those of the other; without it, the last one of the first may go on). Conditions: none; the listed variables are tied to the program's text. -/
import Derived.Test.YtklnhbaicfmohaaDoorRows
import Derived.Test.YtklnhbaicfmohaaDoorCards
import Derived.Test.YtklnhbaicfmohaaDoorTie
import Derived.Test.YtklnhbaicfmohaaDoorSxTq
import Derived.ProofKit
import Derived.SizedLaws
import Derived.Lay
import Derived.LaidOnce
import Derived.SevenTiedAt
namespace Go.Proofs.YtklnhbaicfmohaaDoor.sxTokenParts
open Go Go.Sx Go.ChangeShapes Go.WideShapes Go.ChangeAt Go.RowKit
theorem own : ownKnob Tryd.prog.godebug = none := by kernel_rfl
theorem laidOut : laidOutB Tryd.prog = true := by kernel_rfl
theorem okKinds : argsK Tryd.prog Tryd.f6.params.toList [.str, .str] = true := by kernel_rfl
theorem tells : ∀ xs : Lf [.str, .str], (∀ m, wfA m _ xs) → CallsTo Tryd.prog GL 6 (cellsL [.str, .str] xs) (.bool true) := tokenParts_law tokenParts_ok
set_option maxRecDepth 100000 in
theorem lifted (os : Os) (started : os.Started) (H : Type) (enc : TypeId × Value → H) :
    ReturnsInHanded {} Tryd.checked os 6 .any (fun w args => (Rows.tokenPartsSpec.pre enc Tryd.prog Tryd.f6 [] false w args ∧ laidMetH Tryd.prog Rows.tokenPartsRow.laid w) ∧ sizedMet enc Tryd.prog Tryd.f6 (OpenSpec.ofChange Rows.tokenPartsSpec) false w args)
      (Rows.tokenPartsSpec.post enc Tryd.prog Tryd.f6 false true false false) := by
  refine returnsInHanded_of_change_and (C := Tryd.checked) (X := fun w _ => laidMetH Tryd.prog Rows.tokenPartsRow.laid w) (fun _ _ _ hh h => h.of_heap hh) own started (by kernel_rfl) Tryd.func6
    (ChangeSpec.witness_shaped (enc := enc) (C := Tryd.checked) (os := os) (X := fun w _ => laidMetH Tryd.prog Rows.tokenPartsRow.laid w) false (World.laidAll Tryd.prog os Rows.tokenPartsRow.laid) #[.string ByteArray.empty, .string ByteArray.empty] 8 (World.laidAll_os _ _ _)
      (World.shaped_of_ZipB (by kernel_rfl) (by kernel_rfl)) (by kernel_rfl) (by kernel_rfl) (by kernel_rfl)
      (by rw [MakeChecks.laidMetH_plain _ _ _ (by kernel_rfl)]; exact laidMet_laidAll _ (by kernel_rfl) (by kernel_rfl))) ?_
  intro W base args ds gs before hval0 hW0 _ hsz0 hL _
  have hsz : (DataW.weightsEach Tryd.prog (Tryd.f6.params.toList ++ Rows.tokenPartsSpec.plain.varTypes Tryd.prog) (ds ++ gs)).all (· ≤ reachBytes) = true := hsz0
  have hval : ∀ (j : Nat) t v, Tryd.f6.params[j]? = some t → args[j]? = some v → Value.okWide Tryd.prog W .any base t v := hval0
  have hW : DataW.Whole enc Tryd.prog Tryd.f6.params.toList Rows.tokenPartsSpec.vars false W args.toList ds gs before := hW0
  exact law_calls_gl (fn := Tryd.f6) (tb := 4) tells (gok_laid hL) laidOut okKinds rfl (by kernel_rfl) (by kernel_rfl) (fun ds hd => match ds, hd with | [_, _], _ => rfl) hval hW hsz
theorem proved : Rows.TokenPartsSaid :=
  OpenClaim.holds_of_wide 6 Tryd.f6 rfl rfl rfl rfl rfl rfl rfl ⟨rfl, rfl, rfl, rfl, rfl⟩ rfl rfl rfl rfl rfl (by kernel_rfl) Tryd.func6 (by kernel_rfl)
    (of_decide_eq_true (by kernel_rfl)) (by unfold Func.isWrapper; first | (rw [if_pos (by decide +kernel)]; kernel_rfl) | (rw [if_neg (by decide +kernel)]; exact ⟨rfl, rfl⟩))
    (fun os started H enc _ => lifted os started H enc)
theorem pars : Tryd.f6.params = #[9, 9] := by kernel_rfl
theorem card : Rows.TokenPartsCardSaid :=
  Claim7.holds_tied_plain_at .later [] [.data, .data, .data, .data, .sentinel, .sentinel, .pinned] true (true, "a4d4fddc58f4eb1838ba89309df6d53ba9f9eb8352ac16dfd28cadc037b3103e") true proved (fun _ h => by cases h) (by kernel_rfl) (fun _ h => by cases h) tokenParts_row_tie rfl ⟨rfl, rfl⟩ (by kernel_rfl) rfl
    (fun f fn hf hfn => by
      obtain rfl : f = 6 := Option.some.inj ((show Tryd.prog.funcNamed "innkeep/innkeeplaw02.TokenParts" = some 6 by kernel_rfl).symm.trans hf) |>.symm
      obtain rfl : fn = Tryd.f6 := (Option.some.inj (Tryd.func6.symm.trans hfn)).symm
      exact ⟨by kernel_rfl, fun j t ht => by
        rw [pars] at ht
        have hm : t ∈ [9, 9] := by simpa using Array.mem_of_getElem? ht
        have hall : ([9, 9].all fun u => !Tryd.prog.wantsStandIn u) = true := by kernel_rfl
        exact (show Tryd.prog.wantsStandIn t = false by simpa using List.all_eq_true.1 hall t hm)⟩)
    (by kernel_rfl)
end Go.Proofs.YtklnhbaicfmohaaDoor.sxTokenParts
namespace Go.Proofs.YtklnhbaicfmohaaDoor
/-- The card, under a short name. -/
theorem tokenParts_holds : Rows.TokenPartsCardSaid := sxTokenParts.card
end Go.Proofs.YtklnhbaicfmohaaDoor
