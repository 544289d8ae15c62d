/- The law TokenBack of the program is true for every input, and leaves its input as it was (a line's words are plain; joined, and cut, they are the same; plain words that are joined are cut into the same; with gaps more, ahead, behind and between, nothing changes). Conditions: none; the listed variables are tied to the program's text. -/
import Derived.Test.YtklnhbaicfmohaaDoorRows
import Derived.Test.YtklnhbaicfmohaaDoorCards
import Derived.Test.YtklnhbaicfmohaaDoorTie
import Derived.Test.YtklnhbaicfmohaaDoorSxTy
import Derived.ProofKit
import Derived.SizedLaws
import Derived.Lay
import Derived.LaidOnce
import Derived.SevenTiedAt
namespace Go.Proofs.YtklnhbaicfmohaaDoor.sxTokenBack
open Go Go.Sx Go.ChangeShapes Go.WideShapes Go.ChangeAt Go.RowKit
theorem own : ownKnob Tryd.prog.godebug = none := by kernel_rfl
theorem laidOut : laidOutB Tryd.prog = true := by kernel_rfl
theorem okKinds : argsK Tryd.prog Tryd.f5.params.toList [.str, .sl .str, .int .u8] = true := by kernel_rfl
theorem tells : ∀ xs : Lf [.str, .sl .str, .int .u8], (∀ m, wfA m _ xs) → CallsTo Tryd.prog GL 5 (cellsL [.str, .sl .str, .int .u8] xs) (.bool true) := tokenBack_law tokenBack_ok
set_option maxRecDepth 100000 in
theorem lifted (os : Os) (started : os.Started) (H : Type) (enc : TypeId × Value → H) :
    ReturnsInHanded {} Tryd.checked os 5 .any (fun w args => (Rows.tokenBackSpec.pre enc Tryd.prog Tryd.f5 [] false w args ∧ laidMetH Tryd.prog Rows.tokenBackRow.laid w) ∧ sizedMet enc Tryd.prog Tryd.f5 (OpenSpec.ofChange Rows.tokenBackSpec) false w args)
      (Rows.tokenBackSpec.post enc Tryd.prog Tryd.f5 false true false false) := by
  refine returnsInHanded_of_change_and (C := Tryd.checked) (X := fun w _ => laidMetH Tryd.prog Rows.tokenBackRow.laid w) (fun _ _ _ hh h => h.of_heap hh) own started (by kernel_rfl) Tryd.func5
    (ChangeSpec.witness_shaped (enc := enc) (C := Tryd.checked) (os := os) (X := fun w _ => laidMetH Tryd.prog Rows.tokenBackRow.laid w) false (World.laidAll Tryd.prog os Rows.tokenBackRow.laid) #[.string ByteArray.empty, .slice none 0 0, .int .u8 0] 8 (World.laidAll_os _ _ _)
      (World.shaped_of_ZipB (by kernel_rfl) (by kernel_rfl)) (by kernel_rfl) (by kernel_rfl) (by kernel_rfl)
      (by rw [MakeChecks.laidMetH_plain _ _ _ (by kernel_rfl)]; exact laidMet_laidAll _ (by kernel_rfl) (by kernel_rfl))) ?_
  intro W base args ds gs before hval0 hW0 _ hsz0 hL _
  have hsz : (DataW.weightsEach Tryd.prog (Tryd.f5.params.toList ++ Rows.tokenBackSpec.plain.varTypes Tryd.prog) (ds ++ gs)).all (· ≤ reachBytes) = true := hsz0
  have hval : ∀ (j : Nat) t v, Tryd.f5.params[j]? = some t → args[j]? = some v → Value.okWide Tryd.prog W .any base t v := hval0
  have hW : DataW.Whole enc Tryd.prog Tryd.f5.params.toList Rows.tokenBackSpec.vars false W args.toList ds gs before := hW0
  exact law_calls_gl (fn := Tryd.f5) (tb := 4) tells (gok_laid hL) laidOut okKinds rfl (by kernel_rfl) (by kernel_rfl) (fun ds hd => match ds, hd with | [_, _, _], _ => rfl) hval hW hsz
theorem proved : Rows.TokenBackSaid :=
  OpenClaim.holds_of_wide 5 Tryd.f5 rfl rfl rfl rfl rfl rfl rfl ⟨rfl, rfl, rfl, rfl, rfl⟩ rfl rfl rfl rfl rfl (by kernel_rfl) Tryd.func5 (by kernel_rfl)
    (of_decide_eq_true (by kernel_rfl)) (by unfold Func.isWrapper; first | (rw [if_pos (by decide +kernel)]; kernel_rfl) | (rw [if_neg (by decide +kernel)]; exact ⟨rfl, rfl⟩))
    (fun os started H enc _ => lifted os started H enc)
theorem pars : Tryd.f5.params = #[9, 22, 5] := by kernel_rfl
theorem card : Rows.TokenBackCardSaid :=
  Claim7.holds_tied_plain_at .later [] [.data, .data, .data, .data, .sentinel, .sentinel, .pinned] true (true, "a4d4fddc58f4eb1838ba89309df6d53ba9f9eb8352ac16dfd28cadc037b3103e") true proved (fun _ h => by cases h) (by kernel_rfl) (fun _ h => by cases h) tokenBack_row_tie rfl ⟨rfl, rfl⟩ (by kernel_rfl) rfl
    (fun f fn hf hfn => by
      obtain rfl : f = 5 := Option.some.inj ((show Tryd.prog.funcNamed "innkeep/innkeeplaw02.TokenBack" = some 5 by kernel_rfl).symm.trans hf) |>.symm
      obtain rfl : fn = Tryd.f5 := (Option.some.inj (Tryd.func5.symm.trans hfn)).symm
      exact ⟨by kernel_rfl, fun j t ht => by
        rw [pars] at ht
        have hm : t ∈ [9, 22, 5] := by simpa using Array.mem_of_getElem? ht
        have hall : ([9, 22, 5].all fun u => !Tryd.prog.wantsStandIn u) = true := by kernel_rfl
        exact (show Tryd.prog.wantsStandIn t = false by simpa using List.all_eq_true.1 hall t hm)⟩)
    (by kernel_rfl)
end Go.Proofs.YtklnhbaicfmohaaDoor.sxTokenBack
namespace Go.Proofs.YtklnhbaicfmohaaDoor
/-- The card, under a short name. -/
theorem tokenBack_holds : Rows.TokenBackCardSaid := sxTokenBack.card
end Go.Proofs.YtklnhbaicfmohaaDoor
