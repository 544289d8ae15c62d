/- The law ReplyLess of the program is true for every input, and leaves its input as it was (a look that tells an item less is another answer, and so is one that tells a player more; with more than 16 of either it may not be). Conditions: none; the listed variables are tied to the program's text. -/
import Derived.Test.YtcpildkbkjeijaaDoorRows
import Derived.Test.YtcpildkbkjeijaaDoorCards
import Derived.Test.YtcpildkbkjeijaaDoorTie
import Derived.Test.YtcpildkbkjeijaaDoorSyR
import Derived.Test.YtcpildkbkjeijaaDoorRyTn
import Derived.ProofKit
import Derived.SizedLaws
import Derived.Lay
import Derived.LaidOnce
import Derived.SevenTiedAt
namespace Go.Proofs.YtcpildkbkjeijaaDoor.sxReplyLess
open Go Go.Sx Go.ChangeShapes Go.WideShapes Go.ChangeAt Go.RowKit
theorem own : ownKnob Tryd.prog.godebug = none := by kernel_rfl
theorem laidOut : laidOutB Tryd.prog = true := by kernel_rfl
theorem okKinds : argsK Tryd.prog Tryd.f7.params.toList [.st .reply, .int .u32] = true := by kernel_rfl
theorem tells : ∀ xs : Lf [.st .reply, .int .u32], (∀ m, wfA m _ xs) → CallsTo Tryd.prog GL 7 (cellsL [.st .reply, .int .u32] xs) (.bool true) := replyLess_law replyLess_ok
set_option maxRecDepth 100000 in
theorem lifted (os : Os) (started : os.Started) (H : Type) (enc : TypeId × Value → H) :
    ReturnsInHanded {} Tryd.checked os 7 .any (fun w args => (Rows.replyLessSpec.pre enc Tryd.prog Tryd.f7 [] false w args ∧ laidMetH Tryd.prog Rows.replyLessRow.laid w) ∧ sizedMet enc Tryd.prog Tryd.f7 (OpenSpec.ofChange Rows.replyLessSpec) false w args)
      (Rows.replyLessSpec.post enc Tryd.prog Tryd.f7 false true false false) := by
  refine returnsInHanded_of_change_and (C := Tryd.checked) (X := fun w _ => laidMetH Tryd.prog Rows.replyLessRow.laid w) (fun _ _ _ hh h => h.of_heap hh) own started (by kernel_rfl) Tryd.func7
    (ChangeSpec.witness_shaped (enc := enc) (C := Tryd.checked) (os := os) (X := fun w _ => laidMetH Tryd.prog Rows.replyLessRow.laid w) false (World.laidAll Tryd.prog os Rows.replyLessRow.laid) #[.agg #[.int .i64 0, .int .i64 0, .int .i64 0, .slice none 0 0, .slice none 0 0, .int .i64 0], .int .u32 0] 8 (World.laidAll_os _ _ _)
      (World.shaped_of_ZipB (by kernel_rfl) (by kernel_rfl)) (by kernel_rfl) (by kernel_rfl) (by kernel_rfl)
      (by rw [MakeChecks.laidMetH_plain _ _ _ (by kernel_rfl)]; exact laidMet_laidAll _ (by kernel_rfl) (by kernel_rfl))) ?_
  intro W base args ds gs before hval0 hW0 _ hsz0 hL _
  have hsz : (DataW.weightsEach Tryd.prog (Tryd.f7.params.toList ++ Rows.replyLessSpec.plain.varTypes Tryd.prog) (ds ++ gs)).all (· ≤ reachBytes) = true := hsz0
  have hval : ∀ (j : Nat) t v, Tryd.f7.params[j]? = some t → args[j]? = some v → Value.okWide Tryd.prog W .any base t v := hval0
  have hW : DataW.Whole enc Tryd.prog Tryd.f7.params.toList Rows.replyLessSpec.vars false W args.toList ds gs before := hW0
  exact law_calls_gl (fn := Tryd.f7) (tb := 4) tells (gok_laid hL) laidOut okKinds rfl (by kernel_rfl) (by kernel_rfl) (fun ds hd => match ds, hd with | [_, _], _ => rfl) hval hW hsz
theorem proved : Rows.ReplyLessSaid :=
  OpenClaim.holds_of_wide 7 Tryd.f7 rfl rfl rfl rfl rfl rfl rfl ⟨rfl, rfl, rfl, rfl, rfl⟩ rfl rfl rfl rfl rfl (by kernel_rfl) Tryd.func7 (by kernel_rfl)
    (of_decide_eq_true (by kernel_rfl)) (by unfold Func.isWrapper; first | (rw [if_pos (by decide +kernel)]; kernel_rfl) | (rw [if_neg (by decide +kernel)]; exact ⟨rfl, rfl⟩))
    (fun os started H enc _ => lifted os started H enc)
theorem pars : Tryd.f7.params = #[26, 41] := by kernel_rfl
theorem card : Rows.ReplyLessCardSaid :=
  Claim7.holds_tied_plain_at .later [] [.data, .data, .data, .data, .widerDeep, .sentinel, .sentinel, .widerDeep, .pinned] true (true, "2b6cc8b0e78e20343cc5cafdb0750f18c0462dcad123f7e6305c656c3198c6ff") true proved (fun _ h => by cases h) (by kernel_rfl) (fun _ h => by cases h) replyLess_row_tie rfl ⟨rfl, rfl⟩ (by kernel_rfl) rfl
    (fun f fn hf hfn => by
      obtain rfl : f = 7 := Option.some.inj ((show Tryd.prog.funcNamed "innkeep/innkeeplaw05.ReplyLess" = some 7 by kernel_rfl).symm.trans hf) |>.symm
      obtain rfl : fn = Tryd.f7 := (Option.some.inj (Tryd.func7.symm.trans hfn)).symm
      exact ⟨by kernel_rfl, fun j t ht => by
        rw [pars] at ht
        have hm : t ∈ [26, 41] := by simpa using Array.mem_of_getElem? ht
        have hall : ([26, 41].all fun u => !Tryd.prog.wantsStandIn u) = true := by kernel_rfl
        exact (show Tryd.prog.wantsStandIn t = false by simpa using List.all_eq_true.1 hall t hm)⟩)
    (by kernel_rfl)
end Go.Proofs.YtcpildkbkjeijaaDoor.sxReplyLess
namespace Go.Proofs.YtcpildkbkjeijaaDoor
/-- The card, under a short name. -/
theorem replyLess_holds : Rows.ReplyLessCardSaid := sxReplyLess.card
end Go.Proofs.YtcpildkbkjeijaaDoor
