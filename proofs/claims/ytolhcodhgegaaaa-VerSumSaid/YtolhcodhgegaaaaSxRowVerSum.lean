/- The law VerSum of the program is true for every input, and leaves its input as it was (behind whatever ups the versions' sum is as much more as there were ups of places that there are; in whatever order they are the same). Conditions: none. -/
import Derived.Test.YtolhcodhgegaaaaRows
import Derived.Test.YtolhcodhgegaaaaSxPr2
import Derived.ProofKit
import Derived.SizedLaws
namespace Go.Proofs.Ytolhcodhgegaaaa.sxVerSum
open Go Go.Sx Go.ChangeShapes Go.WideShapes Go.ChangeAt Go.RowKit
theorem own : ownKnob Try.prog.godebug = none := by kernel_rfl
theorem laid : laidOutB Try.prog = true := by kernel_rfl
theorem okKinds : argsK Try.prog Try.f6.params.toList [.sl (.int .i64), .sl (.int .u8), .int .u8] = true := by kernel_rfl
theorem tells : ∀ xs : Lf [.sl (.int .i64), .sl (.int .u8), .int .u8], (∀ m, wfA m _ xs) → CallsTo Try.prog [] 6 (cellsL [.sl (.int .i64), .sl (.int .u8), .int .u8] xs) (.bool true) := verSum_law verSum_ok
set_option maxRecDepth 100000 in
theorem lifted (os : Os) (started : os.Started) (H : Type) (enc : TypeId × Value → H) :
    ReturnsInHanded {} Try.checked os 6 .any (Rows.verSumSpec.pre6 enc Try.prog Try.f6 Rows.verSumRow.domain false) (Rows.verSumSpec.post enc Try.prog Try.f6 false true false false) := by
  refine returnsInHanded_of_change_sized (C := Try.checked) own started (by kernel_rfl) Try.func6
    (ChangeSpec.witness6 (enc := enc) (C := Try.checked) false ⟨#[], #[.slice none 0 0, .slice none 0 0, .int .u8 0], []⟩ 8 (by kernel_rfl) (by kernel_rfl) (by kernel_rfl) (by kernel_rfl)) ?_
  intro W base args ds gs before hval0 hW0 _ hsz0 _
  have hsz : (DataW.weightsEach Try.prog (Try.f6.params.toList ++ Rows.verSumSpec.plain.varTypes Try.prog) (ds ++ gs)).all (· ≤ reachBytes) = true := hsz0
  have hval : ∀ (j : Nat) t v, Try.f6.params[j]? = some t → args[j]? = some v → Value.okWide Try.prog W .any base t v := hval0
  have hW : DataW.Whole enc Try.prog Try.f6.params.toList Rows.verSumSpec.vars false W args.toList ds gs before := hW0
  exact law_calls (fn := Try.f6) (tb := 4) tells laid okKinds rfl (by kernel_rfl) (by kernel_rfl) (fun ds hd => match ds, hd with | [_, _, _], _ => rfl) hval hW hsz
theorem proved : Rows.VerSumSaid :=
  OpenClaim.holds_of_wide 6 Try.f6 rfl rfl rfl rfl rfl rfl rfl ⟨rfl, rfl, rfl, rfl, rfl⟩ rfl rfl rfl rfl rfl (by kernel_rfl) Try.func6 (by kernel_rfl)
    (of_decide_eq_true (by kernel_rfl)) (by unfold Func.isWrapper; first | (rw [if_pos (by decide +kernel)]; kernel_rfl) | (rw [if_neg (by decide +kernel)]; exact ⟨rfl, rfl⟩))
    (fun os started H enc _ => lifted os started H enc)
end Go.Proofs.Ytolhcodhgegaaaa.sxVerSum
namespace Go.Proofs.Ytolhcodhgegaaaa
/-- The row, under a short name. -/
theorem verSum_holds : Rows.VerSumSaid := sxVerSum.proved
end Go.Proofs.Ytolhcodhgegaaaa
