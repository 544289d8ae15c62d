/- The law VerKeeps of the program is true for every input, and leaves its input as it was (what is handed in stays). Conditions: none. -/
import Derived.Test.YtolhcodhgegaaaaRows
import Derived.Test.YtolhcodhgegaaaaSxPr2
import Derived.ProofKit
import Derived.SizedLaws
namespace Go.Proofs.Ytolhcodhgegaaaa.sxVerKeeps
open Go Go.Sx Go.ChangeShapes Go.WideShapes Go.ChangeAt Go.RowKit
theorem own : ownKnob Try.prog.godebug = none := by kernel_rfl
theorem laid : laidOutB Try.prog = true := by kernel_rfl
theorem okKinds : argsK Try.prog Try.f5.params.toList [.sl (.int .i64), .int .i64] = true := by kernel_rfl
theorem tells : ∀ xs : Lf [.sl (.int .i64), .int .i64], (∀ m, wfA m _ xs) → CallsTo Try.prog [] 5 (cellsL [.sl (.int .i64), .int .i64] xs) (.bool true) := verKeeps_law verKeeps_ok
set_option maxRecDepth 100000 in
theorem lifted (os : Os) (started : os.Started) (H : Type) (enc : TypeId × Value → H) :
    ReturnsInHanded {} Try.checked os 5 .any (Rows.verKeepsSpec.pre6 enc Try.prog Try.f5 Rows.verKeepsRow.domain false) (Rows.verKeepsSpec.post enc Try.prog Try.f5 false true false false) := by
  refine returnsInHanded_of_change_sized (C := Try.checked) own started (by kernel_rfl) Try.func5
    (ChangeSpec.witness6 (enc := enc) (C := Try.checked) false ⟨#[], #[.slice none 0 0, .int .i64 0], []⟩ 8 (by kernel_rfl) (by kernel_rfl) (by kernel_rfl) (by kernel_rfl)) ?_
  intro W base args ds gs before hval0 hW0 _ hsz0 _
  have hsz : (DataW.weightsEach Try.prog (Try.f5.params.toList ++ Rows.verKeepsSpec.plain.varTypes Try.prog) (ds ++ gs)).all (· ≤ reachBytes) = true := hsz0
  have hval : ∀ (j : Nat) t v, Try.f5.params[j]? = some t → args[j]? = some v → Value.okWide Try.prog W .any base t v := hval0
  have hW : DataW.Whole enc Try.prog Try.f5.params.toList Rows.verKeepsSpec.vars false W args.toList ds gs before := hW0
  exact law_calls (fn := Try.f5) (tb := 4) tells laid okKinds rfl (by kernel_rfl) (by kernel_rfl) (fun ds hd => match ds, hd with | [_, _], _ => rfl) hval hW hsz
theorem proved : Rows.VerKeepsSaid :=
  OpenClaim.holds_of_wide 5 Try.f5 rfl rfl rfl rfl rfl rfl rfl ⟨rfl, rfl, rfl, rfl, rfl⟩ rfl rfl rfl rfl rfl (by kernel_rfl) Try.func5 (by kernel_rfl)
    (of_decide_eq_true (by kernel_rfl)) (by unfold Func.isWrapper; first | (rw [if_pos (by decide +kernel)]; kernel_rfl) | (rw [if_neg (by decide +kernel)]; exact ⟨rfl, rfl⟩))
    (fun os started H enc _ => lifted os started H enc)
end Go.Proofs.Ytolhcodhgegaaaa.sxVerKeeps
namespace Go.Proofs.Ytolhcodhgegaaaa
/-- The row, under a short name. -/
theorem verKeeps_holds : Rows.VerKeepsSaid := sxVerKeeps.proved
end Go.Proofs.Ytolhcodhgegaaaa
