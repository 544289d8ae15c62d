/- The law MutexDoes of the program is true for every input, and leaves its input as it was (of whatever locks, place and session: taken, given back, held). Conditions: none. -/
import Derived.Test.YtolhcodhgegaaaaRows
import Derived.Test.YtolhcodhgegaaaaSxPr4
import Derived.ProofKit
import Derived.SizedLaws
namespace Go.Proofs.Ytolhcodhgegaaaa.sxMutexDoes
open Go Go.Sx Go.ChangeShapes Go.WideShapes Go.ChangeAt Go.RowKit
theorem own : ownKnob Try.prog.godebug = none := by kernel_rfl
theorem laid : laidOutB Try.prog = true := by kernel_rfl
theorem okKinds : argsK Try.prog Try.f7.params.toList [.sl (.int .i64), .int .i64, .int .u32] = true := by kernel_rfl
theorem tells : ∀ xs : Lf [.sl (.int .i64), .int .i64, .int .u32], (∀ m, wfA m _ xs) → CallsTo Try.prog [] 7 (cellsL [.sl (.int .i64), .int .i64, .int .u32] xs) (.bool true) := mutexDoes_law mutexDoes_ok
set_option maxRecDepth 100000 in
theorem lifted (os : Os) (started : os.Started) (H : Type) (enc : TypeId × Value → H) :
    ReturnsInHanded {} Try.checked os 7 .any (Rows.mutexDoesSpec.pre6 enc Try.prog Try.f7 Rows.mutexDoesRow.domain false) (Rows.mutexDoesSpec.post enc Try.prog Try.f7 false true false false) := by
  refine returnsInHanded_of_change_sized (C := Try.checked) own started (by kernel_rfl) Try.func7
    (ChangeSpec.witness6 (enc := enc) (C := Try.checked) false ⟨#[], #[.slice none 0 0, .int .i64 0, .int .u32 0], []⟩ 8 (by kernel_rfl) (by kernel_rfl) (by kernel_rfl) (by kernel_rfl)) ?_
  intro W base args ds gs before hval0 hW0 _ hsz0 _
  have hsz : (DataW.weightsEach Try.prog (Try.f7.params.toList ++ Rows.mutexDoesSpec.plain.varTypes Try.prog) (ds ++ gs)).all (· ≤ reachBytes) = true := hsz0
  have hval : ∀ (j : Nat) t v, Try.f7.params[j]? = some t → args[j]? = some v → Value.okWide Try.prog W .any base t v := hval0
  have hW : DataW.Whole enc Try.prog Try.f7.params.toList Rows.mutexDoesSpec.vars false W args.toList ds gs before := hW0
  exact law_calls (fn := Try.f7) (tb := 4) tells laid okKinds rfl (by kernel_rfl) (by kernel_rfl) (fun ds hd => match ds, hd with | [_, _, _], _ => rfl) hval hW hsz
theorem proved : Rows.MutexDoesSaid :=
  OpenClaim.holds_of_wide 7 Try.f7 rfl rfl rfl rfl rfl rfl rfl ⟨rfl, rfl, rfl, rfl, rfl⟩ rfl rfl rfl rfl rfl (by kernel_rfl) Try.func7 (by kernel_rfl)
    (of_decide_eq_true (by kernel_rfl)) (by unfold Func.isWrapper; first | (rw [if_pos (by decide +kernel)]; kernel_rfl) | (rw [if_neg (by decide +kernel)]; exact ⟨rfl, rfl⟩))
    (fun os started H enc _ => lifted os started H enc)
end Go.Proofs.Ytolhcodhgegaaaa.sxMutexDoes
namespace Go.Proofs.Ytolhcodhgegaaaa
/-- The row, under a short name. -/
theorem mutexDoes_holds : Rows.MutexDoesSaid := sxMutexDoes.proved
end Go.Proofs.Ytolhcodhgegaaaa
