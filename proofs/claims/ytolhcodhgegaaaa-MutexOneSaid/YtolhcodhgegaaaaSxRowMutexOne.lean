/- The law MutexOne of the program is true for every input, and leaves its input as it was (what is taken is held, and by nobody else; it can't be taken then, but given back, and is as it was; no other one changes; as many are held). Conditions: none. -/
import Derived.Test.YtolhcodhgegaaaaRows
import Derived.Test.YtolhcodhgegaaaaSxPr5
import Derived.ProofKit
import Derived.SizedLaws
namespace Go.Proofs.Ytolhcodhgegaaaa.sxMutexOne
open Go Go.Sx Go.ChangeShapes Go.WideShapes Go.ChangeAt Go.RowKit
theorem own : ownKnob Try.prog.godebug = none := by kernel_rfl
theorem laid : laidOutB Try.prog = true := by kernel_rfl
theorem okKinds : argsK Try.prog Try.f8.params.toList [.sl (.int .i64), .int .u8, .int .u8, .int .u8] = true := by kernel_rfl
theorem tells : ∀ xs : Lf [.sl (.int .i64), .int .u8, .int .u8, .int .u8], (∀ m, wfA m _ xs) → CallsTo Try.prog [] 8 (cellsL [.sl (.int .i64), .int .u8, .int .u8, .int .u8] xs) (.bool true) := mutexOne_law mutexOne_ok
set_option maxRecDepth 100000 in
theorem lifted (os : Os) (started : os.Started) (H : Type) (enc : TypeId × Value → H) :
    ReturnsInHanded {} Try.checked os 8 .any (Rows.mutexOneSpec.pre6 enc Try.prog Try.f8 Rows.mutexOneRow.domain false) (Rows.mutexOneSpec.post enc Try.prog Try.f8 false true false false) := by
  refine returnsInHanded_of_change_sized (C := Try.checked) own started (by kernel_rfl) Try.func8
    (ChangeSpec.witness6 (enc := enc) (C := Try.checked) false ⟨#[], #[.slice none 0 0, .int .u8 0, .int .u8 0, .int .u8 0], []⟩ 8 (by kernel_rfl) (by kernel_rfl) (by kernel_rfl) (by kernel_rfl)) ?_
  intro W base args ds gs before hval0 hW0 _ hsz0 _
  have hsz : (DataW.weightsEach Try.prog (Try.f8.params.toList ++ Rows.mutexOneSpec.plain.varTypes Try.prog) (ds ++ gs)).all (· ≤ reachBytes) = true := hsz0
  have hval : ∀ (j : Nat) t v, Try.f8.params[j]? = some t → args[j]? = some v → Value.okWide Try.prog W .any base t v := hval0
  have hW : DataW.Whole enc Try.prog Try.f8.params.toList Rows.mutexOneSpec.vars false W args.toList ds gs before := hW0
  exact law_calls (fn := Try.f8) (tb := 4) tells laid okKinds rfl (by kernel_rfl) (by kernel_rfl) (fun ds hd => match ds, hd with | [_, _, _, _], _ => rfl) hval hW hsz
theorem proved : Rows.MutexOneSaid :=
  OpenClaim.holds_of_wide 8 Try.f8 rfl rfl rfl rfl rfl rfl rfl ⟨rfl, rfl, rfl, rfl, rfl⟩ rfl rfl rfl rfl rfl (by kernel_rfl) Try.func8 (by kernel_rfl)
    (of_decide_eq_true (by kernel_rfl)) (by unfold Func.isWrapper; first | (rw [if_pos (by decide +kernel)]; kernel_rfl) | (rw [if_neg (by decide +kernel)]; exact ⟨rfl, rfl⟩))
    (fun os started H enc _ => lifted os started H enc)
end Go.Proofs.Ytolhcodhgegaaaa.sxMutexOne
namespace Go.Proofs.Ytolhcodhgegaaaa
/-- The row, under a short name. -/
theorem mutexOne_holds : Rows.MutexOneSaid := sxMutexOne.proved
end Go.Proofs.Ytolhcodhgegaaaa
