/- The law MutexMany of the program is true for every input, and leaves its input as it was (whatever sessions take and give back, from free locks on: a lock is taken just if it was free, given back just by who has it; at each time each has what it took and hasn't given back). Conditions: none. -/
import Derived.Test.YtolhcodhgegaaaaRows
import Derived.Test.YtolhcodhgegaaaaSxPr6
import Derived.ProofKit
import Derived.SizedLaws
namespace Go.Proofs.Ytolhcodhgegaaaa.sxMutexMany
open Go Go.Sx Go.ChangeShapes Go.WideShapes Go.ChangeAt Go.RowKit
theorem own : ownKnob Try.prog.godebug = none := by kernel_rfl
theorem laid : laidOutB Try.prog = true := by kernel_rfl
theorem okKinds : argsK Try.prog Try.f10.params.toList [.int .u8, .sl (.int .u16)] = true := by kernel_rfl
theorem tells : ∀ xs : Lf [.int .u8, .sl (.int .u16)], (∀ m, wfA m _ xs) → CallsTo Try.prog [] 10 (cellsL [.int .u8, .sl (.int .u16)] xs) (.bool true) := mutexMany_law mutexMany_ok
set_option maxRecDepth 100000 in
theorem lifted (os : Os) (started : os.Started) (H : Type) (enc : TypeId × Value → H) :
    ReturnsInHanded {} Try.checked os 10 .any (Rows.mutexManySpec.pre6 enc Try.prog Try.f10 Rows.mutexManyRow.domain false) (Rows.mutexManySpec.post enc Try.prog Try.f10 false true false false) := by
  refine returnsInHanded_of_change_sized (C := Try.checked) own started (by kernel_rfl) Try.func10
    (ChangeSpec.witness6 (enc := enc) (C := Try.checked) false ⟨#[], #[.int .u8 0, .slice none 0 0], []⟩ 8 (by kernel_rfl) (by kernel_rfl) (by kernel_rfl) (by kernel_rfl)) ?_
  intro W base args ds gs before hval0 hW0 _ hsz0 _
  have hsz : (DataW.weightsEach Try.prog (Try.f10.params.toList ++ Rows.mutexManySpec.plain.varTypes Try.prog) (ds ++ gs)).all (· ≤ reachBytes) = true := hsz0
  have hval : ∀ (j : Nat) t v, Try.f10.params[j]? = some t → args[j]? = some v → Value.okWide Try.prog W .any base t v := hval0
  have hW : DataW.Whole enc Try.prog Try.f10.params.toList Rows.mutexManySpec.vars false W args.toList ds gs before := hW0
  exact law_calls (fn := Try.f10) (tb := 4) tells laid okKinds rfl (by kernel_rfl) (by kernel_rfl) (fun ds hd => match ds, hd with | [_, _], _ => rfl) hval hW hsz
theorem proved : Rows.MutexManySaid :=
  OpenClaim.holds_of_wide 10 Try.f10 rfl rfl rfl rfl rfl rfl rfl ⟨rfl, rfl, rfl, rfl, rfl⟩ rfl rfl rfl rfl rfl (by kernel_rfl) Try.func10 (by kernel_rfl)
    (of_decide_eq_true (by kernel_rfl)) (by unfold Func.isWrapper; first | (rw [if_pos (by decide +kernel)]; kernel_rfl) | (rw [if_neg (by decide +kernel)]; exact ⟨rfl, rfl⟩))
    (fun os started H enc _ => lifted os started H enc)
end Go.Proofs.Ytolhcodhgegaaaa.sxMutexMany
namespace Go.Proofs.Ytolhcodhgegaaaa
/-- The row, under a short name. -/
theorem mutexMany_holds : Rows.MutexManySaid := sxMutexMany.proved
end Go.Proofs.Ytolhcodhgegaaaa
