/-
  No cell of these rows narrows 'for every input' (looked for: loops, veiled, ifaces, maps, wideKeys, modest, calm, conditions, laid).
  DERIVED. THE GIVEN ROWS OF THIS SEAT. 8 by the template 'for every input the law returns true; each argument reads behind the call as it read before'; 0 by the template 'total and deterministic' (their statements: YtolhcodhgegaaaaTotals.lean).
  GIVEN WITH THE SEED: the statements are not yours to turn. If you find one false, say at which input.
  Laid BY PROGRAM, IN A SANDBOX (cutbox-rows.mjs): the forced cells as the released guide's own fill.sh prints them over the translation 61dfdd7dec5adcba… (all of the seat's roots in one cut). By AI agents, Wed Nov 11 2026. No macro, syntax, notation, axiom, sorry.
-/
import Derived.Test.YtolhcodhgegaaaaChecked
import GoSem.Claim
import GoSem.ClaimJoined
import GoSem.ClaimMapViews
import Derived.JoinedTies
import Derived.KernelRfl
namespace Go.Proofs.Ytolhcodhgegaaaa
/- THE CELL 'sum', in the pinned program and in every row, IS THE sha256 OF THE DUMP (.gsa) THAT YtolhcodhgegaaaaProg.lean LOADS. Nothing in Lean hashes anything: it is a label: what it is worth is what the hold of that sum in a sandbox is worth. -/
noncomputable def Try.pinned : Pinned := { name := "ytolhcodhgegaaaa", sum := "61dfdd7dec5adcba6a9848723f093c05e94ed89ad65413d693b690eb8056c7ea", checked := Try.checked }
namespace Rows
def none {H : Type} : Left H := { results := [], args := [] }

/-- 'innkeeplaw17.VerDoes': WHATEVER THE INPUT: true; the input reads as it did. -/
def verDoesSpec : ChangeSpec := { name := "verDoes", fn := fun _ => fun
  | [d1, d2, d3, d4] => { results := [.lit (.bool true)], args := [d1, d2, d3, d4] }
  | _ => none }
def verDoesRow : OpenClaim := { program := "ytolhcodhgegaaaa", sum := "61dfdd7dec5adcba6a9848723f093c05e94ed89ad65413d693b690eb8056c7ea", func := "innkeep/innkeeplaw17.VerDoes", spec := "verDoes", apart := false }
def VerDoesSaid : Prop := verDoesRow.holds Try.pinned (OpenSpec.ofChange verDoesSpec)

/-- ITS FALSE NEIGHBOUR: 'it returns false'. Refute it at one input. -/
def verDoesWrong : ChangeSpec := { name := "verDoes", fn := fun _ => fun
  | [d1, d2, d3, d4] => { results := [.lit (.bool false)], args := [d1, d2, d3, d4] }
  | _ => none }
def VerDoesWrongFalsely : Prop := verDoesRow.holds Try.pinned (OpenSpec.ofChange verDoesWrong)

/-- 'innkeeplaw17.VerTells': WHATEVER THE INPUT: true; the input reads as it did. -/
def verTellsSpec : ChangeSpec := { name := "verTells", fn := fun _ => fun
  | [d1, d2, d3, d4, d5] => { results := [.lit (.bool true)], args := [d1, d2, d3, d4, d5] }
  | _ => none }
def verTellsRow : OpenClaim := { program := "ytolhcodhgegaaaa", sum := "61dfdd7dec5adcba6a9848723f093c05e94ed89ad65413d693b690eb8056c7ea", func := "innkeep/innkeeplaw17.VerTells", spec := "verTells", apart := false }
def VerTellsSaid : Prop := verTellsRow.holds Try.pinned (OpenSpec.ofChange verTellsSpec)

/-- ITS FALSE NEIGHBOUR: 'it returns false'. Refute it at one input. -/
def verTellsWrong : ChangeSpec := { name := "verTells", fn := fun _ => fun
  | [d1, d2, d3, d4, d5] => { results := [.lit (.bool false)], args := [d1, d2, d3, d4, d5] }
  | _ => none }
def VerTellsWrongFalsely : Prop := verTellsRow.holds Try.pinned (OpenSpec.ofChange verTellsWrong)

/-- 'innkeeplaw17.VerKeeps': WHATEVER THE INPUT: true; the input reads as it did. -/
def verKeepsSpec : ChangeSpec := { name := "verKeeps", fn := fun _ => fun
  | [d1, d2] => { results := [.lit (.bool true)], args := [d1, d2] }
  | _ => none }
def verKeepsRow : OpenClaim := { program := "ytolhcodhgegaaaa", sum := "61dfdd7dec5adcba6a9848723f093c05e94ed89ad65413d693b690eb8056c7ea", func := "innkeep/innkeeplaw17.VerKeeps", spec := "verKeeps", apart := false }
def VerKeepsSaid : Prop := verKeepsRow.holds Try.pinned (OpenSpec.ofChange verKeepsSpec)

/-- ITS FALSE NEIGHBOUR: 'it returns false'. Refute it at one input. -/
def verKeepsWrong : ChangeSpec := { name := "verKeeps", fn := fun _ => fun
  | [d1, d2] => { results := [.lit (.bool false)], args := [d1, d2] }
  | _ => none }
def VerKeepsWrongFalsely : Prop := verKeepsRow.holds Try.pinned (OpenSpec.ofChange verKeepsWrong)

/-- 'innkeeplaw17.VerSum': WHATEVER THE INPUT: true; the input reads as it did. -/
def verSumSpec : ChangeSpec := { name := "verSum", fn := fun _ => fun
  | [d1, d2, d3] => { results := [.lit (.bool true)], args := [d1, d2, d3] }
  | _ => none }
def verSumRow : OpenClaim := { program := "ytolhcodhgegaaaa", sum := "61dfdd7dec5adcba6a9848723f093c05e94ed89ad65413d693b690eb8056c7ea", func := "innkeep/innkeeplaw17.VerSum", spec := "verSum", apart := false }
def VerSumSaid : Prop := verSumRow.holds Try.pinned (OpenSpec.ofChange verSumSpec)

/-- ITS FALSE NEIGHBOUR: 'it returns false'. Refute it at one input. -/
def verSumWrong : ChangeSpec := { name := "verSum", fn := fun _ => fun
  | [d1, d2, d3] => { results := [.lit (.bool false)], args := [d1, d2, d3] }
  | _ => none }
def VerSumWrongFalsely : Prop := verSumRow.holds Try.pinned (OpenSpec.ofChange verSumWrong)

/-- 'innkeeplaw15.MutexDoes': WHATEVER THE INPUT: true; the input reads as it did. -/
def mutexDoesSpec : ChangeSpec := { name := "mutexDoes", fn := fun _ => fun
  | [d1, d2, d3] => { results := [.lit (.bool true)], args := [d1, d2, d3] }
  | _ => none }
def mutexDoesRow : OpenClaim := { program := "ytolhcodhgegaaaa", sum := "61dfdd7dec5adcba6a9848723f093c05e94ed89ad65413d693b690eb8056c7ea", func := "innkeep/innkeeplaw15.MutexDoes", spec := "mutexDoes", apart := false }
def MutexDoesSaid : Prop := mutexDoesRow.holds Try.pinned (OpenSpec.ofChange mutexDoesSpec)

/-- ITS FALSE NEIGHBOUR: 'it returns false'. Refute it at one input. -/
def mutexDoesWrong : ChangeSpec := { name := "mutexDoes", fn := fun _ => fun
  | [d1, d2, d3] => { results := [.lit (.bool false)], args := [d1, d2, d3] }
  | _ => none }
def MutexDoesWrongFalsely : Prop := mutexDoesRow.holds Try.pinned (OpenSpec.ofChange mutexDoesWrong)

/-- 'innkeeplaw15.MutexOne': WHATEVER THE INPUT: true; the input reads as it did. -/
def mutexOneSpec : ChangeSpec := { name := "mutexOne", fn := fun _ => fun
  | [d1, d2, d3, d4] => { results := [.lit (.bool true)], args := [d1, d2, d3, d4] }
  | _ => none }
def mutexOneRow : OpenClaim := { program := "ytolhcodhgegaaaa", sum := "61dfdd7dec5adcba6a9848723f093c05e94ed89ad65413d693b690eb8056c7ea", func := "innkeep/innkeeplaw15.MutexOne", spec := "mutexOne", apart := false }
def MutexOneSaid : Prop := mutexOneRow.holds Try.pinned (OpenSpec.ofChange mutexOneSpec)

/-- ITS FALSE NEIGHBOUR: 'it returns false'. Refute it at one input. -/
def mutexOneWrong : ChangeSpec := { name := "mutexOne", fn := fun _ => fun
  | [d1, d2, d3, d4] => { results := [.lit (.bool false)], args := [d1, d2, d3, d4] }
  | _ => none }
def MutexOneWrongFalsely : Prop := mutexOneRow.holds Try.pinned (OpenSpec.ofChange mutexOneWrong)

/-- 'innkeeplaw15.MutexKeeps': WHATEVER THE INPUT: true; the input reads as it did. -/
def mutexKeepsSpec : ChangeSpec := { name := "mutexKeeps", fn := fun _ => fun
  | [d1, d2, d3] => { results := [.lit (.bool true)], args := [d1, d2, d3] }
  | _ => none }
def mutexKeepsRow : OpenClaim := { program := "ytolhcodhgegaaaa", sum := "61dfdd7dec5adcba6a9848723f093c05e94ed89ad65413d693b690eb8056c7ea", func := "innkeep/innkeeplaw15.MutexKeeps", spec := "mutexKeeps", apart := false }
def MutexKeepsSaid : Prop := mutexKeepsRow.holds Try.pinned (OpenSpec.ofChange mutexKeepsSpec)

/-- ITS FALSE NEIGHBOUR: 'it returns false'. Refute it at one input. -/
def mutexKeepsWrong : ChangeSpec := { name := "mutexKeeps", fn := fun _ => fun
  | [d1, d2, d3] => { results := [.lit (.bool false)], args := [d1, d2, d3] }
  | _ => none }
def MutexKeepsWrongFalsely : Prop := mutexKeepsRow.holds Try.pinned (OpenSpec.ofChange mutexKeepsWrong)

/-- 'innkeeplaw15.MutexMany': WHATEVER THE INPUT: true; the input reads as it did. -/
def mutexManySpec : ChangeSpec := { name := "mutexMany", fn := fun _ => fun
  | [d1, d2] => { results := [.lit (.bool true)], args := [d1, d2] }
  | _ => none }
def mutexManyRow : OpenClaim := { program := "ytolhcodhgegaaaa", sum := "61dfdd7dec5adcba6a9848723f093c05e94ed89ad65413d693b690eb8056c7ea", func := "innkeep/innkeeplaw15.MutexMany", spec := "mutexMany", apart := false }
def MutexManySaid : Prop := mutexManyRow.holds Try.pinned (OpenSpec.ofChange mutexManySpec)

/-- ITS FALSE NEIGHBOUR: 'it returns false'. Refute it at one input. -/
def mutexManyWrong : ChangeSpec := { name := "mutexMany", fn := fun _ => fun
  | [d1, d2] => { results := [.lit (.bool false)], args := [d1, d2] }
  | _ => none }
def MutexManyWrongFalsely : Prop := mutexManyRow.holds Try.pinned (OpenSpec.ofChange mutexManyWrong)

/- THE SECOND FORM. 'bulk': how many values and letters a reading holds, each counted each time it is reached (what is shared counts as often as it is met; a slice's spare places count too). A statement '..UptoSaid' is the law's where the arguments, and the package variables that the reading takes, are together of bulk at most 1048576: NARROWER than '..Said'. Prove '..Said' where nothing that the law and all that it calls make is longer than what came in: it says more and counts as full. Else prove '..UptoSaid'. A law counts once. -/
mutual
def uptoBulk {H : Type} : DataW H → Nat
  | .lit (.string bytes) => bytes.length + 1
  | .lit _ => 1
  | .nil => 1
  | .ptr d => uptoBulk d + 1
  | .slice elems spare => uptoBulkAll elems + uptoBulkAll spare + 1
  | .agg parts => uptoBulkAll parts + 1
  | .iface _ d => uptoBulk d + 1
  | .map entries => uptoBulkEntries entries + 1
  | .held _ => 1
def uptoBulkAll {H : Type} : List (DataW H) → Nat
  | [] => 0
  | d :: r => uptoBulk d + uptoBulkAll r
def uptoBulkEntries {H : Type} : List (Lit × DataW H) → Nat
  | [] => 0
  | x :: r => uptoBulkEntry x + uptoBulkEntries r
def uptoBulkEntry {H : Type} : Lit × DataW H → Nat
  | (.string bytes, d) => bytes.length + uptoBulk d + 1
  | (_, d) => uptoBulk d + 1
 end
def uptoSmall : (H : Type) → List (DataW H) → Bool := fun _ ds => decide (uptoBulkAll ds ≤ 1048576)
def OpenSpec.upto (s : _root_.Go.ChangeSpec) : _root_.Go.OpenSpec := { _root_.Go.OpenSpec.ofChange s with cond := some uptoSmall }

/-- 'innkeeplaw17.VerDoes', WHERE WHAT IT READS IS OF BULK AT MOST 1048576: true; the input reads as it did. -/
def verDoesUptoRow : OpenClaim := { program := "ytolhcodhgegaaaa", sum := "61dfdd7dec5adcba6a9848723f093c05e94ed89ad65413d693b690eb8056c7ea", func := "innkeep/innkeeplaw17.VerDoes", spec := "verDoes", apart := false, narrowed := true }
def VerDoesUptoSaid : Prop := verDoesUptoRow.holds Try.pinned (OpenSpec.upto verDoesSpec)

/-- 'innkeeplaw17.VerTells', WHERE WHAT IT READS IS OF BULK AT MOST 1048576: true; the input reads as it did. -/
def verTellsUptoRow : OpenClaim := { program := "ytolhcodhgegaaaa", sum := "61dfdd7dec5adcba6a9848723f093c05e94ed89ad65413d693b690eb8056c7ea", func := "innkeep/innkeeplaw17.VerTells", spec := "verTells", apart := false, narrowed := true }
def VerTellsUptoSaid : Prop := verTellsUptoRow.holds Try.pinned (OpenSpec.upto verTellsSpec)

/-- 'innkeeplaw17.VerKeeps', WHERE WHAT IT READS IS OF BULK AT MOST 1048576: true; the input reads as it did. -/
def verKeepsUptoRow : OpenClaim := { program := "ytolhcodhgegaaaa", sum := "61dfdd7dec5adcba6a9848723f093c05e94ed89ad65413d693b690eb8056c7ea", func := "innkeep/innkeeplaw17.VerKeeps", spec := "verKeeps", apart := false, narrowed := true }
def VerKeepsUptoSaid : Prop := verKeepsUptoRow.holds Try.pinned (OpenSpec.upto verKeepsSpec)

/-- 'innkeeplaw17.VerSum', WHERE WHAT IT READS IS OF BULK AT MOST 1048576: true; the input reads as it did. -/
def verSumUptoRow : OpenClaim := { program := "ytolhcodhgegaaaa", sum := "61dfdd7dec5adcba6a9848723f093c05e94ed89ad65413d693b690eb8056c7ea", func := "innkeep/innkeeplaw17.VerSum", spec := "verSum", apart := false, narrowed := true }
def VerSumUptoSaid : Prop := verSumUptoRow.holds Try.pinned (OpenSpec.upto verSumSpec)

/-- 'innkeeplaw15.MutexDoes', WHERE WHAT IT READS IS OF BULK AT MOST 1048576: true; the input reads as it did. -/
def mutexDoesUptoRow : OpenClaim := { program := "ytolhcodhgegaaaa", sum := "61dfdd7dec5adcba6a9848723f093c05e94ed89ad65413d693b690eb8056c7ea", func := "innkeep/innkeeplaw15.MutexDoes", spec := "mutexDoes", apart := false, narrowed := true }
def MutexDoesUptoSaid : Prop := mutexDoesUptoRow.holds Try.pinned (OpenSpec.upto mutexDoesSpec)

/-- 'innkeeplaw15.MutexOne', WHERE WHAT IT READS IS OF BULK AT MOST 1048576: true; the input reads as it did. -/
def mutexOneUptoRow : OpenClaim := { program := "ytolhcodhgegaaaa", sum := "61dfdd7dec5adcba6a9848723f093c05e94ed89ad65413d693b690eb8056c7ea", func := "innkeep/innkeeplaw15.MutexOne", spec := "mutexOne", apart := false, narrowed := true }
def MutexOneUptoSaid : Prop := mutexOneUptoRow.holds Try.pinned (OpenSpec.upto mutexOneSpec)

/-- 'innkeeplaw15.MutexKeeps', WHERE WHAT IT READS IS OF BULK AT MOST 1048576: true; the input reads as it did. -/
def mutexKeepsUptoRow : OpenClaim := { program := "ytolhcodhgegaaaa", sum := "61dfdd7dec5adcba6a9848723f093c05e94ed89ad65413d693b690eb8056c7ea", func := "innkeep/innkeeplaw15.MutexKeeps", spec := "mutexKeeps", apart := false, narrowed := true }
def MutexKeepsUptoSaid : Prop := mutexKeepsUptoRow.holds Try.pinned (OpenSpec.upto mutexKeepsSpec)

/-- 'innkeeplaw15.MutexMany', WHERE WHAT IT READS IS OF BULK AT MOST 1048576: true; the input reads as it did. -/
def mutexManyUptoRow : OpenClaim := { program := "ytolhcodhgegaaaa", sum := "61dfdd7dec5adcba6a9848723f093c05e94ed89ad65413d693b690eb8056c7ea", func := "innkeep/innkeeplaw15.MutexMany", spec := "mutexMany", apart := false, narrowed := true }
def MutexManyUptoSaid : Prop := mutexManyUptoRow.holds Try.pinned (OpenSpec.upto mutexManySpec)

end Rows
end Go.Proofs.Ytolhcodhgegaaaa
