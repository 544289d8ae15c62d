/-
  NARROWER THAN 'FOR EVERY INPUT', by the rows' own cells (each row's printed sentence says how): LinearGood: laid · LinearTurned: laid · LinearApart: laid.
  DERIVED. THE GIVEN ROWS OF THIS SEAT. 3 by the template 'for every input the law returns true; each argument reads behind the call as it read before'; 0 by the template 'total and deterministic' (their statements: YtcpabdpbldmmmaaGreatDoorTotals.lean).
  GIVEN WITH THE SEED: the statements are not yours to turn. If you find one false, say at which input.
  Laid BY PROGRAM, IN A SANDBOX (cutbox-rows.mjs): the forced cells as the released guide's own fill.sh prints them over the translation ba4959245192db88… (all of the seat's roots in one cut). By AI agents, Wed Nov 11 2026. No macro, syntax, notation, axiom, sorry.
-/
import Derived.Test.YtcpabdpbldmmmaaGreatDoorChecked
import GoSem.Claim
import GoSem.ClaimJoined
import GoSem.ClaimMapViews
import Derived.JoinedTies
import Derived.KernelRfl
namespace Go.Proofs.YtcpabdpbldmmmaaGreatDoor
/- THE CELL 'sum', in the pinned program and in every row, IS THE sha256 OF THE DUMP (.gsa) THAT YtcpabdpbldmmmaaGreatDoorProg.lean LOADS. Nothing in Lean hashes anything: it is a label: what it is worth is what the hold of that sum in a sandbox is worth. -/
noncomputable def Tryz.pinned : Pinned := { name := "ytcpabdpbldmmmaagreatdoor", sum := "ba4959245192db882e9a52aa6baf64c0c5debde3e1697342148a8e47c932168e", checked := Tryz.checked }
namespace Rows
def none {H : Type} : Left H := { results := [], args := [] }

/- WHAT THE LISTED PACKAGE-LEVEL VARIABLES READ AS WHEN THE CALL BEGINS. Each datum BY PROGRAM (the guide's laid-datum.mjs) off the statement by which the dump's own 'gosem.cut.vars' lays the variable. In a bare row this is a premise. The card (YtcpabdpbldmmmaaGreatDoorCards.lean) ties it to the program's text. -/
def laid_innkeep_cmd_kinds {H : Type} : DataW H := .agg [.lit (.string []), .lit (.string [109, 111, 118, 101]), .lit (.string [112, 117, 115, 104]), .lit (.string [103, 101, 116]), .lit (.string [100, 114, 111, 112]), .lit (.string [112, 117, 116]), .lit (.string [116, 97, 107, 101]), .lit (.string [103, 105, 118, 101]), .lit (.string [116, 114, 97, 100, 101]), .lit (.string [108, 111, 111, 107]), .lit (.string [111, 119, 110])]
def laid_innkeep_cmd_ways {H : Type} : DataW H := .agg [.lit (.string [110, 111, 114, 116, 104]), .lit (.string [101, 97, 115, 116]), .lit (.string [115, 111, 117, 116, 104]), .lit (.string [119, 101, 115, 116])]

/-- 'innkeeplaw24.LinearGood': WHATEVER THE INPUT: true; the input reads as it did. -/
def linearGoodSpec : ChangeSpec := { name := "linearGood", fn := fun _ => fun
  | [d1, d2, d3] => { results := [.lit (.bool true)], args := [d1, d2, d3] }
  | _ => none }
def linearGoodRow : OpenClaim := { program := "ytcpabdpbldmmmaagreatdoor", sum := "ba4959245192db882e9a52aa6baf64c0c5debde3e1697342148a8e47c932168e", func := "innkeep/innkeeplaw24.LinearGood", spec := "linearGood", unfollowed := true, recurses := true, named := ["innkeep/cmd.kinds", "innkeep/cmd.ways"], apart := false, laid := [("innkeep/cmd.kinds", laid_innkeep_cmd_kinds), ("innkeep/cmd.ways", laid_innkeep_cmd_ways)] }
def LinearGoodSaid : Prop := linearGoodRow.holds Tryz.pinned (OpenSpec.ofChange linearGoodSpec)

/-- ITS FALSE NEIGHBOUR: 'it returns false'. Refute it at one input. -/
def linearGoodWrong : ChangeSpec := { name := "linearGood", fn := fun _ => fun
  | [d1, d2, d3] => { results := [.lit (.bool false)], args := [d1, d2, d3] }
  | _ => none }
def LinearGoodWrongFalsely : Prop := linearGoodRow.holds Tryz.pinned (OpenSpec.ofChange linearGoodWrong)

/-- 'innkeeplaw24.LinearTurned': WHATEVER THE INPUT: true; the input reads as it did. -/
def linearTurnedSpec : ChangeSpec := { name := "linearTurned", fn := fun _ => fun
  | [d1, d2, d3] => { results := [.lit (.bool true)], args := [d1, d2, d3] }
  | _ => none }
def linearTurnedRow : OpenClaim := { program := "ytcpabdpbldmmmaagreatdoor", sum := "ba4959245192db882e9a52aa6baf64c0c5debde3e1697342148a8e47c932168e", func := "innkeep/innkeeplaw24.LinearTurned", spec := "linearTurned", unfollowed := true, recurses := true, named := ["innkeep/cmd.kinds", "innkeep/cmd.ways"], apart := false, laid := [("innkeep/cmd.kinds", laid_innkeep_cmd_kinds), ("innkeep/cmd.ways", laid_innkeep_cmd_ways)] }
def LinearTurnedSaid : Prop := linearTurnedRow.holds Tryz.pinned (OpenSpec.ofChange linearTurnedSpec)

/-- ITS FALSE NEIGHBOUR: 'it returns false'. Refute it at one input. -/
def linearTurnedWrong : ChangeSpec := { name := "linearTurned", fn := fun _ => fun
  | [d1, d2, d3] => { results := [.lit (.bool false)], args := [d1, d2, d3] }
  | _ => none }
def LinearTurnedWrongFalsely : Prop := linearTurnedRow.holds Tryz.pinned (OpenSpec.ofChange linearTurnedWrong)

/-- 'innkeeplaw24.LinearApart': WHATEVER THE INPUT: true; the input reads as it did. -/
def linearApartSpec : ChangeSpec := { name := "linearApart", fn := fun _ => fun
  | [d1, d2, d3] => { results := [.lit (.bool true)], args := [d1, d2, d3] }
  | _ => none }
def linearApartRow : OpenClaim := { program := "ytcpabdpbldmmmaagreatdoor", sum := "ba4959245192db882e9a52aa6baf64c0c5debde3e1697342148a8e47c932168e", func := "innkeep/innkeeplaw24.LinearApart", spec := "linearApart", unfollowed := true, recurses := true, named := ["innkeep/cmd.kinds", "innkeep/cmd.ways"], apart := false, laid := [("innkeep/cmd.kinds", laid_innkeep_cmd_kinds), ("innkeep/cmd.ways", laid_innkeep_cmd_ways)] }
def LinearApartSaid : Prop := linearApartRow.holds Tryz.pinned (OpenSpec.ofChange linearApartSpec)

/-- ITS FALSE NEIGHBOUR: 'it returns false'. Refute it at one input. -/
def linearApartWrong : ChangeSpec := { name := "linearApart", fn := fun _ => fun
  | [d1, d2, d3] => { results := [.lit (.bool false)], args := [d1, d2, d3] }
  | _ => none }
def LinearApartWrongFalsely : Prop := linearApartRow.holds Tryz.pinned (OpenSpec.ofChange linearApartWrong)

/- THE SECOND FORM. 'bulk': how many values and letters a reading holds, each counted each time it is reached (what is shared counts as often as it is met; a slice's spare places count too). A statement '..UptoSaid' is the law's where the arguments, and the package variables that the reading takes, are together of bulk at most 1048576: NARROWER than '..Said'. Prove '..Said' where nothing that the law and all that it calls make is longer than what came in: it says more and counts as full. Else prove '..UptoSaid'. A law counts once. -/
mutual
def uptoBulk {H : Type} : DataW H → Nat
  | .lit (.string bytes) => bytes.length + 1
  | .lit _ => 1
  | .nil => 1
  | .ptr d => uptoBulk d + 1
  | .slice elems spare => uptoBulkAll elems + uptoBulkAll spare + 1
  | .agg parts => uptoBulkAll parts + 1
  | .iface _ d => uptoBulk d + 1
  | .map entries => uptoBulkEntries entries + 1
  | .held _ => 1
def uptoBulkAll {H : Type} : List (DataW H) → Nat
  | [] => 0
  | d :: r => uptoBulk d + uptoBulkAll r
def uptoBulkEntries {H : Type} : List (Lit × DataW H) → Nat
  | [] => 0
  | x :: r => uptoBulkEntry x + uptoBulkEntries r
def uptoBulkEntry {H : Type} : Lit × DataW H → Nat
  | (.string bytes, d) => bytes.length + uptoBulk d + 1
  | (_, d) => uptoBulk d + 1
 end
def uptoSmall : (H : Type) → List (DataW H) → Bool := fun _ ds => decide (uptoBulkAll ds ≤ 1048576)
def OpenSpec.upto (s : _root_.Go.ChangeSpec) : _root_.Go.OpenSpec := { _root_.Go.OpenSpec.ofChange s with cond := some uptoSmall }

/-- 'innkeeplaw24.LinearGood', WHERE WHAT IT READS IS OF BULK AT MOST 1048576: true; the input reads as it did. -/
def linearGoodUptoRow : OpenClaim := { program := "ytcpabdpbldmmmaagreatdoor", sum := "ba4959245192db882e9a52aa6baf64c0c5debde3e1697342148a8e47c932168e", func := "innkeep/innkeeplaw24.LinearGood", spec := "linearGood", unfollowed := true, recurses := true, named := ["innkeep/cmd.kinds", "innkeep/cmd.ways"], apart := false, laid := [("innkeep/cmd.kinds", laid_innkeep_cmd_kinds), ("innkeep/cmd.ways", laid_innkeep_cmd_ways)], narrowed := true }
def LinearGoodUptoSaid : Prop := linearGoodUptoRow.holds Tryz.pinned (OpenSpec.upto linearGoodSpec)

/-- 'innkeeplaw24.LinearTurned', WHERE WHAT IT READS IS OF BULK AT MOST 1048576: true; the input reads as it did. -/
def linearTurnedUptoRow : OpenClaim := { program := "ytcpabdpbldmmmaagreatdoor", sum := "ba4959245192db882e9a52aa6baf64c0c5debde3e1697342148a8e47c932168e", func := "innkeep/innkeeplaw24.LinearTurned", spec := "linearTurned", unfollowed := true, recurses := true, named := ["innkeep/cmd.kinds", "innkeep/cmd.ways"], apart := false, laid := [("innkeep/cmd.kinds", laid_innkeep_cmd_kinds), ("innkeep/cmd.ways", laid_innkeep_cmd_ways)], narrowed := true }
def LinearTurnedUptoSaid : Prop := linearTurnedUptoRow.holds Tryz.pinned (OpenSpec.upto linearTurnedSpec)

/-- 'innkeeplaw24.LinearApart', WHERE WHAT IT READS IS OF BULK AT MOST 1048576: true; the input reads as it did. -/
def linearApartUptoRow : OpenClaim := { program := "ytcpabdpbldmmmaagreatdoor", sum := "ba4959245192db882e9a52aa6baf64c0c5debde3e1697342148a8e47c932168e", func := "innkeep/innkeeplaw24.LinearApart", spec := "linearApart", unfollowed := true, recurses := true, named := ["innkeep/cmd.kinds", "innkeep/cmd.ways"], apart := false, laid := [("innkeep/cmd.kinds", laid_innkeep_cmd_kinds), ("innkeep/cmd.ways", laid_innkeep_cmd_ways)], narrowed := true }
def LinearApartUptoSaid : Prop := linearApartUptoRow.holds Tryz.pinned (OpenSpec.upto linearApartSpec)

end Rows
end Go.Proofs.YtcpabdpbldmmmaaGreatDoor
