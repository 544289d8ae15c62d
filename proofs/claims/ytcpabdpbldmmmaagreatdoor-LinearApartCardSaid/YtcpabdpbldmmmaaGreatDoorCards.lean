/-
  DERIVED. GIVEN WITH THE SEED: THE CARDS: each row of YtcpabdpbldmmmaaGreatDoorRows.lean that lists a variable, with what it lists TIED to the program's text (the seventh form; the later family's looks); each row that meets fmt, with fmt's text TOLD by the authors' own Lean function (tested against real Go, not proved from fmt's source: count such statements apart). THE CARD IS WHAT COUNTS. Prove the row's statement (the work); the ties are given (YtcpabdpbldmmmaaGreatDoorTie.lean); close each card by the builder's one call (the guide's Derived/Test/ToyasCard.lean, 'card_holds'). Laid BY PROGRAM, IN A SANDBOX (cutbox-door.mjs). By AI agents, Wed Nov 11 2026. No macro, syntax, notation, axiom, sorry.
-/
import Derived.Test.YtcpabdpbldmmmaaGreatDoorRows
import GoSem.ClaimSeven
namespace Go.Proofs.YtcpabdpbldmmmaaGreatDoor
namespace Rows

/-- THE TIED CARD OF 'innkeeplaw24.LinearGood'. -/
def linearGoodCard : Claim7 := { stood := { row := linearGoodRow, standIns := [], harness := (true, "55e1366739f21eefbfab6ddeb990d57147e0100f36c6921ceb302cd39e2bdccd"), looks := false }, kinds := [], alts := [], laidByText := true, laidKinds := [.widerDeep, .widerDeep], laidTests := true, laidLooks := .later }
def LinearGoodCardSaid : Prop := Claim7.holds Tryz.pinned (.plain (OpenSpec.ofChange linearGoodSpec)) linearGoodCard

/-- THE TIED CARD OF 'innkeeplaw24.LinearTurned'. -/
def linearTurnedCard : Claim7 := { stood := { row := linearTurnedRow, standIns := [], harness := (true, "55e1366739f21eefbfab6ddeb990d57147e0100f36c6921ceb302cd39e2bdccd"), looks := false }, kinds := [], alts := [], laidByText := true, laidKinds := [.widerDeep, .widerDeep], laidTests := true, laidLooks := .later }
def LinearTurnedCardSaid : Prop := Claim7.holds Tryz.pinned (.plain (OpenSpec.ofChange linearTurnedSpec)) linearTurnedCard

/-- THE TIED CARD OF 'innkeeplaw24.LinearApart'. -/
def linearApartCard : Claim7 := { stood := { row := linearApartRow, standIns := [], harness := (true, "55e1366739f21eefbfab6ddeb990d57147e0100f36c6921ceb302cd39e2bdccd"), looks := false }, kinds := [], alts := [], laidByText := true, laidKinds := [.widerDeep, .widerDeep], laidTests := true, laidLooks := .later }
def LinearApartCardSaid : Prop := Claim7.holds Tryz.pinned (.plain (OpenSpec.ofChange linearApartSpec)) linearApartCard

/-- THE SECOND FORM's CARD OF 'innkeeplaw24.LinearGood'. -/
def linearGoodUptoCard : Claim7 := { stood := { row := linearGoodUptoRow, standIns := [], harness := (true, "55e1366739f21eefbfab6ddeb990d57147e0100f36c6921ceb302cd39e2bdccd"), looks := false }, kinds := [], alts := [], laidByText := true, laidKinds := [.widerDeep, .widerDeep], laidTests := true, laidLooks := .later }
def LinearGoodUptoCardSaid : Prop := Claim7.holds Tryz.pinned (.plain (OpenSpec.upto linearGoodSpec)) linearGoodUptoCard

/-- THE SECOND FORM's CARD OF 'innkeeplaw24.LinearTurned'. -/
def linearTurnedUptoCard : Claim7 := { stood := { row := linearTurnedUptoRow, standIns := [], harness := (true, "55e1366739f21eefbfab6ddeb990d57147e0100f36c6921ceb302cd39e2bdccd"), looks := false }, kinds := [], alts := [], laidByText := true, laidKinds := [.widerDeep, .widerDeep], laidTests := true, laidLooks := .later }
def LinearTurnedUptoCardSaid : Prop := Claim7.holds Tryz.pinned (.plain (OpenSpec.upto linearTurnedSpec)) linearTurnedUptoCard

/-- THE SECOND FORM's CARD OF 'innkeeplaw24.LinearApart'. -/
def linearApartUptoCard : Claim7 := { stood := { row := linearApartUptoRow, standIns := [], harness := (true, "55e1366739f21eefbfab6ddeb990d57147e0100f36c6921ceb302cd39e2bdccd"), looks := false }, kinds := [], alts := [], laidByText := true, laidKinds := [.widerDeep, .widerDeep], laidTests := true, laidLooks := .later }
def LinearApartUptoCardSaid : Prop := Claim7.holds Tryz.pinned (.plain (OpenSpec.upto linearApartSpec)) linearApartUptoCard
end Rows
end Go.Proofs.YtcpabdpbldmmmaaGreatDoor
