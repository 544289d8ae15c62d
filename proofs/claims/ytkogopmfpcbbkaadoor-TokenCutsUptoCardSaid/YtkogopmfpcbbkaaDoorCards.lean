/-
  DERIVED. GIVEN WITH THE SEED: THE CARDS: each row of YtkogopmfpcbbkaaDoorRows.lean that lists a variable, with what it lists TIED to the program's text (the seventh form; the later family's looks); each row that meets fmt, with fmt's text TOLD by the authors' own Lean function (tested against real Go, not proved from fmt's source: count such statements apart). THE CARD IS WHAT COUNTS. Prove the row's statement (the work); the ties are given (YtkogopmfpcbbkaaDoorTie.lean); close each card by the builder's one call (the guide's Derived/Test/ToyasCard.lean, 'card_holds'). Laid BY PROGRAM, IN A SANDBOX (cutbox-door.mjs). By AI agents, Wed Nov 11 2026. No macro, syntax, notation, axiom, sorry.
-/
import Derived.Test.YtkogopmfpcbbkaaDoorRows
import GoSem.ClaimSeven
namespace Go.Proofs.YtkogopmfpcbbkaaDoor
namespace Rows

/-- THE TIED CARD OF 'innkeeplaw02.TokenCuts'. -/
def tokenCutsCard : Claim7 := { stood := { row := tokenCutsRow, standIns := [], harness := (true, "a4d4fddc58f4eb1838ba89309df6d53ba9f9eb8352ac16dfd28cadc037b3103e"), looks := true }, kinds := [], alts := [], laidByText := true, laidKinds := [.data, .data, .data, .data, .sentinel, .sentinel, .pinned], laidTests := true, laidLooks := .later }
def TokenCutsCardSaid : Prop := Claim7.holds Tryd.pinned (.plain (OpenSpec.ofChange tokenCutsSpec)) tokenCutsCard

/-- THE TIED CARD OF 'innkeeplaw02.TokenNumbers'. -/
def tokenNumbersCard : Claim7 := { stood := { row := tokenNumbersRow, standIns := [], harness := (true, "a4d4fddc58f4eb1838ba89309df6d53ba9f9eb8352ac16dfd28cadc037b3103e"), looks := true }, kinds := [], alts := [], laidByText := true, laidKinds := [.data, .data, .data, .data, .sentinel, .sentinel, .pinned], laidTests := true, laidLooks := .later }
def TokenNumbersCardSaid : Prop := Claim7.holds Tryd.pinned (.plain (OpenSpec.ofChange tokenNumbersSpec)) tokenNumbersCard

/-- THE TIED CARD OF 'innkeeplaw02.TokenBack'. -/
def tokenBackCard : Claim7 := { stood := { row := tokenBackRow, standIns := [], harness := (true, "a4d4fddc58f4eb1838ba89309df6d53ba9f9eb8352ac16dfd28cadc037b3103e"), looks := true }, kinds := [], alts := [], laidByText := true, laidKinds := [.data, .data, .data, .data, .sentinel, .sentinel, .pinned], laidTests := true, laidLooks := .later }
def TokenBackCardSaid : Prop := Claim7.holds Tryd.pinned (.plain (OpenSpec.ofChange tokenBackSpec)) tokenBackCard

/-- THE TIED CARD OF 'innkeeplaw02.TokenParts'. -/
def tokenPartsCard : Claim7 := { stood := { row := tokenPartsRow, standIns := [], harness := (true, "a4d4fddc58f4eb1838ba89309df6d53ba9f9eb8352ac16dfd28cadc037b3103e"), looks := true }, kinds := [], alts := [], laidByText := true, laidKinds := [.data, .data, .data, .data, .sentinel, .sentinel, .pinned], laidTests := true, laidLooks := .later }
def TokenPartsCardSaid : Prop := Claim7.holds Tryd.pinned (.plain (OpenSpec.ofChange tokenPartsSpec)) tokenPartsCard

/-- THE TIED CARD OF 'innkeeplaw02.TokenOrder'. -/
def tokenOrderCard : Claim7 := { stood := { row := tokenOrderRow, standIns := [], harness := (true, "a4d4fddc58f4eb1838ba89309df6d53ba9f9eb8352ac16dfd28cadc037b3103e"), looks := true }, kinds := [], alts := [], laidByText := true, laidKinds := [.data, .data, .data, .data, .sentinel, .sentinel, .pinned], laidTests := true, laidLooks := .later }
def TokenOrderCardSaid : Prop := Claim7.holds Tryd.pinned (.plain (OpenSpec.ofChange tokenOrderSpec)) tokenOrderCard

/-- THE TIED CARD OF 'innkeeplaw02.TokenDigits'. -/
def tokenDigitsCard : Claim7 := { stood := { row := tokenDigitsRow, standIns := [], harness := (true, "a4d4fddc58f4eb1838ba89309df6d53ba9f9eb8352ac16dfd28cadc037b3103e"), looks := true }, kinds := [], alts := [], laidByText := true, laidKinds := [.data, .data, .data, .data, .sentinel, .sentinel, .pinned], laidTests := true, laidLooks := .later }
def TokenDigitsCardSaid : Prop := Claim7.holds Tryd.pinned (.plain (OpenSpec.ofChange tokenDigitsSpec)) tokenDigitsCard

/-- THE SECOND FORM's CARD OF 'innkeeplaw02.TokenCuts'. -/
def tokenCutsUptoCard : Claim7 := { stood := { row := tokenCutsUptoRow, standIns := [], harness := (true, "a4d4fddc58f4eb1838ba89309df6d53ba9f9eb8352ac16dfd28cadc037b3103e"), looks := true }, kinds := [], alts := [], laidByText := true, laidKinds := [.data, .data, .data, .data, .sentinel, .sentinel, .pinned], laidTests := true, laidLooks := .later }
def TokenCutsUptoCardSaid : Prop := Claim7.holds Tryd.pinned (.plain (OpenSpec.upto tokenCutsSpec)) tokenCutsUptoCard

/-- THE SECOND FORM's CARD OF 'innkeeplaw02.TokenNumbers'. -/
def tokenNumbersUptoCard : Claim7 := { stood := { row := tokenNumbersUptoRow, standIns := [], harness := (true, "a4d4fddc58f4eb1838ba89309df6d53ba9f9eb8352ac16dfd28cadc037b3103e"), looks := true }, kinds := [], alts := [], laidByText := true, laidKinds := [.data, .data, .data, .data, .sentinel, .sentinel, .pinned], laidTests := true, laidLooks := .later }
def TokenNumbersUptoCardSaid : Prop := Claim7.holds Tryd.pinned (.plain (OpenSpec.upto tokenNumbersSpec)) tokenNumbersUptoCard

/-- THE SECOND FORM's CARD OF 'innkeeplaw02.TokenBack'. -/
def tokenBackUptoCard : Claim7 := { stood := { row := tokenBackUptoRow, standIns := [], harness := (true, "a4d4fddc58f4eb1838ba89309df6d53ba9f9eb8352ac16dfd28cadc037b3103e"), looks := true }, kinds := [], alts := [], laidByText := true, laidKinds := [.data, .data, .data, .data, .sentinel, .sentinel, .pinned], laidTests := true, laidLooks := .later }
def TokenBackUptoCardSaid : Prop := Claim7.holds Tryd.pinned (.plain (OpenSpec.upto tokenBackSpec)) tokenBackUptoCard

/-- THE SECOND FORM's CARD OF 'innkeeplaw02.TokenParts'. -/
def tokenPartsUptoCard : Claim7 := { stood := { row := tokenPartsUptoRow, standIns := [], harness := (true, "a4d4fddc58f4eb1838ba89309df6d53ba9f9eb8352ac16dfd28cadc037b3103e"), looks := true }, kinds := [], alts := [], laidByText := true, laidKinds := [.data, .data, .data, .data, .sentinel, .sentinel, .pinned], laidTests := true, laidLooks := .later }
def TokenPartsUptoCardSaid : Prop := Claim7.holds Tryd.pinned (.plain (OpenSpec.upto tokenPartsSpec)) tokenPartsUptoCard

/-- THE SECOND FORM's CARD OF 'innkeeplaw02.TokenOrder'. -/
def tokenOrderUptoCard : Claim7 := { stood := { row := tokenOrderUptoRow, standIns := [], harness := (true, "a4d4fddc58f4eb1838ba89309df6d53ba9f9eb8352ac16dfd28cadc037b3103e"), looks := true }, kinds := [], alts := [], laidByText := true, laidKinds := [.data, .data, .data, .data, .sentinel, .sentinel, .pinned], laidTests := true, laidLooks := .later }
def TokenOrderUptoCardSaid : Prop := Claim7.holds Tryd.pinned (.plain (OpenSpec.upto tokenOrderSpec)) tokenOrderUptoCard

/-- THE SECOND FORM's CARD OF 'innkeeplaw02.TokenDigits'. -/
def tokenDigitsUptoCard : Claim7 := { stood := { row := tokenDigitsUptoRow, standIns := [], harness := (true, "a4d4fddc58f4eb1838ba89309df6d53ba9f9eb8352ac16dfd28cadc037b3103e"), looks := true }, kinds := [], alts := [], laidByText := true, laidKinds := [.data, .data, .data, .data, .sentinel, .sentinel, .pinned], laidTests := true, laidLooks := .later }
def TokenDigitsUptoCardSaid : Prop := Claim7.holds Tryd.pinned (.plain (OpenSpec.upto tokenDigitsSpec)) tokenDigitsUptoCard
end Rows
end Go.Proofs.YtkogopmfpcbbkaaDoor
