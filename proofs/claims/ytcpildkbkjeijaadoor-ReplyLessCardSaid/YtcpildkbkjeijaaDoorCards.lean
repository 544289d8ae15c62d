/-
  DERIVED. GIVEN WITH THE SEED: THE CARDS: each row of YtcpildkbkjeijaaDoorRows.lean that lists a variable, with what it lists TIED to the program's text (the seventh form; the later family's looks); each row that meets fmt, with fmt's text TOLD by the authors' own Lean function (tested against real Go, not proved from fmt's source: count such statements apart). THE CARD IS WHAT COUNTS. Prove the row's statement (the work); the ties are given (YtcpildkbkjeijaaDoorTie.lean); close each card by the builder's one call (the guide's Derived/Test/ToyasCard.lean, 'card_holds'). Laid BY PROGRAM, IN A SANDBOX (cutbox-door.mjs). By AI agents, Wed Nov 11 2026. No macro, syntax, notation, axiom, sorry.
-/
import Derived.Test.YtcpildkbkjeijaaDoorRows
import GoSem.ClaimSeven
namespace Go.Proofs.YtcpildkbkjeijaaDoor
namespace Rows

/-- THE TIED CARD OF 'innkeeplaw05.ReplyPuts'. -/
def replyPutsCard : Claim7 := { stood := { row := replyPutsRow, standIns := [], harness := (true, "2b6cc8b0e78e20343cc5cafdb0750f18c0462dcad123f7e6305c656c3198c6ff"), looks := true }, kinds := [], alts := [], laidByText := true, laidKinds := [.data, .data, .data, .data, .widerDeep, .sentinel, .sentinel, .widerDeep, .pinned], laidTests := true, laidLooks := .later }
def ReplyPutsCardSaid : Prop := Claim7.holds Tryd.pinned (.plain (OpenSpec.ofChange replyPutsSpec)) replyPutsCard

/-- THE TIED CARD OF 'innkeeplaw05.ReplyGets'. -/
def replyGetsCard : Claim7 := { stood := { row := replyGetsRow, standIns := [], harness := (true, "2b6cc8b0e78e20343cc5cafdb0750f18c0462dcad123f7e6305c656c3198c6ff"), looks := true }, kinds := [], alts := [], laidByText := true, laidKinds := [.data, .data, .data, .data, .widerDeep, .sentinel, .sentinel, .widerDeep, .pinned], laidTests := true, laidLooks := .later }
def ReplyGetsCardSaid : Prop := Claim7.holds Tryd.pinned (.plain (OpenSpec.ofChange replyGetsSpec)) replyGetsCard

/-- THE TIED CARD OF 'innkeeplaw05.ReplyBack'. -/
def replyBackCard : Claim7 := { stood := { row := replyBackRow, standIns := [], harness := (true, "2b6cc8b0e78e20343cc5cafdb0750f18c0462dcad123f7e6305c656c3198c6ff"), looks := true }, kinds := [], alts := [], laidByText := true, laidKinds := [.data, .data, .data, .data, .widerDeep, .sentinel, .sentinel, .widerDeep, .pinned], laidTests := true, laidLooks := .later }
def ReplyBackCardSaid : Prop := Claim7.holds Tryd.pinned (.plain (OpenSpec.ofChange replyBackSpec)) replyBackCard

/-- THE TIED CARD OF 'innkeeplaw05.ReplyErrors'. -/
def replyErrorsCard : Claim7 := { stood := { row := replyErrorsRow, standIns := [], harness := (true, "2b6cc8b0e78e20343cc5cafdb0750f18c0462dcad123f7e6305c656c3198c6ff"), looks := true }, kinds := [], alts := [], laidByText := true, laidKinds := [.data, .data, .data, .data, .widerDeep, .sentinel, .sentinel, .widerDeep, .pinned], laidTests := true, laidLooks := .later }
def ReplyErrorsCardSaid : Prop := Claim7.holds Tryd.pinned (.plain (OpenSpec.ofChange replyErrorsSpec)) replyErrorsCard

/-- THE TIED CARD OF 'innkeeplaw05.ReplyLess'. -/
def replyLessCard : Claim7 := { stood := { row := replyLessRow, standIns := [], harness := (true, "2b6cc8b0e78e20343cc5cafdb0750f18c0462dcad123f7e6305c656c3198c6ff"), looks := true }, kinds := [], alts := [], laidByText := true, laidKinds := [.data, .data, .data, .data, .widerDeep, .sentinel, .sentinel, .widerDeep, .pinned], laidTests := true, laidLooks := .later }
def ReplyLessCardSaid : Prop := Claim7.holds Tryd.pinned (.plain (OpenSpec.ofChange replyLessSpec)) replyLessCard

/-- THE TIED CARD OF 'innkeeplaw04.LineBack'. -/
def lineBackCard : Claim7 := { stood := { row := lineBackRow, standIns := [], harness := (true, "2b6cc8b0e78e20343cc5cafdb0750f18c0462dcad123f7e6305c656c3198c6ff"), looks := true }, kinds := [], alts := [], laidByText := true, laidKinds := [.data, .data, .data, .data, .widerDeep, .widerDeep, .sentinel, .sentinel, .pinned], laidTests := true, laidLooks := .later }
def LineBackCardSaid : Prop := Claim7.holds Tryd.pinned (.plain (OpenSpec.ofChange lineBackSpec)) lineBackCard

/-- THE TIED CARD OF 'innkeeplaw04.LineNumbers'. -/
def lineNumbersCard : Claim7 := { stood := { row := lineNumbersRow, standIns := [], harness := (true, "2b6cc8b0e78e20343cc5cafdb0750f18c0462dcad123f7e6305c656c3198c6ff"), looks := true }, kinds := [], alts := [], laidByText := true, laidKinds := [.data, .data, .data, .data, .widerDeep, .widerDeep, .sentinel, .sentinel, .pinned], laidTests := true, laidLooks := .later }
def LineNumbersCardSaid : Prop := Claim7.holds Tryd.pinned (.plain (OpenSpec.ofChange lineNumbersSpec)) lineNumbersCard

/-- THE SECOND FORM's CARD OF 'innkeeplaw05.ReplyPuts'. -/
def replyPutsUptoCard : Claim7 := { stood := { row := replyPutsUptoRow, standIns := [], harness := (true, "2b6cc8b0e78e20343cc5cafdb0750f18c0462dcad123f7e6305c656c3198c6ff"), looks := true }, kinds := [], alts := [], laidByText := true, laidKinds := [.data, .data, .data, .data, .widerDeep, .sentinel, .sentinel, .widerDeep, .pinned], laidTests := true, laidLooks := .later }
def ReplyPutsUptoCardSaid : Prop := Claim7.holds Tryd.pinned (.plain (OpenSpec.upto replyPutsSpec)) replyPutsUptoCard

/-- THE SECOND FORM's CARD OF 'innkeeplaw05.ReplyGets'. -/
def replyGetsUptoCard : Claim7 := { stood := { row := replyGetsUptoRow, standIns := [], harness := (true, "2b6cc8b0e78e20343cc5cafdb0750f18c0462dcad123f7e6305c656c3198c6ff"), looks := true }, kinds := [], alts := [], laidByText := true, laidKinds := [.data, .data, .data, .data, .widerDeep, .sentinel, .sentinel, .widerDeep, .pinned], laidTests := true, laidLooks := .later }
def ReplyGetsUptoCardSaid : Prop := Claim7.holds Tryd.pinned (.plain (OpenSpec.upto replyGetsSpec)) replyGetsUptoCard

/-- THE SECOND FORM's CARD OF 'innkeeplaw05.ReplyBack'. -/
def replyBackUptoCard : Claim7 := { stood := { row := replyBackUptoRow, standIns := [], harness := (true, "2b6cc8b0e78e20343cc5cafdb0750f18c0462dcad123f7e6305c656c3198c6ff"), looks := true }, kinds := [], alts := [], laidByText := true, laidKinds := [.data, .data, .data, .data, .widerDeep, .sentinel, .sentinel, .widerDeep, .pinned], laidTests := true, laidLooks := .later }
def ReplyBackUptoCardSaid : Prop := Claim7.holds Tryd.pinned (.plain (OpenSpec.upto replyBackSpec)) replyBackUptoCard

/-- THE SECOND FORM's CARD OF 'innkeeplaw05.ReplyErrors'. -/
def replyErrorsUptoCard : Claim7 := { stood := { row := replyErrorsUptoRow, standIns := [], harness := (true, "2b6cc8b0e78e20343cc5cafdb0750f18c0462dcad123f7e6305c656c3198c6ff"), looks := true }, kinds := [], alts := [], laidByText := true, laidKinds := [.data, .data, .data, .data, .widerDeep, .sentinel, .sentinel, .widerDeep, .pinned], laidTests := true, laidLooks := .later }
def ReplyErrorsUptoCardSaid : Prop := Claim7.holds Tryd.pinned (.plain (OpenSpec.upto replyErrorsSpec)) replyErrorsUptoCard

/-- THE SECOND FORM's CARD OF 'innkeeplaw05.ReplyLess'. -/
def replyLessUptoCard : Claim7 := { stood := { row := replyLessUptoRow, standIns := [], harness := (true, "2b6cc8b0e78e20343cc5cafdb0750f18c0462dcad123f7e6305c656c3198c6ff"), looks := true }, kinds := [], alts := [], laidByText := true, laidKinds := [.data, .data, .data, .data, .widerDeep, .sentinel, .sentinel, .widerDeep, .pinned], laidTests := true, laidLooks := .later }
def ReplyLessUptoCardSaid : Prop := Claim7.holds Tryd.pinned (.plain (OpenSpec.upto replyLessSpec)) replyLessUptoCard

/-- THE SECOND FORM's CARD OF 'innkeeplaw04.LineBack'. -/
def lineBackUptoCard : Claim7 := { stood := { row := lineBackUptoRow, standIns := [], harness := (true, "2b6cc8b0e78e20343cc5cafdb0750f18c0462dcad123f7e6305c656c3198c6ff"), looks := true }, kinds := [], alts := [], laidByText := true, laidKinds := [.data, .data, .data, .data, .widerDeep, .widerDeep, .sentinel, .sentinel, .pinned], laidTests := true, laidLooks := .later }
def LineBackUptoCardSaid : Prop := Claim7.holds Tryd.pinned (.plain (OpenSpec.upto lineBackSpec)) lineBackUptoCard

/-- THE SECOND FORM's CARD OF 'innkeeplaw04.LineNumbers'. -/
def lineNumbersUptoCard : Claim7 := { stood := { row := lineNumbersUptoRow, standIns := [], harness := (true, "2b6cc8b0e78e20343cc5cafdb0750f18c0462dcad123f7e6305c656c3198c6ff"), looks := true }, kinds := [], alts := [], laidByText := true, laidKinds := [.data, .data, .data, .data, .widerDeep, .widerDeep, .sentinel, .sentinel, .pinned], laidTests := true, laidLooks := .later }
def LineNumbersUptoCardSaid : Prop := Claim7.holds Tryd.pinned (.plain (OpenSpec.upto lineNumbersSpec)) lineNumbersUptoCard
end Rows
end Go.Proofs.YtcpildkbkjeijaaDoor
