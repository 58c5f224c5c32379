/-
  DERIVED. GIVEN WITH THE SEED: THE CARDS: each row of YtohnakjamlhhkaaGreatDoorRows.lean that lists a variable, with what it lists TIED to the program's text (the seventh form; the later family's looks); each row that meets fmt, with fmt's text TOLD by the authors' own Lean function (tested against real Go, not proved from fmt's source: count such statements apart). THE CARD IS WHAT COUNTS. Prove the row's statement (the work); the ties are given (YtohnakjamlhhkaaGreatDoorTie.lean); close each card by the builder's one call (the guide's Derived/Test/ToyasCard.lean, 'card_holds'). Laid BY PROGRAM, IN A SANDBOX (cutbox-door.mjs). By AI agents, Wed Nov 11 2026. No macro, syntax, notation, axiom, sorry.
-/
import Derived.Test.YtohnakjamlhhkaaGreatDoorRows
import GoSem.ClaimSeven
namespace Go.Proofs.YtohnakjamlhhkaaGreatDoor
namespace Rows

/-- THE TIED CARD OF 'allotmenttop.TopAtOnce'. -/
def topAtOnceCard : Claim7 := { stood := { row := topAtOnceRow, standIns := [], harness := (true, "1dd66b3888acb149f31ae0e72e518c90f8366d6c201e4974aa355d67588d151b"), looks := true }, kinds := [], alts := [], laidByText := true, laidKinds := [.data, .data, .data, .data, .sentinel, .sentinel, .pinned], laidTests := true, laidLooks := .later }
def TopAtOnceCardSaid : Prop := Claim7.holds Tryz.pinned (.plain (OpenSpec.ofChange topAtOnceSpec)) topAtOnceCard

/-- THE TIED CARD OF 'allotmenttop.TopAgain'. -/
def topAgainCard : Claim7 := { stood := { row := topAgainRow, standIns := [], harness := (true, "1dd66b3888acb149f31ae0e72e518c90f8366d6c201e4974aa355d67588d151b"), looks := true }, kinds := [], alts := [], laidByText := true, laidKinds := [.data, .data, .data, .data, .sentinel, .sentinel, .pinned], laidTests := true, laidLooks := .later }
def TopAgainCardSaid : Prop := Claim7.holds Tryz.pinned (.plain (OpenSpec.ofChange topAgainSpec)) topAgainCard

/-- THE TIED CARD OF 'allotmenttop.TopLost'. -/
def topLostCard : Claim7 := { stood := { row := topLostRow, standIns := [], harness := (true, "1dd66b3888acb149f31ae0e72e518c90f8366d6c201e4974aa355d67588d151b"), looks := true }, kinds := [], alts := [], laidByText := true, laidKinds := [.data, .data, .data, .data, .sentinel, .sentinel, .pinned], laidTests := true, laidLooks := .later }
def TopLostCardSaid : Prop := Claim7.holds Tryz.pinned (.plain (OpenSpec.ofChange topLostSpec)) topLostCard

/-- THE TIED CARD OF 'allotmenttop.TopFails'. -/
def topFailsCard : Claim7 := { stood := { row := topFailsRow, standIns := [], harness := (true, "1dd66b3888acb149f31ae0e72e518c90f8366d6c201e4974aa355d67588d151b"), looks := true }, kinds := [], alts := [], laidByText := true, laidKinds := [.data, .data, .data, .data, .sentinel, .sentinel, .pinned], laidTests := true, laidLooks := .later }
def TopFailsCardSaid : Prop := Claim7.holds Tryz.pinned (.plain (OpenSpec.ofChange topFailsSpec)) topFailsCard

/-- THE SECOND FORM's CARD OF 'allotmenttop.TopAtOnce'. -/
def topAtOnceUptoCard : Claim7 := { stood := { row := topAtOnceUptoRow, standIns := [], harness := (true, "1dd66b3888acb149f31ae0e72e518c90f8366d6c201e4974aa355d67588d151b"), looks := true }, kinds := [], alts := [], laidByText := true, laidKinds := [.data, .data, .data, .data, .sentinel, .sentinel, .pinned], laidTests := true, laidLooks := .later }
def TopAtOnceUptoCardSaid : Prop := Claim7.holds Tryz.pinned (.plain (OpenSpec.upto topAtOnceSpec)) topAtOnceUptoCard

/-- THE SECOND FORM's CARD OF 'allotmenttop.TopAgain'. -/
def topAgainUptoCard : Claim7 := { stood := { row := topAgainUptoRow, standIns := [], harness := (true, "1dd66b3888acb149f31ae0e72e518c90f8366d6c201e4974aa355d67588d151b"), looks := true }, kinds := [], alts := [], laidByText := true, laidKinds := [.data, .data, .data, .data, .sentinel, .sentinel, .pinned], laidTests := true, laidLooks := .later }
def TopAgainUptoCardSaid : Prop := Claim7.holds Tryz.pinned (.plain (OpenSpec.upto topAgainSpec)) topAgainUptoCard

/-- THE SECOND FORM's CARD OF 'allotmenttop.TopLost'. -/
def topLostUptoCard : Claim7 := { stood := { row := topLostUptoRow, standIns := [], harness := (true, "1dd66b3888acb149f31ae0e72e518c90f8366d6c201e4974aa355d67588d151b"), looks := true }, kinds := [], alts := [], laidByText := true, laidKinds := [.data, .data, .data, .data, .sentinel, .sentinel, .pinned], laidTests := true, laidLooks := .later }
def TopLostUptoCardSaid : Prop := Claim7.holds Tryz.pinned (.plain (OpenSpec.upto topLostSpec)) topLostUptoCard

/-- THE SECOND FORM's CARD OF 'allotmenttop.TopFails'. -/
def topFailsUptoCard : Claim7 := { stood := { row := topFailsUptoRow, standIns := [], harness := (true, "1dd66b3888acb149f31ae0e72e518c90f8366d6c201e4974aa355d67588d151b"), looks := true }, kinds := [], alts := [], laidByText := true, laidKinds := [.data, .data, .data, .data, .sentinel, .sentinel, .pinned], laidTests := true, laidLooks := .later }
def TopFailsUptoCardSaid : Prop := Claim7.holds Tryz.pinned (.plain (OpenSpec.upto topFailsSpec)) topFailsUptoCard
end Rows
end Go.Proofs.YtohnakjamlhhkaaGreatDoor
