/-
  DERIVED. GIVEN WITH THE SEED: THE CARDS: each row of YtmkpiekbpakigaaGreatDoorRows.lean that lists a variable, with what it lists TIED to the program's text (the seventh form; the later family's looks); each row that meets fmt, with fmt's text TOLD by the authors' own Lean function (tested against real Go, not proved from fmt's source: count such statements apart). THE CARD IS WHAT COUNTS. Prove the row's statement (the work); the ties are given (YtmkpiekbpakigaaGreatDoorTie.lean); close each card by the builder's one call (the guide's Derived/Test/ToyasCard.lean, 'card_holds'). Laid BY PROGRAM, IN A SANDBOX (cutbox-door.mjs). By AI agents, Wed Nov 11 2026. No macro, syntax, notation, axiom, sorry.
-/
import Derived.Test.YtmkpiekbpakigaaGreatDoorRows
import GoSem.ClaimSeven
namespace Go.Proofs.YtmkpiekbpakigaaGreatDoor
namespace Rows

/-- THE TIED CARD OF 'imprimaturlaw10.CodeAnswers'. -/
def codeAnswersCard : Claim7 := { stood := { row := codeAnswersRow, standIns := [], harness := (true, "ea61244961679f07ca89ae0e5f420c082dc2b194b2117740f0896629512a800d"), looks := true }, kinds := [], alts := [], laidByText := true, laidKinds := [.data, .pinned], laidTests := true, laidLooks := .later }
def CodeAnswersCardSaid : Prop := Claim7.holds Tryz.pinned (.plain (OpenSpec.ofChange codeAnswersSpec)) codeAnswersCard

/-- THE TIED CARD OF 'imprimaturlaw10.CodeOne'. -/
def codeOneCard : Claim7 := { stood := { row := codeOneRow, standIns := [], harness := (true, "ea61244961679f07ca89ae0e5f420c082dc2b194b2117740f0896629512a800d"), looks := true }, kinds := [], alts := [], laidByText := true, laidKinds := [.data, .pinned], laidTests := true, laidLooks := .later }
def CodeOneCardSaid : Prop := Claim7.holds Tryz.pinned (.plain (OpenSpec.ofChange codeOneSpec)) codeOneCard

/-- THE TIED CARD OF 'imprimaturlaw09.MoveAnswers'. -/
def moveAnswersCard : Claim7 := { stood := { row := moveAnswersRow, standIns := [], harness := (true, "ea61244961679f07ca89ae0e5f420c082dc2b194b2117740f0896629512a800d"), looks := true }, kinds := [], alts := [], laidByText := true, laidKinds := [.data, .pinned], laidTests := true, laidLooks := .later }
def MoveAnswersCardSaid : Prop := Claim7.holds Tryz.pinned (.plain (OpenSpec.ofChange moveAnswersSpec)) moveAnswersCard

/-- THE SECOND FORM's CARD OF 'imprimaturlaw10.CodeAnswers'. -/
def codeAnswersUptoCard : Claim7 := { stood := { row := codeAnswersUptoRow, standIns := [], harness := (true, "ea61244961679f07ca89ae0e5f420c082dc2b194b2117740f0896629512a800d"), looks := true }, kinds := [], alts := [], laidByText := true, laidKinds := [.data, .pinned], laidTests := true, laidLooks := .later }
def CodeAnswersUptoCardSaid : Prop := Claim7.holds Tryz.pinned (.plain (OpenSpec.upto codeAnswersSpec)) codeAnswersUptoCard

/-- THE SECOND FORM's CARD OF 'imprimaturlaw10.CodeOne'. -/
def codeOneUptoCard : Claim7 := { stood := { row := codeOneUptoRow, standIns := [], harness := (true, "ea61244961679f07ca89ae0e5f420c082dc2b194b2117740f0896629512a800d"), looks := true }, kinds := [], alts := [], laidByText := true, laidKinds := [.data, .pinned], laidTests := true, laidLooks := .later }
def CodeOneUptoCardSaid : Prop := Claim7.holds Tryz.pinned (.plain (OpenSpec.upto codeOneSpec)) codeOneUptoCard

/-- THE SECOND FORM's CARD OF 'imprimaturlaw09.MoveAnswers'. -/
def moveAnswersUptoCard : Claim7 := { stood := { row := moveAnswersUptoRow, standIns := [], harness := (true, "ea61244961679f07ca89ae0e5f420c082dc2b194b2117740f0896629512a800d"), looks := true }, kinds := [], alts := [], laidByText := true, laidKinds := [.data, .pinned], laidTests := true, laidLooks := .later }
def MoveAnswersUptoCardSaid : Prop := Claim7.holds Tryz.pinned (.plain (OpenSpec.upto moveAnswersSpec)) moveAnswersUptoCard
end Rows
end Go.Proofs.YtmkpiekbpakigaaGreatDoor
