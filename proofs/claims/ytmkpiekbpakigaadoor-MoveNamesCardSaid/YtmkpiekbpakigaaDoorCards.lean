/-
  DERIVED. GIVEN WITH THE SEED: THE CARDS: each row of YtmkpiekbpakigaaDoorRows.lean that lists a variable, with what it lists TIED to the program's text (the seventh form; the later family's looks); each row that meets fmt, with fmt's text TOLD by the authors' own Lean function (tested against real Go, not proved from fmt's source: count such statements apart). THE CARD IS WHAT COUNTS. Prove the row's statement (the work); the ties are given (YtmkpiekbpakigaaDoorTie.lean); close each card by the builder's one call (the guide's Derived/Test/ToyasCard.lean, 'card_holds'). Laid BY PROGRAM, IN A SANDBOX (cutbox-door.mjs). By AI agents, Wed Nov 11 2026. No macro, syntax, notation, axiom, sorry.
-/
import Derived.Test.YtmkpiekbpakigaaDoorRows
import GoSem.ClaimSeven
namespace Go.Proofs.YtmkpiekbpakigaaDoor
namespace Rows

/-- THE TIED CARD OF 'imprimaturlaw07.LevelOrder'. -/
def levelOrderCard : Claim7 := { stood := { row := levelOrderRow, standIns := [], harness := (true, "890a7d268eede76fc66531128281bbfa2455316a1dd740fc9ac90f801c8180ba"), looks := true }, kinds := [], alts := [], laidByText := true, laidKinds := [.data, .data, .data], laidTests := true, laidLooks := .later }
def LevelOrderCardSaid : Prop := Claim7.holds Tryd.pinned (.plain (OpenSpec.ofChange levelOrderSpec)) levelOrderCard

/-- THE TIED CARD OF 'imprimaturlaw07.LevelMax'. -/
def levelMaxCard : Claim7 := { stood := { row := levelMaxRow, standIns := [], harness := (true, "890a7d268eede76fc66531128281bbfa2455316a1dd740fc9ac90f801c8180ba"), looks := true }, kinds := [], alts := [], laidByText := true, laidKinds := [.data, .data, .data], laidTests := true, laidLooks := .later }
def LevelMaxCardSaid : Prop := Claim7.holds Tryd.pinned (.plain (OpenSpec.ofChange levelMaxSpec)) levelMaxCard

/-- THE TIED CARD OF 'imprimaturlaw07.LevelInsts'. -/
def levelInstsCard : Claim7 := { stood := { row := levelInstsRow, standIns := [], harness := (true, "890a7d268eede76fc66531128281bbfa2455316a1dd740fc9ac90f801c8180ba"), looks := true }, kinds := [], alts := [], laidByText := true, laidKinds := [.data, .data, .data], laidTests := true, laidLooks := .later }
def LevelInstsCardSaid : Prop := Claim7.holds Tryd.pinned (.plain (OpenSpec.ofChange levelInstsSpec)) levelInstsCard

/-- THE TIED CARD OF 'imprimaturlaw07.LevelTexts'. -/
def levelTextsCard : Claim7 := { stood := { row := levelTextsRow, standIns := [], harness := (true, "890a7d268eede76fc66531128281bbfa2455316a1dd740fc9ac90f801c8180ba"), looks := true }, kinds := [], alts := [], laidByText := true, laidKinds := [.data, .data, .data], laidTests := true, laidLooks := .later }
def LevelTextsCardSaid : Prop := Claim7.holds Tryd.pinned (.plain (OpenSpec.ofChange levelTextsSpec)) levelTextsCard

/-- THE TIED CARD OF 'imprimaturlaw10.CodeCuts'. -/
def codeCutsCard : Claim7 := { stood := { row := codeCutsRow, standIns := [], harness := (true, "890a7d268eede76fc66531128281bbfa2455316a1dd740fc9ac90f801c8180ba"), looks := true }, kinds := [], alts := [], laidByText := true, laidKinds := [.data, .pinned], laidTests := true, laidLooks := .later }
def CodeCutsCardSaid : Prop := Claim7.holds Tryd.pinned (.plain (OpenSpec.ofChange codeCutsSpec)) codeCutsCard

/-- THE TIED CARD OF 'imprimaturlaw10.CodeBack'. -/
def codeBackCard : Claim7 := { stood := { row := codeBackRow, standIns := [], harness := (true, "890a7d268eede76fc66531128281bbfa2455316a1dd740fc9ac90f801c8180ba"), looks := true }, kinds := [], alts := [], laidByText := true, laidKinds := [.data, .pinned], laidTests := true, laidLooks := .later }
def CodeBackCardSaid : Prop := Claim7.holds Tryd.pinned (.plain (OpenSpec.ofChange codeBackSpec)) codeBackCard

/-- THE TIED CARD OF 'imprimaturlaw09.MoveBack'. -/
def moveBackCard : Claim7 := { stood := { row := moveBackRow, standIns := [], harness := (true, "890a7d268eede76fc66531128281bbfa2455316a1dd740fc9ac90f801c8180ba"), looks := true }, kinds := [], alts := [], laidByText := true, laidKinds := [.data, .pinned], laidTests := true, laidLooks := .later }
def MoveBackCardSaid : Prop := Claim7.holds Tryd.pinned (.plain (OpenSpec.ofChange moveBackSpec)) moveBackCard

/-- THE TIED CARD OF 'imprimaturlaw09.MoveSteps'. -/
def moveStepsCard : Claim7 := { stood := { row := moveStepsRow, standIns := [], harness := (true, "890a7d268eede76fc66531128281bbfa2455316a1dd740fc9ac90f801c8180ba"), looks := true }, kinds := [], alts := [], laidByText := true, laidKinds := [.data, .pinned], laidTests := true, laidLooks := .later }
def MoveStepsCardSaid : Prop := Claim7.holds Tryd.pinned (.plain (OpenSpec.ofChange moveStepsSpec)) moveStepsCard

/-- THE TIED CARD OF 'imprimaturlaw09.MoveNames'. -/
def moveNamesCard : Claim7 := { stood := { row := moveNamesRow, standIns := [], harness := (true, "890a7d268eede76fc66531128281bbfa2455316a1dd740fc9ac90f801c8180ba"), looks := true }, kinds := [], alts := [], laidByText := true, laidKinds := [.data, .pinned], laidTests := true, laidLooks := .later }
def MoveNamesCardSaid : Prop := Claim7.holds Tryd.pinned (.plain (OpenSpec.ofChange moveNamesSpec)) moveNamesCard

/-- THE TIED CARD OF 'imprimaturlaw09.MoveLevels'. -/
def moveLevelsCard : Claim7 := { stood := { row := moveLevelsRow, standIns := [], harness := (true, "890a7d268eede76fc66531128281bbfa2455316a1dd740fc9ac90f801c8180ba"), looks := true }, kinds := [], alts := [], laidByText := true, laidKinds := [.data, .pinned], laidTests := true, laidLooks := .later }
def MoveLevelsCardSaid : Prop := Claim7.holds Tryd.pinned (.plain (OpenSpec.ofChange moveLevelsSpec)) moveLevelsCard

/-- THE SECOND FORM's CARD OF 'imprimaturlaw07.LevelOrder'. -/
def levelOrderUptoCard : Claim7 := { stood := { row := levelOrderUptoRow, standIns := [], harness := (true, "890a7d268eede76fc66531128281bbfa2455316a1dd740fc9ac90f801c8180ba"), looks := true }, kinds := [], alts := [], laidByText := true, laidKinds := [.data, .data, .data], laidTests := true, laidLooks := .later }
def LevelOrderUptoCardSaid : Prop := Claim7.holds Tryd.pinned (.plain (OpenSpec.upto levelOrderSpec)) levelOrderUptoCard

/-- THE SECOND FORM's CARD OF 'imprimaturlaw07.LevelMax'. -/
def levelMaxUptoCard : Claim7 := { stood := { row := levelMaxUptoRow, standIns := [], harness := (true, "890a7d268eede76fc66531128281bbfa2455316a1dd740fc9ac90f801c8180ba"), looks := true }, kinds := [], alts := [], laidByText := true, laidKinds := [.data, .data, .data], laidTests := true, laidLooks := .later }
def LevelMaxUptoCardSaid : Prop := Claim7.holds Tryd.pinned (.plain (OpenSpec.upto levelMaxSpec)) levelMaxUptoCard

/-- THE SECOND FORM's CARD OF 'imprimaturlaw07.LevelInsts'. -/
def levelInstsUptoCard : Claim7 := { stood := { row := levelInstsUptoRow, standIns := [], harness := (true, "890a7d268eede76fc66531128281bbfa2455316a1dd740fc9ac90f801c8180ba"), looks := true }, kinds := [], alts := [], laidByText := true, laidKinds := [.data, .data, .data], laidTests := true, laidLooks := .later }
def LevelInstsUptoCardSaid : Prop := Claim7.holds Tryd.pinned (.plain (OpenSpec.upto levelInstsSpec)) levelInstsUptoCard

/-- THE SECOND FORM's CARD OF 'imprimaturlaw07.LevelTexts'. -/
def levelTextsUptoCard : Claim7 := { stood := { row := levelTextsUptoRow, standIns := [], harness := (true, "890a7d268eede76fc66531128281bbfa2455316a1dd740fc9ac90f801c8180ba"), looks := true }, kinds := [], alts := [], laidByText := true, laidKinds := [.data, .data, .data], laidTests := true, laidLooks := .later }
def LevelTextsUptoCardSaid : Prop := Claim7.holds Tryd.pinned (.plain (OpenSpec.upto levelTextsSpec)) levelTextsUptoCard

/-- THE SECOND FORM's CARD OF 'imprimaturlaw10.CodeCuts'. -/
def codeCutsUptoCard : Claim7 := { stood := { row := codeCutsUptoRow, standIns := [], harness := (true, "890a7d268eede76fc66531128281bbfa2455316a1dd740fc9ac90f801c8180ba"), looks := true }, kinds := [], alts := [], laidByText := true, laidKinds := [.data, .pinned], laidTests := true, laidLooks := .later }
def CodeCutsUptoCardSaid : Prop := Claim7.holds Tryd.pinned (.plain (OpenSpec.upto codeCutsSpec)) codeCutsUptoCard

/-- THE SECOND FORM's CARD OF 'imprimaturlaw10.CodeBack'. -/
def codeBackUptoCard : Claim7 := { stood := { row := codeBackUptoRow, standIns := [], harness := (true, "890a7d268eede76fc66531128281bbfa2455316a1dd740fc9ac90f801c8180ba"), looks := true }, kinds := [], alts := [], laidByText := true, laidKinds := [.data, .pinned], laidTests := true, laidLooks := .later }
def CodeBackUptoCardSaid : Prop := Claim7.holds Tryd.pinned (.plain (OpenSpec.upto codeBackSpec)) codeBackUptoCard

/-- THE SECOND FORM's CARD OF 'imprimaturlaw09.MoveBack'. -/
def moveBackUptoCard : Claim7 := { stood := { row := moveBackUptoRow, standIns := [], harness := (true, "890a7d268eede76fc66531128281bbfa2455316a1dd740fc9ac90f801c8180ba"), looks := true }, kinds := [], alts := [], laidByText := true, laidKinds := [.data, .pinned], laidTests := true, laidLooks := .later }
def MoveBackUptoCardSaid : Prop := Claim7.holds Tryd.pinned (.plain (OpenSpec.upto moveBackSpec)) moveBackUptoCard

/-- THE SECOND FORM's CARD OF 'imprimaturlaw09.MoveSteps'. -/
def moveStepsUptoCard : Claim7 := { stood := { row := moveStepsUptoRow, standIns := [], harness := (true, "890a7d268eede76fc66531128281bbfa2455316a1dd740fc9ac90f801c8180ba"), looks := true }, kinds := [], alts := [], laidByText := true, laidKinds := [.data, .pinned], laidTests := true, laidLooks := .later }
def MoveStepsUptoCardSaid : Prop := Claim7.holds Tryd.pinned (.plain (OpenSpec.upto moveStepsSpec)) moveStepsUptoCard

/-- THE SECOND FORM's CARD OF 'imprimaturlaw09.MoveNames'. -/
def moveNamesUptoCard : Claim7 := { stood := { row := moveNamesUptoRow, standIns := [], harness := (true, "890a7d268eede76fc66531128281bbfa2455316a1dd740fc9ac90f801c8180ba"), looks := true }, kinds := [], alts := [], laidByText := true, laidKinds := [.data, .pinned], laidTests := true, laidLooks := .later }
def MoveNamesUptoCardSaid : Prop := Claim7.holds Tryd.pinned (.plain (OpenSpec.upto moveNamesSpec)) moveNamesUptoCard

/-- THE SECOND FORM's CARD OF 'imprimaturlaw09.MoveLevels'. -/
def moveLevelsUptoCard : Claim7 := { stood := { row := moveLevelsUptoRow, standIns := [], harness := (true, "890a7d268eede76fc66531128281bbfa2455316a1dd740fc9ac90f801c8180ba"), looks := true }, kinds := [], alts := [], laidByText := true, laidKinds := [.data, .pinned], laidTests := true, laidLooks := .later }
def MoveLevelsUptoCardSaid : Prop := Claim7.holds Tryd.pinned (.plain (OpenSpec.upto moveLevelsSpec)) moveLevelsUptoCard
end Rows
end Go.Proofs.YtmkpiekbpakigaaDoor
