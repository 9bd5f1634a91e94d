/-
  DERIVED. GIVEN WITH THE SEED: THE CARDS: each row of YthpggdlhoegndaaDoorRows.lean that lists a variable, with what it lists TIED to the program's text (the seventh form; the later family's looks); each row that meets fmt, with fmt's text TOLD by the authors' own Lean function (tested against real Go, not proved from fmt's source: count such statements apart). THE CARD IS WHAT COUNTS. Prove the row's statement (the work); the ties are given (YthpggdlhoegndaaDoorTie.lean); close each card by the builder's one call (the guide's Derived/Test/ToyasCard.lean, 'card_holds'). Laid BY PROGRAM, IN A SANDBOX (cutbox-door.mjs). By AI agents, Wed Nov 11 2026. No macro, syntax, notation, axiom, sorry.
-/
import Derived.Test.YthpggdlhoegndaaDoorRows
import GoSem.ClaimSeven
namespace Go.Proofs.YthpggdlhoegndaaDoor
namespace Rows

/-- THE TIED CARD OF 'entrepotlaw23.PvalidNumbers'. -/
def pvalidNumbersCard : Claim7 := { stood := { row := pvalidNumbersRow, standIns := [], harness := (true, "dc0b94506c25b6b471ef1cf4ca85befb8e402f1010a28bd1f7550c36f6df1140"), looks := true }, kinds := [], alts := [], laidByText := true, laidKinds := [.data, .data, .pinned], laidTests := true, laidLooks := .later }
def PvalidNumbersCardSaid : Prop := Claim7.holds Tryd.pinned (.plain (OpenSpec.ofChange pvalidNumbersSpec)) pvalidNumbersCard

/-- THE TIED CARD OF 'entrepotlaw23.PvalidZeros'. -/
def pvalidZerosCard : Claim7 := { stood := { row := pvalidZerosRow, standIns := [], harness := (true, "dc0b94506c25b6b471ef1cf4ca85befb8e402f1010a28bd1f7550c36f6df1140"), looks := true }, kinds := [], alts := [], laidByText := true, laidKinds := [.data, .data, .pinned], laidTests := true, laidLooks := .later }
def PvalidZerosCardSaid : Prop := Claim7.holds Tryd.pinned (.plain (OpenSpec.ofChange pvalidZerosSpec)) pvalidZerosCard

/-- THE TIED CARD OF 'entrepotlaw22.PreadChecks'. -/
def preadChecksCard : Claim7 := { stood := { row := preadChecksRow, standIns := [], harness := (true, "dc0b94506c25b6b471ef1cf4ca85befb8e402f1010a28bd1f7550c36f6df1140"), looks := true }, kinds := [], alts := [], laidByText := true, laidKinds := [.data, .data, .data, .sentinel, .sentinel], laidTests := true, laidLooks := .later }
def PreadChecksCardSaid : Prop := Claim7.holds Tryd.pinned (.plain (OpenSpec.ofChange preadChecksSpec)) preadChecksCard

/-- THE TIED CARD OF 'entrepotlaw22.PreadNumbers'. -/
def preadNumbersCard : Claim7 := { stood := { row := preadNumbersRow, standIns := [], harness := (true, "dc0b94506c25b6b471ef1cf4ca85befb8e402f1010a28bd1f7550c36f6df1140"), looks := true }, kinds := [], alts := [], laidByText := true, laidKinds := [.data, .data, .data, .sentinel, .sentinel], laidTests := true, laidLooks := .later }
def PreadNumbersCardSaid : Prop := Claim7.holds Tryd.pinned (.plain (OpenSpec.ofChange preadNumbersSpec)) preadNumbersCard

/-- THE TIED CARD OF 'entrepotlaw22.PreadWrong'. -/
def preadWrongCard : Claim7 := { stood := { row := preadWrongRow, standIns := [], harness := (true, "dc0b94506c25b6b471ef1cf4ca85befb8e402f1010a28bd1f7550c36f6df1140"), looks := true }, kinds := [], alts := [], laidByText := true, laidKinds := [.data, .data, .data, .sentinel, .sentinel], laidTests := true, laidLooks := .later }
def PreadWrongCardSaid : Prop := Claim7.holds Tryd.pinned (.plain (OpenSpec.ofChange preadWrongSpec)) preadWrongCard

/-- THE TIED CARD OF 'entrepotlaw22.PreadPrints'. -/
def preadPrintsCard : Claim7 := { stood := { row := preadPrintsRow, standIns := [], harness := (true, "dc0b94506c25b6b471ef1cf4ca85befb8e402f1010a28bd1f7550c36f6df1140"), looks := true }, kinds := [], alts := [], laidByText := true, laidKinds := [.data, .data, .data, .sentinel, .sentinel], laidTests := true, laidLooks := .later }
def PreadPrintsCardSaid : Prop := Claim7.holds Tryd.pinned (.plain (OpenSpec.ofChange preadPrintsSpec)) preadPrintsCard

/-- THE SECOND FORM's CARD OF 'entrepotlaw23.PvalidNumbers'. -/
def pvalidNumbersUptoCard : Claim7 := { stood := { row := pvalidNumbersUptoRow, standIns := [], harness := (true, "dc0b94506c25b6b471ef1cf4ca85befb8e402f1010a28bd1f7550c36f6df1140"), looks := true }, kinds := [], alts := [], laidByText := true, laidKinds := [.data, .data, .pinned], laidTests := true, laidLooks := .later }
def PvalidNumbersUptoCardSaid : Prop := Claim7.holds Tryd.pinned (.plain (OpenSpec.upto pvalidNumbersSpec)) pvalidNumbersUptoCard

/-- THE SECOND FORM's CARD OF 'entrepotlaw23.PvalidZeros'. -/
def pvalidZerosUptoCard : Claim7 := { stood := { row := pvalidZerosUptoRow, standIns := [], harness := (true, "dc0b94506c25b6b471ef1cf4ca85befb8e402f1010a28bd1f7550c36f6df1140"), looks := true }, kinds := [], alts := [], laidByText := true, laidKinds := [.data, .data, .pinned], laidTests := true, laidLooks := .later }
def PvalidZerosUptoCardSaid : Prop := Claim7.holds Tryd.pinned (.plain (OpenSpec.upto pvalidZerosSpec)) pvalidZerosUptoCard

/-- THE SECOND FORM's CARD OF 'entrepotlaw22.PreadChecks'. -/
def preadChecksUptoCard : Claim7 := { stood := { row := preadChecksUptoRow, standIns := [], harness := (true, "dc0b94506c25b6b471ef1cf4ca85befb8e402f1010a28bd1f7550c36f6df1140"), looks := true }, kinds := [], alts := [], laidByText := true, laidKinds := [.data, .data, .data, .sentinel, .sentinel], laidTests := true, laidLooks := .later }
def PreadChecksUptoCardSaid : Prop := Claim7.holds Tryd.pinned (.plain (OpenSpec.upto preadChecksSpec)) preadChecksUptoCard

/-- THE SECOND FORM's CARD OF 'entrepotlaw22.PreadNumbers'. -/
def preadNumbersUptoCard : Claim7 := { stood := { row := preadNumbersUptoRow, standIns := [], harness := (true, "dc0b94506c25b6b471ef1cf4ca85befb8e402f1010a28bd1f7550c36f6df1140"), looks := true }, kinds := [], alts := [], laidByText := true, laidKinds := [.data, .data, .data, .sentinel, .sentinel], laidTests := true, laidLooks := .later }
def PreadNumbersUptoCardSaid : Prop := Claim7.holds Tryd.pinned (.plain (OpenSpec.upto preadNumbersSpec)) preadNumbersUptoCard

/-- THE SECOND FORM's CARD OF 'entrepotlaw22.PreadWrong'. -/
def preadWrongUptoCard : Claim7 := { stood := { row := preadWrongUptoRow, standIns := [], harness := (true, "dc0b94506c25b6b471ef1cf4ca85befb8e402f1010a28bd1f7550c36f6df1140"), looks := true }, kinds := [], alts := [], laidByText := true, laidKinds := [.data, .data, .data, .sentinel, .sentinel], laidTests := true, laidLooks := .later }
def PreadWrongUptoCardSaid : Prop := Claim7.holds Tryd.pinned (.plain (OpenSpec.upto preadWrongSpec)) preadWrongUptoCard

/-- THE SECOND FORM's CARD OF 'entrepotlaw22.PreadPrints'. -/
def preadPrintsUptoCard : Claim7 := { stood := { row := preadPrintsUptoRow, standIns := [], harness := (true, "dc0b94506c25b6b471ef1cf4ca85befb8e402f1010a28bd1f7550c36f6df1140"), looks := true }, kinds := [], alts := [], laidByText := true, laidKinds := [.data, .data, .data, .sentinel, .sentinel], laidTests := true, laidLooks := .later }
def PreadPrintsUptoCardSaid : Prop := Claim7.holds Tryd.pinned (.plain (OpenSpec.upto preadPrintsSpec)) preadPrintsUptoCard
end Rows
end Go.Proofs.YthpggdlhoegndaaDoor
