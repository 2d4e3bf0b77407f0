/-
  DERIVED. GIVEN WITH THE SEED: THE CARDS: each row of YtmmgpmdjpbalfaaDoorRows.lean that lists a variable, with what it lists TIED to the program's text (the seventh form; the later family's looks); each row that meets fmt, with fmt's text TOLD by the authors' own Lean function (tested against real Go, not proved from fmt's source: count such statements apart). THE CARD IS WHAT COUNTS. Prove the row's statement (the work); the ties are given (YtmmgpmdjpbalfaaDoorTie.lean); close each card by the builder's one call (the guide's Derived/Test/ToyasCard.lean, 'card_holds'). Laid BY PROGRAM, IN A SANDBOX (cutbox-door.mjs). By AI agents, Wed Nov 11 2026. No macro, syntax, notation, axiom, sorry.
-/
import Derived.Test.YtmmgpmdjpbalfaaDoorRows
import GoSem.ClaimSeven
namespace Go.Proofs.YtmmgpmdjpbalfaaDoor
namespace Rows

/-- THE TIED CARD OF 'foundlinglaw01.SmallWords'. -/
def smallWordsCard : Claim7 := { stood := { row := smallWordsRow, standIns := [], harness := (true, "2f1ca1c677ed99c48db353b782869a0dbe4f72d48dbe24f08942c36070d3678b"), looks := true }, kinds := [], alts := [], laidByText := true, laidKinds := [.data, .data, .data], laidTests := true, laidLooks := .later }
def SmallWordsCardSaid : Prop := Claim7.holds Tryd.pinned (.plain (OpenSpec.ofChange smallWordsSpec)) smallWordsCard

/-- THE TIED CARD OF 'foundlinglaw01.SmallOrders'. -/
def smallOrdersCard : Claim7 := { stood := { row := smallOrdersRow, standIns := [], harness := (true, "2f1ca1c677ed99c48db353b782869a0dbe4f72d48dbe24f08942c36070d3678b"), looks := true }, kinds := [], alts := [], laidByText := true, laidKinds := [.data, .data, .data], laidTests := true, laidLooks := .later }
def SmallOrdersCardSaid : Prop := Claim7.holds Tryd.pinned (.plain (OpenSpec.ofChange smallOrdersSpec)) smallOrdersCard

/-- THE TIED CARD OF 'foundlinglaw01.SmallBits'. -/
def smallBitsCard : Claim7 := { stood := { row := smallBitsRow, standIns := [], harness := (true, "2f1ca1c677ed99c48db353b782869a0dbe4f72d48dbe24f08942c36070d3678b"), looks := true }, kinds := [], alts := [], laidByText := true, laidKinds := [.data, .data, .data], laidTests := true, laidLooks := .later }
def SmallBitsCardSaid : Prop := Claim7.holds Tryd.pinned (.plain (OpenSpec.ofChange smallBitsSpec)) smallBitsCard

/-- THE TIED CARD OF 'foundlinglaw01.SmallParts'. -/
def smallPartsCard : Claim7 := { stood := { row := smallPartsRow, standIns := [], harness := (true, "2f1ca1c677ed99c48db353b782869a0dbe4f72d48dbe24f08942c36070d3678b"), looks := true }, kinds := [], alts := [], laidByText := true, laidKinds := [.data, .data, .data], laidTests := true, laidLooks := .later }
def SmallPartsCardSaid : Prop := Claim7.holds Tryd.pinned (.plain (OpenSpec.ofChange smallPartsSpec)) smallPartsCard

/-- THE TIED CARD OF 'foundlinglaw01.SmallShifts'. -/
def smallShiftsCard : Claim7 := { stood := { row := smallShiftsRow, standIns := [], harness := (true, "2f1ca1c677ed99c48db353b782869a0dbe4f72d48dbe24f08942c36070d3678b"), looks := true }, kinds := [], alts := [], laidByText := true, laidKinds := [.data, .data, .data], laidTests := true, laidLooks := .later }
def SmallShiftsCardSaid : Prop := Claim7.holds Tryd.pinned (.plain (OpenSpec.ofChange smallShiftsSpec)) smallShiftsCard

/-- THE TIED CARD OF 'foundlinglaw01.SmallReckons'. -/
def smallReckonsCard : Claim7 := { stood := { row := smallReckonsRow, standIns := [], harness := (true, "2f1ca1c677ed99c48db353b782869a0dbe4f72d48dbe24f08942c36070d3678b"), looks := true }, kinds := [], alts := [], laidByText := true, laidKinds := [.data, .data, .data], laidTests := true, laidLooks := .later }
def SmallReckonsCardSaid : Prop := Claim7.holds Tryd.pinned (.plain (OpenSpec.ofChange smallReckonsSpec)) smallReckonsCard

/-- THE TIED CARD OF 'foundlinglaw01.SmallTexts'. -/
def smallTextsCard : Claim7 := { stood := { row := smallTextsRow, standIns := [], harness := (true, "2f1ca1c677ed99c48db353b782869a0dbe4f72d48dbe24f08942c36070d3678b"), looks := true }, kinds := [], alts := [], laidByText := true, laidKinds := [.data, .data, .data, .data, .sentinel, .sentinel, .pinned], laidTests := true, laidLooks := .later }
def SmallTextsCardSaid : Prop := Claim7.holds Tryd.pinned (.plain (OpenSpec.ofChange smallTextsSpec)) smallTextsCard

/-- THE SECOND FORM's CARD OF 'foundlinglaw01.SmallWords'. -/
def smallWordsUptoCard : Claim7 := { stood := { row := smallWordsUptoRow, standIns := [], harness := (true, "2f1ca1c677ed99c48db353b782869a0dbe4f72d48dbe24f08942c36070d3678b"), looks := true }, kinds := [], alts := [], laidByText := true, laidKinds := [.data, .data, .data], laidTests := true, laidLooks := .later }
def SmallWordsUptoCardSaid : Prop := Claim7.holds Tryd.pinned (.plain (OpenSpec.upto smallWordsSpec)) smallWordsUptoCard

/-- THE SECOND FORM's CARD OF 'foundlinglaw01.SmallOrders'. -/
def smallOrdersUptoCard : Claim7 := { stood := { row := smallOrdersUptoRow, standIns := [], harness := (true, "2f1ca1c677ed99c48db353b782869a0dbe4f72d48dbe24f08942c36070d3678b"), looks := true }, kinds := [], alts := [], laidByText := true, laidKinds := [.data, .data, .data], laidTests := true, laidLooks := .later }
def SmallOrdersUptoCardSaid : Prop := Claim7.holds Tryd.pinned (.plain (OpenSpec.upto smallOrdersSpec)) smallOrdersUptoCard

/-- THE SECOND FORM's CARD OF 'foundlinglaw01.SmallBits'. -/
def smallBitsUptoCard : Claim7 := { stood := { row := smallBitsUptoRow, standIns := [], harness := (true, "2f1ca1c677ed99c48db353b782869a0dbe4f72d48dbe24f08942c36070d3678b"), looks := true }, kinds := [], alts := [], laidByText := true, laidKinds := [.data, .data, .data], laidTests := true, laidLooks := .later }
def SmallBitsUptoCardSaid : Prop := Claim7.holds Tryd.pinned (.plain (OpenSpec.upto smallBitsSpec)) smallBitsUptoCard

/-- THE SECOND FORM's CARD OF 'foundlinglaw01.SmallParts'. -/
def smallPartsUptoCard : Claim7 := { stood := { row := smallPartsUptoRow, standIns := [], harness := (true, "2f1ca1c677ed99c48db353b782869a0dbe4f72d48dbe24f08942c36070d3678b"), looks := true }, kinds := [], alts := [], laidByText := true, laidKinds := [.data, .data, .data], laidTests := true, laidLooks := .later }
def SmallPartsUptoCardSaid : Prop := Claim7.holds Tryd.pinned (.plain (OpenSpec.upto smallPartsSpec)) smallPartsUptoCard

/-- THE SECOND FORM's CARD OF 'foundlinglaw01.SmallShifts'. -/
def smallShiftsUptoCard : Claim7 := { stood := { row := smallShiftsUptoRow, standIns := [], harness := (true, "2f1ca1c677ed99c48db353b782869a0dbe4f72d48dbe24f08942c36070d3678b"), looks := true }, kinds := [], alts := [], laidByText := true, laidKinds := [.data, .data, .data], laidTests := true, laidLooks := .later }
def SmallShiftsUptoCardSaid : Prop := Claim7.holds Tryd.pinned (.plain (OpenSpec.upto smallShiftsSpec)) smallShiftsUptoCard

/-- THE SECOND FORM's CARD OF 'foundlinglaw01.SmallReckons'. -/
def smallReckonsUptoCard : Claim7 := { stood := { row := smallReckonsUptoRow, standIns := [], harness := (true, "2f1ca1c677ed99c48db353b782869a0dbe4f72d48dbe24f08942c36070d3678b"), looks := true }, kinds := [], alts := [], laidByText := true, laidKinds := [.data, .data, .data], laidTests := true, laidLooks := .later }
def SmallReckonsUptoCardSaid : Prop := Claim7.holds Tryd.pinned (.plain (OpenSpec.upto smallReckonsSpec)) smallReckonsUptoCard

/-- THE SECOND FORM's CARD OF 'foundlinglaw01.SmallTexts'. -/
def smallTextsUptoCard : Claim7 := { stood := { row := smallTextsUptoRow, standIns := [], harness := (true, "2f1ca1c677ed99c48db353b782869a0dbe4f72d48dbe24f08942c36070d3678b"), looks := true }, kinds := [], alts := [], laidByText := true, laidKinds := [.data, .data, .data, .data, .sentinel, .sentinel, .pinned], laidTests := true, laidLooks := .later }
def SmallTextsUptoCardSaid : Prop := Claim7.holds Tryd.pinned (.plain (OpenSpec.upto smallTextsSpec)) smallTextsUptoCard
end Rows
end Go.Proofs.YtmmgpmdjpbalfaaDoor
