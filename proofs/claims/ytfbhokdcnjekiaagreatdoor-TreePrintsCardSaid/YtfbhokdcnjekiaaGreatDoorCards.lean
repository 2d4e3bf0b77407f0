/-
  DERIVED. GIVEN WITH THE SEED: THE CARDS: each row of YtfbhokdcnjekiaaGreatDoorRows.lean that lists a variable, with what it lists TIED to the program's text (the seventh form; the later family's looks); each row that meets fmt, with fmt's text TOLD by the authors' own Lean function (tested against real Go, not proved from fmt's source: count such statements apart). THE CARD IS WHAT COUNTS. Prove the row's statement (the work); the ties are given (YtfbhokdcnjekiaaGreatDoorTie.lean); close each card by the builder's one call (the guide's Derived/Test/ToyasCard.lean, 'card_holds'). Laid BY PROGRAM, IN A SANDBOX (cutbox-door.mjs). By AI agents, Wed Nov 11 2026. No macro, syntax, notation, axiom, sorry.
-/
import Derived.Test.YtfbhokdcnjekiaaGreatDoorRows
import GoSem.ClaimSeven
namespace Go.Proofs.YtfbhokdcnjekiaaGreatDoor
namespace Rows

/-- THE TIED CARD OF 'foundlinglaw10.TreeChecks'. -/
def treeChecksCard : Claim7 := { stood := { row := treeChecksRow, standIns := [], harness := (true, "5ee3a3a5becf928e3dd7c632d1bf47414f3df13d468cc39388c582320027b35d"), looks := true }, kinds := [], alts := [], laidByText := true, laidKinds := [.data, .data, .data, .data, .sentinel, .sentinel, .pinned], laidTests := true, laidLooks := .later }
def TreeChecksCardSaid : Prop := Claim7.holds Tryz.pinned (.plain (OpenSpec.ofChange treeChecksSpec)) treeChecksCard

/-- THE TIED CARD OF 'foundlinglaw10.TreePrints'. -/
def treePrintsCard : Claim7 := { stood := { row := treePrintsRow, standIns := [], harness := (true, "5ee3a3a5becf928e3dd7c632d1bf47414f3df13d468cc39388c582320027b35d"), looks := true }, kinds := [], alts := [], laidByText := true, laidKinds := [.data, .data, .data, .data, .sentinel, .sentinel, .pinned], laidTests := true, laidLooks := .later }
def TreePrintsCardSaid : Prop := Claim7.holds Tryz.pinned (.plain (OpenSpec.ofChange treePrintsSpec)) treePrintsCard

/-- THE TIED CARD OF 'foundlinglaw10.TreeWraps'. -/
def treeWrapsCard : Claim7 := { stood := { row := treeWrapsRow, standIns := [], harness := (true, "5ee3a3a5becf928e3dd7c632d1bf47414f3df13d468cc39388c582320027b35d"), looks := true }, kinds := [], alts := [], laidByText := true, laidKinds := [.data, .data, .data, .data, .sentinel, .sentinel, .pinned], laidTests := true, laidLooks := .later }
def TreeWrapsCardSaid : Prop := Claim7.holds Tryz.pinned (.plain (OpenSpec.ofChange treeWrapsSpec)) treeWrapsCard

/-- THE TIED CARD OF 'foundlinglaw10.TreeSame'. -/
def treeSameCard : Claim7 := { stood := { row := treeSameRow, standIns := [], harness := (true, "5ee3a3a5becf928e3dd7c632d1bf47414f3df13d468cc39388c582320027b35d"), looks := true }, kinds := [], alts := [], laidByText := true, laidKinds := [.data, .data, .data, .data, .sentinel, .sentinel, .pinned], laidTests := true, laidLooks := .later }
def TreeSameCardSaid : Prop := Claim7.holds Tryz.pinned (.plain (OpenSpec.ofChange treeSameSpec)) treeSameCard

/-- THE SECOND FORM's CARD OF 'foundlinglaw10.TreeChecks'. -/
def treeChecksUptoCard : Claim7 := { stood := { row := treeChecksUptoRow, standIns := [], harness := (true, "5ee3a3a5becf928e3dd7c632d1bf47414f3df13d468cc39388c582320027b35d"), looks := true }, kinds := [], alts := [], laidByText := true, laidKinds := [.data, .data, .data, .data, .sentinel, .sentinel, .pinned], laidTests := true, laidLooks := .later }
def TreeChecksUptoCardSaid : Prop := Claim7.holds Tryz.pinned (.plain (OpenSpec.upto treeChecksSpec)) treeChecksUptoCard

/-- THE SECOND FORM's CARD OF 'foundlinglaw10.TreePrints'. -/
def treePrintsUptoCard : Claim7 := { stood := { row := treePrintsUptoRow, standIns := [], harness := (true, "5ee3a3a5becf928e3dd7c632d1bf47414f3df13d468cc39388c582320027b35d"), looks := true }, kinds := [], alts := [], laidByText := true, laidKinds := [.data, .data, .data, .data, .sentinel, .sentinel, .pinned], laidTests := true, laidLooks := .later }
def TreePrintsUptoCardSaid : Prop := Claim7.holds Tryz.pinned (.plain (OpenSpec.upto treePrintsSpec)) treePrintsUptoCard

/-- THE SECOND FORM's CARD OF 'foundlinglaw10.TreeWraps'. -/
def treeWrapsUptoCard : Claim7 := { stood := { row := treeWrapsUptoRow, standIns := [], harness := (true, "5ee3a3a5becf928e3dd7c632d1bf47414f3df13d468cc39388c582320027b35d"), looks := true }, kinds := [], alts := [], laidByText := true, laidKinds := [.data, .data, .data, .data, .sentinel, .sentinel, .pinned], laidTests := true, laidLooks := .later }
def TreeWrapsUptoCardSaid : Prop := Claim7.holds Tryz.pinned (.plain (OpenSpec.upto treeWrapsSpec)) treeWrapsUptoCard

/-- THE SECOND FORM's CARD OF 'foundlinglaw10.TreeSame'. -/
def treeSameUptoCard : Claim7 := { stood := { row := treeSameUptoRow, standIns := [], harness := (true, "5ee3a3a5becf928e3dd7c632d1bf47414f3df13d468cc39388c582320027b35d"), looks := true }, kinds := [], alts := [], laidByText := true, laidKinds := [.data, .data, .data, .data, .sentinel, .sentinel, .pinned], laidTests := true, laidLooks := .later }
def TreeSameUptoCardSaid : Prop := Claim7.holds Tryz.pinned (.plain (OpenSpec.upto treeSameSpec)) treeSameUptoCard
end Rows
end Go.Proofs.YtfbhokdcnjekiaaGreatDoor
