/-
  DERIVED. GIVEN WITH THE SEED: THE CARDS: each row of YtpfaldcfnhjlgaaGreatDoorRows.lean that lists a variable, with what it lists TIED to the program's text (the seventh form; the later family's looks); each row that meets fmt, with fmt's text TOLD by the authors' own Lean function (tested against real Go, not proved from fmt's source: count such statements apart). THE CARD IS WHAT COUNTS. Prove the row's statement (the work); the ties are given (YtpfaldcfnhjlgaaGreatDoorTie.lean); close each card by the builder's one call (the guide's Derived/Test/ToyasCard.lean, 'card_holds'). Laid BY PROGRAM, IN A SANDBOX (cutbox-door.mjs). By AI agents, Wed Nov 11 2026. No macro, syntax, notation, axiom, sorry.
-/
import Derived.Test.YtpfaldcfnhjlgaaGreatDoorRows
import GoSem.ClaimSeven
namespace Go.Proofs.YtpfaldcfnhjlgaaGreatDoor
namespace Rows

/-- THE TIED CARD OF 'foundlinglaw09.LexSpells'. -/
def lexSpellsCard : Claim7 := { stood := { row := lexSpellsRow, standIns := [], harness := (true, "7f43122626b34cac998b525bfff70389e4f6c1f7e325755bcdd45e2dd140ebd3"), looks := true }, kinds := [], alts := [], laidByText := true, laidKinds := [.data, .data, .data, .data, .sentinel, .sentinel, .pinned], laidTests := true, laidLooks := .later }
def LexSpellsCardSaid : Prop := Claim7.holds Tryz.pinned (.plain (OpenSpec.ofChange lexSpellsSpec)) lexSpellsCard

/-- THE TIED CARD OF 'foundlinglaw09.LexNotes'. -/
def lexNotesCard : Claim7 := { stood := { row := lexNotesRow, standIns := [], harness := (true, "7f43122626b34cac998b525bfff70389e4f6c1f7e325755bcdd45e2dd140ebd3"), looks := true }, kinds := [], alts := [], laidByText := true, laidKinds := [.data, .data, .data, .data, .sentinel, .sentinel, .pinned], laidTests := true, laidLooks := .later }
def LexNotesCardSaid : Prop := Claim7.holds Tryz.pinned (.plain (OpenSpec.ofChange lexNotesSpec)) lexNotesCard

/-- THE TIED CARD OF 'foundlinglaw09.LexPlaces'. -/
def lexPlacesCard : Claim7 := { stood := { row := lexPlacesRow, standIns := [], harness := (true, "7f43122626b34cac998b525bfff70389e4f6c1f7e325755bcdd45e2dd140ebd3"), looks := true }, kinds := [], alts := [], laidByText := true, laidKinds := [.data, .data, .data, .data, .sentinel, .sentinel, .pinned], laidTests := true, laidLooks := .later }
def LexPlacesCardSaid : Prop := Claim7.holds Tryz.pinned (.plain (OpenSpec.ofChange lexPlacesSpec)) lexPlacesCard

/-- THE SECOND FORM's CARD OF 'foundlinglaw09.LexSpells'. -/
def lexSpellsUptoCard : Claim7 := { stood := { row := lexSpellsUptoRow, standIns := [], harness := (true, "7f43122626b34cac998b525bfff70389e4f6c1f7e325755bcdd45e2dd140ebd3"), looks := true }, kinds := [], alts := [], laidByText := true, laidKinds := [.data, .data, .data, .data, .sentinel, .sentinel, .pinned], laidTests := true, laidLooks := .later }
def LexSpellsUptoCardSaid : Prop := Claim7.holds Tryz.pinned (.plain (OpenSpec.upto lexSpellsSpec)) lexSpellsUptoCard

/-- THE SECOND FORM's CARD OF 'foundlinglaw09.LexNotes'. -/
def lexNotesUptoCard : Claim7 := { stood := { row := lexNotesUptoRow, standIns := [], harness := (true, "7f43122626b34cac998b525bfff70389e4f6c1f7e325755bcdd45e2dd140ebd3"), looks := true }, kinds := [], alts := [], laidByText := true, laidKinds := [.data, .data, .data, .data, .sentinel, .sentinel, .pinned], laidTests := true, laidLooks := .later }
def LexNotesUptoCardSaid : Prop := Claim7.holds Tryz.pinned (.plain (OpenSpec.upto lexNotesSpec)) lexNotesUptoCard

/-- THE SECOND FORM's CARD OF 'foundlinglaw09.LexPlaces'. -/
def lexPlacesUptoCard : Claim7 := { stood := { row := lexPlacesUptoRow, standIns := [], harness := (true, "7f43122626b34cac998b525bfff70389e4f6c1f7e325755bcdd45e2dd140ebd3"), looks := true }, kinds := [], alts := [], laidByText := true, laidKinds := [.data, .data, .data, .data, .sentinel, .sentinel, .pinned], laidTests := true, laidLooks := .later }
def LexPlacesUptoCardSaid : Prop := Claim7.holds Tryz.pinned (.plain (OpenSpec.upto lexPlacesSpec)) lexPlacesUptoCard
end Rows
end Go.Proofs.YtpfaldcfnhjlgaaGreatDoor
