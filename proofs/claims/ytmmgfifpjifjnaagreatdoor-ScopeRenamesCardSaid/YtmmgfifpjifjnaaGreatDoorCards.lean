/-
  DERIVED. GIVEN WITH THE SEED: THE CARDS: each row of YtmmgfifpjifjnaaGreatDoorRows.lean that lists a variable, with what it lists TIED to the program's text (the seventh form; the later family's looks); each row that meets fmt, with fmt's text TOLD by the authors' own Lean function (tested against real Go, not proved from fmt's source: count such statements apart). THE CARD IS WHAT COUNTS. Prove the row's statement (the work); the ties are given (YtmmgfifpjifjnaaGreatDoorTie.lean); close each card by the builder's one call (the guide's Derived/Test/ToyasCard.lean, 'card_holds'). Laid BY PROGRAM, IN A SANDBOX (cutbox-door.mjs). By AI agents, Wed Nov 11 2026. No macro, syntax, notation, axiom, sorry.
-/
import Derived.Test.YtmmgfifpjifjnaaGreatDoorRows
import GoSem.ClaimSeven
namespace Go.Proofs.YtmmgfifpjifjnaaGreatDoor
namespace Rows

/-- THE TIED CARD OF 'foundlinglaw13.ScopeResolves'. -/
def scopeResolvesCard : Claim7 := { stood := { row := scopeResolvesRow, standIns := [], harness := (true, "9b5f9c6bb52b7260df0f3dd6c9faac7308b9329c3aa6733be24c8343f8c40dda"), looks := true }, kinds := [], alts := [], laidByText := true, laidKinds := [.data, .data, .data, .data, .sentinel, .sentinel, .pinned], laidTests := true, laidLooks := .later }
def ScopeResolvesCardSaid : Prop := Claim7.holds Tryz.pinned (.plain (OpenSpec.ofChange scopeResolvesSpec)) scopeResolvesCard

/-- THE TIED CARD OF 'foundlinglaw13.ScopeRenames'. -/
def scopeRenamesCard : Claim7 := { stood := { row := scopeRenamesRow, standIns := [], harness := (true, "9b5f9c6bb52b7260df0f3dd6c9faac7308b9329c3aa6733be24c8343f8c40dda"), looks := true }, kinds := [], alts := [], laidByText := true, laidKinds := [.data, .data, .data, .data, .sentinel, .sentinel, .pinned], laidTests := true, laidLooks := .later }
def ScopeRenamesCardSaid : Prop := Claim7.holds Tryz.pinned (.plain (OpenSpec.ofChange scopeRenamesSpec)) scopeRenamesCard

/-- THE TIED CARD OF 'foundlinglaw13.ScopeSlots'. -/
def scopeSlotsCard : Claim7 := { stood := { row := scopeSlotsRow, standIns := [], harness := (true, "9b5f9c6bb52b7260df0f3dd6c9faac7308b9329c3aa6733be24c8343f8c40dda"), looks := true }, kinds := [], alts := [], laidByText := true, laidKinds := [.data, .data, .data, .data, .sentinel, .sentinel, .pinned], laidTests := true, laidLooks := .later }
def ScopeSlotsCardSaid : Prop := Claim7.holds Tryz.pinned (.plain (OpenSpec.ofChange scopeSlotsSpec)) scopeSlotsCard

/-- THE SECOND FORM's CARD OF 'foundlinglaw13.ScopeResolves'. -/
def scopeResolvesUptoCard : Claim7 := { stood := { row := scopeResolvesUptoRow, standIns := [], harness := (true, "9b5f9c6bb52b7260df0f3dd6c9faac7308b9329c3aa6733be24c8343f8c40dda"), looks := true }, kinds := [], alts := [], laidByText := true, laidKinds := [.data, .data, .data, .data, .sentinel, .sentinel, .pinned], laidTests := true, laidLooks := .later }
def ScopeResolvesUptoCardSaid : Prop := Claim7.holds Tryz.pinned (.plain (OpenSpec.upto scopeResolvesSpec)) scopeResolvesUptoCard

/-- THE SECOND FORM's CARD OF 'foundlinglaw13.ScopeRenames'. -/
def scopeRenamesUptoCard : Claim7 := { stood := { row := scopeRenamesUptoRow, standIns := [], harness := (true, "9b5f9c6bb52b7260df0f3dd6c9faac7308b9329c3aa6733be24c8343f8c40dda"), looks := true }, kinds := [], alts := [], laidByText := true, laidKinds := [.data, .data, .data, .data, .sentinel, .sentinel, .pinned], laidTests := true, laidLooks := .later }
def ScopeRenamesUptoCardSaid : Prop := Claim7.holds Tryz.pinned (.plain (OpenSpec.upto scopeRenamesSpec)) scopeRenamesUptoCard

/-- THE SECOND FORM's CARD OF 'foundlinglaw13.ScopeSlots'. -/
def scopeSlotsUptoCard : Claim7 := { stood := { row := scopeSlotsUptoRow, standIns := [], harness := (true, "9b5f9c6bb52b7260df0f3dd6c9faac7308b9329c3aa6733be24c8343f8c40dda"), looks := true }, kinds := [], alts := [], laidByText := true, laidKinds := [.data, .data, .data, .data, .sentinel, .sentinel, .pinned], laidTests := true, laidLooks := .later }
def ScopeSlotsUptoCardSaid : Prop := Claim7.holds Tryz.pinned (.plain (OpenSpec.upto scopeSlotsSpec)) scopeSlotsUptoCard
end Rows
end Go.Proofs.YtmmgfifpjifjnaaGreatDoor
