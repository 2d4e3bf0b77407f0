/-
  DERIVED. GIVEN WITH THE SEED: THE CARDS: each row of YthdigbkcffihkaaGreatDoorRows.lean that lists a variable, with what it lists TIED to the program's text (the seventh form; the later family's looks); each row that meets fmt, with fmt's text TOLD by the authors' own Lean function (tested against real Go, not proved from fmt's source: count such statements apart). THE CARD IS WHAT COUNTS. Prove the row's statement (the work); the ties are given (YthdigbkcffihkaaGreatDoorTie.lean); close each card by the builder's one call (the guide's Derived/Test/ToyasCard.lean, 'card_holds'). Laid BY PROGRAM, IN A SANDBOX (cutbox-door.mjs). By AI agents, Wed Nov 11 2026. No macro, syntax, notation, axiom, sorry.
-/
import Derived.Test.YthdigbkcffihkaaGreatDoorRows
import GoSem.ClaimSeven
namespace Go.Proofs.YthdigbkcffihkaaGreatDoor
namespace Rows

/-- THE TIED CARD OF 'foundlinglaw12.ChunkReads'. -/
def chunkReadsCard : Claim7 := { stood := { row := chunkReadsRow, standIns := [], harness := (true, "49887bd76ccea11b5dce9741df22452725e835e62281cbe8c6cac617a6a25d02"), looks := true }, kinds := [], alts := [], laidByText := true, laidKinds := [.data, .data, .data, .data, .sentinel, .sentinel, .pinned], laidTests := true, laidLooks := .later }
def ChunkReadsCardSaid : Prop := Claim7.holds Tryz.pinned (.plain (OpenSpec.ofChange chunkReadsSpec)) chunkReadsCard

/-- THE TIED CARD OF 'foundlinglaw12.ChunkJoins'. -/
def chunkJoinsCard : Claim7 := { stood := { row := chunkJoinsRow, standIns := [], harness := (true, "49887bd76ccea11b5dce9741df22452725e835e62281cbe8c6cac617a6a25d02"), looks := true }, kinds := [], alts := [], laidByText := true, laidKinds := [.data, .data, .data, .data, .sentinel, .sentinel, .pinned], laidTests := true, laidLooks := .later }
def ChunkJoinsCardSaid : Prop := Claim7.holds Tryz.pinned (.plain (OpenSpec.ofChange chunkJoinsSpec)) chunkJoinsCard

/-- THE TIED CARD OF 'foundlinglaw12.ChunkPlaces'. -/
def chunkPlacesCard : Claim7 := { stood := { row := chunkPlacesRow, standIns := [], harness := (true, "49887bd76ccea11b5dce9741df22452725e835e62281cbe8c6cac617a6a25d02"), looks := true }, kinds := [], alts := [], laidByText := true, laidKinds := [.data, .data, .data, .data, .sentinel, .sentinel, .pinned], laidTests := true, laidLooks := .later }
def ChunkPlacesCardSaid : Prop := Claim7.holds Tryz.pinned (.plain (OpenSpec.ofChange chunkPlacesSpec)) chunkPlacesCard

/-- THE TIED CARD OF 'foundlinglaw12.ChunkBack'. -/
def chunkBackCard : Claim7 := { stood := { row := chunkBackRow, standIns := [], harness := (true, "49887bd76ccea11b5dce9741df22452725e835e62281cbe8c6cac617a6a25d02"), looks := true }, kinds := [], alts := [], laidByText := true, laidKinds := [.data, .data, .data, .data, .sentinel, .sentinel, .pinned], laidTests := true, laidLooks := .later }
def ChunkBackCardSaid : Prop := Claim7.holds Tryz.pinned (.plain (OpenSpec.ofChange chunkBackSpec)) chunkBackCard

/-- THE SECOND FORM's CARD OF 'foundlinglaw12.ChunkReads'. -/
def chunkReadsUptoCard : Claim7 := { stood := { row := chunkReadsUptoRow, standIns := [], harness := (true, "49887bd76ccea11b5dce9741df22452725e835e62281cbe8c6cac617a6a25d02"), looks := true }, kinds := [], alts := [], laidByText := true, laidKinds := [.data, .data, .data, .data, .sentinel, .sentinel, .pinned], laidTests := true, laidLooks := .later }
def ChunkReadsUptoCardSaid : Prop := Claim7.holds Tryz.pinned (.plain (OpenSpec.upto chunkReadsSpec)) chunkReadsUptoCard

/-- THE SECOND FORM's CARD OF 'foundlinglaw12.ChunkJoins'. -/
def chunkJoinsUptoCard : Claim7 := { stood := { row := chunkJoinsUptoRow, standIns := [], harness := (true, "49887bd76ccea11b5dce9741df22452725e835e62281cbe8c6cac617a6a25d02"), looks := true }, kinds := [], alts := [], laidByText := true, laidKinds := [.data, .data, .data, .data, .sentinel, .sentinel, .pinned], laidTests := true, laidLooks := .later }
def ChunkJoinsUptoCardSaid : Prop := Claim7.holds Tryz.pinned (.plain (OpenSpec.upto chunkJoinsSpec)) chunkJoinsUptoCard

/-- THE SECOND FORM's CARD OF 'foundlinglaw12.ChunkPlaces'. -/
def chunkPlacesUptoCard : Claim7 := { stood := { row := chunkPlacesUptoRow, standIns := [], harness := (true, "49887bd76ccea11b5dce9741df22452725e835e62281cbe8c6cac617a6a25d02"), looks := true }, kinds := [], alts := [], laidByText := true, laidKinds := [.data, .data, .data, .data, .sentinel, .sentinel, .pinned], laidTests := true, laidLooks := .later }
def ChunkPlacesUptoCardSaid : Prop := Claim7.holds Tryz.pinned (.plain (OpenSpec.upto chunkPlacesSpec)) chunkPlacesUptoCard

/-- THE SECOND FORM's CARD OF 'foundlinglaw12.ChunkBack'. -/
def chunkBackUptoCard : Claim7 := { stood := { row := chunkBackUptoRow, standIns := [], harness := (true, "49887bd76ccea11b5dce9741df22452725e835e62281cbe8c6cac617a6a25d02"), looks := true }, kinds := [], alts := [], laidByText := true, laidKinds := [.data, .data, .data, .data, .sentinel, .sentinel, .pinned], laidTests := true, laidLooks := .later }
def ChunkBackUptoCardSaid : Prop := Claim7.holds Tryz.pinned (.plain (OpenSpec.upto chunkBackSpec)) chunkBackUptoCard
end Rows
end Go.Proofs.YthdigbkcffihkaaGreatDoor
