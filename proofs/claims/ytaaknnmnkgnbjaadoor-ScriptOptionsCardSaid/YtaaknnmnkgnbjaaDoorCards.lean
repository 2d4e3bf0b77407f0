/-
  DERIVED. GIVEN WITH THE SEED: THE CARDS: each row of YtaaknnmnkgnbjaaDoorRows.lean that lists a variable, with what it lists TIED to the program's text (the seventh form; the later family's looks); each row that meets fmt, with fmt's text TOLD by the authors' own Lean function (tested against real Go, not proved from fmt's source: count such statements apart). THE CARD IS WHAT COUNTS. Prove the row's statement (the work); the ties are given (YtaaknnmnkgnbjaaDoorTie.lean); close each card by the builder's one call (the guide's Derived/Test/ToyasCard.lean, 'card_holds'). Laid BY PROGRAM, IN A SANDBOX (cutbox-door.mjs). By AI agents, Wed Nov 11 2026. No macro, syntax, notation, axiom, sorry.
-/
import Derived.Test.YtaaknnmnkgnbjaaDoorRows
import GoSem.ClaimSeven
namespace Go.Proofs.YtaaknnmnkgnbjaaDoor
namespace Rows

/-- THE TIED CARD OF 'foundlinglaw26.ScriptOptions'. -/
def scriptOptionsCard : Claim7 := { stood := { row := scriptOptionsRow, standIns := [], harness := (true, "9aeaf750021d62797857e9a75fdb310c5cad6ca7004642d07e83ab43ea49bc4b"), looks := true }, kinds := [], alts := [], laidByText := true, laidKinds := [.data, .data, .data, .data, .sentinel, .sentinel, .pinned], laidTests := true, laidLooks := .later }
def ScriptOptionsCardSaid : Prop := Claim7.holds Tryd.pinned (.plain (OpenSpec.ofChange scriptOptionsSpec)) scriptOptionsCard

/-- THE TIED CARD OF 'foundlinglaw26.ScriptJoins'. -/
def scriptJoinsCard : Claim7 := { stood := { row := scriptJoinsRow, standIns := [], harness := (true, "9aeaf750021d62797857e9a75fdb310c5cad6ca7004642d07e83ab43ea49bc4b"), looks := true }, kinds := [], alts := [], laidByText := true, laidKinds := [.data, .data, .data, .data, .sentinel, .sentinel, .pinned], laidTests := true, laidLooks := .later }
def ScriptJoinsCardSaid : Prop := Claim7.holds Tryd.pinned (.plain (OpenSpec.ofChange scriptJoinsSpec)) scriptJoinsCard

/-- THE SECOND FORM's CARD OF 'foundlinglaw26.ScriptOptions'. -/
def scriptOptionsUptoCard : Claim7 := { stood := { row := scriptOptionsUptoRow, standIns := [], harness := (true, "9aeaf750021d62797857e9a75fdb310c5cad6ca7004642d07e83ab43ea49bc4b"), looks := true }, kinds := [], alts := [], laidByText := true, laidKinds := [.data, .data, .data, .data, .sentinel, .sentinel, .pinned], laidTests := true, laidLooks := .later }
def ScriptOptionsUptoCardSaid : Prop := Claim7.holds Tryd.pinned (.plain (OpenSpec.upto scriptOptionsSpec)) scriptOptionsUptoCard

/-- THE SECOND FORM's CARD OF 'foundlinglaw26.ScriptJoins'. -/
def scriptJoinsUptoCard : Claim7 := { stood := { row := scriptJoinsUptoRow, standIns := [], harness := (true, "9aeaf750021d62797857e9a75fdb310c5cad6ca7004642d07e83ab43ea49bc4b"), looks := true }, kinds := [], alts := [], laidByText := true, laidKinds := [.data, .data, .data, .data, .sentinel, .sentinel, .pinned], laidTests := true, laidLooks := .later }
def ScriptJoinsUptoCardSaid : Prop := Claim7.holds Tryd.pinned (.plain (OpenSpec.upto scriptJoinsSpec)) scriptJoinsUptoCard
end Rows
end Go.Proofs.YtaaknnmnkgnbjaaDoor
