/- Chapter 08, plain: the nine rules, as the reference checks them, on a list of objects. No program. · Chapter 08, plain: the memory of a town is sound, by the reference's nine rules. No program. · Chapter 08, plain: the tower of a town, and with it: the memory of a town is sound. No program. · Chapter 17, plain: a word of a town's memory, read as a literal: the program's way and the reference's. No program. -/
import Derived.Test.YtojblndlchcjeaaHpAa
set_option linter.unusedVariables false
namespace Go.Proofs.Ytojblndlchcjeaa
open Go.RowKit
namespace Hp
/-- Memory, and its root's words. -/
structure Look where
  l : List Ob
  root : List Nat
def rt (L : Look) (i : Nat) : Nat := L.root.getD i 0
end Hp
end Go.Proofs.Ytojblndlchcjeaa
namespace Go.Proofs.Ytojblndlchcjeaa
open Go.RowKit
namespace Hp
section
variable {n : Nat} {sup flds : List Int}
end
end Hp
end Go.Proofs.Ytojblndlchcjeaa
namespace Go.Proofs.Ytojblndlchcjeaa
open Go.RowKit
namespace Hp
section
variable {n : Nat} {sup flds : List Int}
end
end Hp
end Go.Proofs.Ytojblndlchcjeaa
namespace Go.Proofs.Ytojblndlchcjeaa
open Go.RowKit
namespace Hp
section
variable {n : Nat} {sup flds : List Int}
theorem find_sym (hn : n ≤ 6) {i : Nat} (hi : i < NN n) : findO (layL n sup flds) (2 * symAt n i) = some (symO (symAt n i) ((namesL n).getD i [])) := by
  rw [Nat.mul_comm]; exact find_mem (chain_lay n hn sup flds) (mem_sym hi)
theorem find_some {l : List Ob} {w : Nat} {o : Ob} (h : findO l w = some o) : o ∈ l ∧ w = 2 * o.at_ := by
  unfold findO at h
  have h2 := List.find?_some h
  exact ⟨List.mem_of_find?_eq_some h, by have : o.at_ * 2 = w := by simpa using h2
                                         omega⟩
end
end Hp
end Go.Proofs.Ytojblndlchcjeaa
