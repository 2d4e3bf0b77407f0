/- A token's block: four cells; what keeps it. No program. -/
import Derived.Test.YthdigbkcffihkaaGreatDoorLxMem
import Derived.Deep.Heap
set_option linter.unusedVariables false
namespace Go.Proofs.YthdigbkcffihkaaGreatDoor
open Go.RowKit
namespace Lx
/-- Block k is a token. -/
def Tk (T k : Nat) (kd : Int) (wd : ByteArray) (n a : Int) (w : World) : Prop := w.heap[k]? = some (.cells #[.int .i64 kd, .string wd, .int .i64 n, .int .i64 a] T (0, 0))
section
variable {T k : Nat} {kd n a : Int} {wd : ByteArray} {w w' : World}
theorem Tk.c0 (h : Tk T k kd wd n a w) : w.cell? ⟨k, 0, none⟩ = some (.int .i64 kd) := by have := cell_of_row w k 0 _ T (0, 0) h; simpa using this
theorem Tk.c1 (h : Tk T k kd wd n a w) : w.cell? ⟨k, 1, none⟩ = some (.string wd) := by have := cell_of_row w k 1 _ T (0, 0) h; simpa using this
theorem Tk.c2 (h : Tk T k kd wd n a w) : w.cell? ⟨k, 2, none⟩ = some (.int .i64 n) := by have := cell_of_row w k 2 _ T (0, 0) h; simpa using this
theorem Tk.c3 (h : Tk T k kd wd n a w) : w.cell? ⟨k, 3, none⟩ = some (.int .i64 a) := by have := cell_of_row w k 3 _ T (0, 0) h; simpa using this
theorem Tk.fz (h : Tk T k kd wd n a w) (i : Nat) : w.frozen? ⟨k, i, none⟩ = false := by unfold Tk at h; simp [World.frozen?, h]
theorem Tk.lt (h : Tk T k kd wd n a w) : k < w.heap.size := by
  rcases Nat.lt_or_ge k w.heap.size with hlt | hge
  · exact hlt
  · unfold Tk at h; rw [Array.getElem?_eq_none hge] at h; cases h
theorem Tk.drewN (h : Tk T k kd wd n a w) (m : Nat) : Tk T k kd wd n a (w.drewN m) := h
theorem Tk.mv {b : Nat} (h : Tk T k kd wd n a w) (hm : Mv b w w') (hb : k ≠ b) : Tk T k kd wd n a w' := (hm.block k h.lt hb).trans h
theorem Tk.set1 (h : Tk T k kd wd n a w) (x : ByteArray) : Tk T k kd x n a (w.setCell ⟨k, 1, none⟩ (.string x)) := by
  unfold Tk at h ⊢
  simp [World.setCell, Array.getElem?_modify, h]
theorem Tk.far (h : Tk T k kd wd n a w) {p : Addr} (hp : k ≠ p.block) (u : Value) : Tk T k kd wd n a (w.setCell p u) := (Below.heap_setCell w p u k hp).trans h
theorem Tk.alloc (h : Tk T k kd wd n a w) (o : Obj) : Tk T k kd wd n a (w.alloc o) := (Below.heap_alloc w o k h.lt).trans h
theorem Tk.made (w : World) : Tk T w.heap.size kd wd n a (w.alloc (.cells #[.int .i64 kd, .string wd, .int .i64 n, .int .i64 a] T)) := Go.Deep.blk_alloc_new w _
end
end Lx
end Go.Proofs.YthdigbkcffihkaaGreatDoor
