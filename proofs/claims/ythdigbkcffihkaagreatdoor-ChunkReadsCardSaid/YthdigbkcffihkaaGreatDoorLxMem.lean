/- The reader's two cells; what becomes of memory where they alone are written. No program. -/
import Derived.WalkKit
import Derived.Deep.Draws
import Derived.Deep.AppendLies
import Derived.Maps.AppendAt
import Derived.Lib.Hide
set_option linter.unusedVariables false
namespace Go.Proofs.YthdigbkcffihkaaGreatDoor
open Go.RowKit
namespace Lx
/-- Block b is a reader: a text and a place. -/
def Rd (T b : Nat) (s : ByteArray) (at_ : Nat) (w : World) : Prop := w.heap[b]? = some (.cells #[.string s, .int .i64 (at_ : Int)] T (0, 0))
section
variable {T b : Nat} {s : ByteArray} {at_ : Nat} {w w' : World}
theorem Rd.c0 (h : Rd T b s at_ w) : w.cell? ⟨b, 0, none⟩ = some (.string s) := by
  have := cell_of_row w b 0 _ T (0, 0) h; simpa using this
theorem Rd.c1 (h : Rd T b s at_ w) : w.cell? ⟨b, 1, none⟩ = some (.int .i64 (at_ : Int)) := by
  have := cell_of_row w b 1 _ T (0, 0) h; simpa using this
theorem Rd.fz (h : Rd T b s at_ w) (i : Nat) : w.frozen? ⟨b, i, none⟩ = false := by unfold Rd at h; simp [World.frozen?, h]
theorem Rd.lt (h : Rd T b s at_ w) : b < w.heap.size := by
  rcases Nat.lt_or_ge b w.heap.size with hlt | hge
  · exact hlt
  · unfold Rd at h; rw [Array.getElem?_eq_none hge] at h; cases h
theorem Rd.drewN (h : Rd T b s at_ w) (n : Nat) : Rd T b s at_ (w.drewN n) := h
theorem Rd.set_ (h : Rd T b s at_ w) (k : Nat) : Rd T b s k (w.setCell ⟨b, 1, none⟩ (.int .i64 (k : Int))) := by
  unfold Rd at h ⊢
  simp [World.setCell, Array.getElem?_modify, h]
theorem Rd.below {B : Nat} (h : Rd T b s at_ w) (hb : Below B w w') (hB : b < B) : Rd T b s at_ w' := (hb.block b hB).trans h
theorem Rd.alloc (h : Rd T b s at_ w) (o : Obj) : Rd T b s at_ (w.alloc o) := (Below.heap_alloc w o b h.lt).trans h
theorem Rd.far (h : Rd T b s at_ w) {p : Addr} (hp : b ≠ p.block) (u : Value) : Rd T b s at_ (w.setCell p u) := (Below.heap_setCell w p u b hp).trans h
end
/-- New blocks, draws, and what block b holds: nothing else has turned. -/
structure Mv (b : Nat) (w w' : World) : Prop where
  os : w'.os = w.os
  tape : w'.tape = w.tape
  output : w'.output = w.output
  size : w.heap.size ≤ w'.heap.size
  block : ∀ k, k < w.heap.size → k ≠ b → w'.heap[k]? = w.heap[k]?
section
variable {b : Nat} {w w' w'' : World}
theorem Mv.refl (b : Nat) (w : World) : Mv b w w := ⟨rfl, rfl, rfl, Nat.le_refl _, fun _ _ _ => rfl⟩
theorem Mv.trans (h : Mv b w w') (k : Mv b w' w'') : Mv b w w'' :=
  ⟨k.os.trans h.os, k.tape.trans h.tape, k.output.trans h.output, Nat.le_trans h.size k.size, fun j hj hne => (k.block j (Nat.lt_of_lt_of_le hj h.size) hne).trans (h.block j hj hne)⟩
theorem Mv.drewN (h : Mv b w w') (n : Nat) : Mv b w (w'.drewN n) := ⟨h.os, h.tape, h.output, h.size, h.block⟩
theorem Mv.drew (h : Mv b w w') : Mv b w w'.drew := ⟨h.os, h.tape, h.output, h.size, h.block⟩
theorem Mv.set_ (h : Mv b w w') (i : Nat) (u : Value) : Mv b w (w'.setCell ⟨b, i, none⟩ u) :=
  ⟨h.os, h.tape, h.output, by simpa [World.setCell] using h.size, fun j hj hne => (Below.heap_setCell w' ⟨b, i, none⟩ u j hne).trans (h.block j hj hne)⟩
theorem Mv.alloc (h : Mv b w w') (o : Obj) : Mv b w (w'.alloc o) :=
  ⟨h.os, h.tape, h.output, by have := h.size; simp; omega, fun j hj hne => (Below.heap_alloc w' o j (Nat.lt_of_lt_of_le hj h.size)).trans (h.block j hj hne)⟩
theorem Mv.new (h : Mv b w w') {p : Addr} (hp : w.heap.size ≤ p.block) (u : Value) : Mv b w (w'.setCell p u) :=
  ⟨h.os, h.tape, h.output, by simpa [World.setCell] using h.size, fun j hj hne => (Below.heap_setCell w' p u j (by omega)).trans (h.block j hj hne)⟩
theorem Mv.below (h : Below w.heap.size w w') : Mv b w w' := ⟨h.os, h.tape, h.output, h.size, fun j hj _ => h.block j hj⟩
/-- Where the block is one that the call made: nothing that was there has turned. -/
theorem Mv.new_below {B : Nat} (h : Mv b w w') (hb : B ≤ b) (hB : B ≤ w.heap.size) : Below B w w' := ⟨h.os, h.tape, h.output, h.size, fun j hj => h.block j (by omega) (by omega)⟩
end
/-- The place that a reader's block holds. -/
def atIn (b : Nat) (w : World) : Nat := match w.cell? ⟨b, 1, none⟩ with | some (.int _ n) => n.toNat | _ => 0
theorem Rd.at_ {T b at_ : Nat} {s : ByteArray} {w : World} (h : Rd T b s at_ w) : atIn b w = at_ := by unfold atIn; rw [h.c1]; simp
end Lx
end Go.Proofs.YthdigbkcffihkaaGreatDoor
