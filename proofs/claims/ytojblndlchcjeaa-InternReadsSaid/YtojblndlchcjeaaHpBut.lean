/- What a function may turn: some blocks alone. No program in sight. -/
import Derived.Test.YtojblndlchcjeaaHpRow
set_option linter.unusedVariables false
namespace Go.Proofs.Ytojblndlchcjeaa
open Go.RowKit
namespace Hp
open Bs Sm
structure But (X : Nat → Prop) (w w' : World) : Prop where
  os : w'.os = w.os
  tape : w'.tape = w.tape
  output : w'.output = w.output
  size : w.heap.size ≤ w'.heap.size
  block : ∀ b, b < w.heap.size → ¬ X b → w'.heap[b]? = w.heap[b]?
section
variable {X Y : Nat → Prop} {w w' w'' : World}
theorem But.refl (X : Nat → Prop) (w : World) : But X w w := ⟨rfl, rfl, rfl, Nat.le_refl _, fun _ _ _ => rfl⟩
theorem But.trans (h : But X w w') (k : But X w' w'') : But X w w'' :=
  ⟨k.os.trans h.os, k.tape.trans h.tape, k.output.trans h.output, Nat.le_trans h.size k.size, fun b hb hx => (k.block b (Nat.lt_of_lt_of_le hb h.size) hx).trans (h.block b hb hx)⟩
theorem But.of (h : Below w.heap.size w w') : But X w w' := ⟨h.os, h.tape, h.output, h.size, fun b hb _ => h.block b hb⟩
theorem But.mono (h : But X w w') (hs : ∀ b, b < w.heap.size → X b → Y b) : But Y w w' := ⟨h.os, h.tape, h.output, h.size, fun b hb hx => h.block b hb (fun k => hx (hs b hb k))⟩
theorem But.bel {B : Nat} (h : But X w w') (hX : ∀ b, X b → B ≤ b) (hB : B ≤ w.heap.size) : Below B w w' :=
  ⟨h.os, h.tape, h.output, h.size, fun b hb => h.block b (by omega) (fun hx => by have := hX b hx; omega)⟩
theorem But.set_ (h : But X w w') {k : Nat} (hk : X k) (i : Nat) (u : Value) : But X w (w'.setCell ⟨k, i, none⟩ u) :=
  h.trans ⟨rfl, rfl, rfl, by simp [World.setCell], fun j _ hb => Below.heap_setCell w' ⟨k, i, none⟩ u j (fun e => hb (by have : j = k := e; rw [this]; exact hk))⟩
theorem But.blk {T k : Nat} {cs : Array Value} (h : But X w w') (hk : Blk T k cs w) (hx : ¬ X k) : Blk T k cs w' := (h.block k hk.lt hx).trans hk
theorem But.alloc (h : But X w w') (o : Obj) : But X w (w'.alloc o) := h.trans (But.of (alloc_bel w' o))
theorem But.then_bel (h : But X w w') (hb : Below w'.heap.size w' w'') : But X w w'' := h.trans (But.of hb)
end
end Hp
end Go.Proofs.Ytojblndlchcjeaa
