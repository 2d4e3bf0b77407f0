/- Package lex, the walk, next: what its walks lean on (wip/gen/gen_next.py prints this). -/
import Derived.Test.YthdigbkcffihkaaGreatDoorLxW13
set_option linter.unusedVariables false
namespace Go.Proofs.YthdigbkcffihkaaGreatDoor
open Go.RowKit
namespace Lx
/-- A reader; an empty token in the first new block; a token in a later one. -/
structure Sn (b : Nat) (s : ByteArray) (z k : Nat) (kd a : Int) (x : ByteArray) (n : Int) (w W : World) : Prop where
  rd : Rd RT b s z W
  mv : Mv b w W
  t0 : Tk TT w.heap.size 0 ⟨#[]⟩ 0 0 W
  t1 : Tk TT k kd x n a W
  lt : w.heap.size < k
section
variable {b z z' k : Nat} {s x : ByteArray} {kd a n : Int} {w W W' : World}
theorem Sn.call (h : Sn b s z k kd a x n w W) (hb : b < w.heap.size) (hr : Rd RT b s z' W') (hm : Mv b W W') : Sn b s z' k kd a x n w W' :=
  ⟨hr, h.mv.trans hm, h.t0.mv hm (by omega), h.t1.mv hm (by have := h.lt; omega), h.lt⟩
theorem Sn.drewN (h : Sn b s z k kd a x n w W) (m : Nat) : Sn b s z k kd a x n w (W.drewN m) := ⟨h.rd.drewN m, h.mv.drewN m, h.t0.drewN m, h.t1.drewN m, h.lt⟩
theorem Sn.drew (h : Sn b s z k kd a x n w W) : Sn b s z k kd a x n w W.drew := ⟨h.rd, h.mv.drew, h.t0, h.t1, h.lt⟩
theorem Sn.set0 (h : Sn b s z k kd a x n w W) (hb : b < w.heap.size) (y : Int) : Sn b s z k y a x n w (W.setCell ⟨k, 0, none⟩ (.int .i64 y)) :=
  ⟨h.rd.far (show b ≠ k by have := h.lt; omega) _, h.mv.new (show w.heap.size ≤ k by have := h.lt; omega) _, h.t0.far (show w.heap.size ≠ k by have := h.lt; omega) _, h.t1.set0 y, h.lt⟩
theorem Sn.set1 (h : Sn b s z k kd a x n w W) (hb : b < w.heap.size) (y : ByteArray) : Sn b s z k kd a y n w (W.setCell ⟨k, 1, none⟩ (.string y)) :=
  ⟨h.rd.far (show b ≠ k by have := h.lt; omega) _, h.mv.new (show w.heap.size ≤ k by have := h.lt; omega) _, h.t0.far (show w.heap.size ≠ k by have := h.lt; omega) _, h.t1.set1 y, h.lt⟩
theorem Sn.set2 (h : Sn b s z k kd a x n w W) (hb : b < w.heap.size) (y : Int) : Sn b s z k kd a x y w (W.setCell ⟨k, 2, none⟩ (.int .i64 y)) :=
  ⟨h.rd.far (show b ≠ k by have := h.lt; omega) _, h.mv.new (show w.heap.size ≤ k by have := h.lt; omega) _, h.t0.far (show w.heap.size ≠ k by have := h.lt; omega) _, h.t1.set2 y, h.lt⟩
theorem Sn.move (h : Sn b s z k kd a x n w W) (hb : b < w.heap.size) (y : Nat) : Sn b s y k kd a x n w (W.setCell ⟨b, 1, none⟩ (.int .i64 (y : Int))) :=
  ⟨h.rd.set_ y, h.mv.set_ 1 _, h.t0.far (show w.heap.size ≠ b by omega) _, h.t1.far (show k ≠ b by have := h.lt; omega) _, h.lt⟩
end
set_option maxRecDepth 100000 in
theorem sgl_idx (c : UInt8) : (∀ i, sgl c = some i → Lib.indexByte singleL c = (i : Int) ∧ i ≤ 6) ∧ (sgl c = none → Lib.indexByte singleL c = -1) := by
  have h : ∀ n : Fin 256, (match sgl (UInt8.ofNat n.val) with | some i => decide (Lib.indexByte singleL (UInt8.ofNat n.val) = (i : Int)) && decide (i ≤ 6) | none => decide (Lib.indexByte singleL (UInt8.ofNat n.val) = -1)) = true := by decide
  have := h ⟨c.toNat, c.toNat_lt⟩
  simp only [UInt8.ofNat_toNat] at this
  refine ⟨fun i hi => ?_, fun hi => ?_⟩
  · rw [hi] at this; simpa using this
  · rw [hi] at this; simpa using this
theorem u8_back (c : UInt8) : ((c.toNat : Int)).toNat.toUInt8 = c := by
  rw [Int.toNat_natCast]; exact UInt8.ofNat_toNat
variable {b at_ k p : Nat} {s : ByteArray} {w : World}
set_option maxRecDepth 100000 in
set_option maxHeartbeats 1600000 in
theorem next_note (hs : s.size ≤ 140737488351232) (hat : at_ ≤ s.size) (hrd : Rd RT b s at_ w) (hk : sk none 0 (s.data.toList.drop at_) = .error k) :
    Calls Tryz.prog 80 #[.pointer (some ⟨b, 0, none⟩)] w (Fell b ((at_ + k : Nat) : Int) 4 w) := by
  go_enter Tryz.func80, Tryz.ntmps80
  go_wp2_with fail
  refine (skip_any hs hat (hrd.alloc _)).mono ?_; intro e w1 hsk
  rw [hk] at hsk
  obtain ⟨rfl, hm1⟩ := hsk
  go_wp2
  exact ⟨rfl, rfl, ((Mv.refl b w).alloc _).trans hm1⟩
end Lx
end Go.Proofs.YthdigbkcffihkaaGreatDoor
