/- Package chunk, the walk, 5: shapes. -/
import Derived.Test.YthdigbkcffihkaaGreatDoorCkX
set_option linter.unusedVariables false
namespace Go.Proofs.YthdigbkcffihkaaGreatDoor
open Go.RowKit
namespace Ck
open Lx
variable {w : World}
theorem two_blocks {W : World} {n : Nat} (X Y : Array Value) (hn : W.heap.size = n) :
    Blk TT n X ((W.alloc (.cells X TT)).alloc (.cells Y TT)).drew ∧ Blk TT (n + 1) Y ((W.alloc (.cells X TT)).alloc (.cells Y TT)).drew ∧ (∀ k cs, Blk TT k cs W → Blk TT k cs ((W.alloc (.cells X TT)).alloc (.cells Y TT)).drew) ∧
      (∀ (w : World) B, Below B w W → B ≤ W.heap.size → Below B w ((W.alloc (.cells X TT)).alloc (.cells Y TT)).drew) := by
  subst hn
  refine ⟨(Blk.made W).alloc _, ?_, fun k cs h => (h.alloc _).alloc _, fun w B h hB => ((h.alloc hB _).alloc (by simp; omega) _).drew⟩
  have := Blk.made (T := TT) (cs := Y) (W.alloc (.cells X TT))
  rw [show (W.alloc (Obj.cells X TT)).heap.size = W.heap.size + 1 by simp] at this
  exact this
set_option maxRecDepth 100000 in
set_option maxHeartbeats 3200000 in
theorem shapes_any : Calls Tryz.prog 37 #[] w (fun e w' => Below w.heap.size w w' ∧ ∃ a b c, e = .returned (.tuple #[a, b, c]) ∧ ShAt a shClass w' ∧ ShAt b shHeader w' ∧ ShAt c shMetas w') := by
  go_enter Tryz.func37, Tryz.ntmps37
  go_wp2_with fail
  obtain ⟨W0, hW0⟩ : ∃ W0, w.alloc (Obj.cells #[.int .i64 0, .string ⟨#[]⟩, .int .i64 0, .int .i64 0] TT) = W0 := ⟨_, rfl⟩
  have hb0 : Below w.heap.size w W0 := by rw [← hW0]; exact (Below.refl _ _).alloc (Nat.le_refl _) _
  have ht0 : Tk TT w.heap.size 0 ⟨#[]⟩ 0 0 W0 := by rw [← hW0]; exact Tk.made w
  have hs0 : W0.heap.size = w.heap.size + 1 := by rw [← hW0]; simp
  rw [hW0]
  obtain ⟨W1, hW1⟩ : ∃ W1, W0.alloc (Obj.cells #[.int .i64 1, .string ⟨#[]⟩, .int .i64 0, .int .i64 0] TT) = W1 := ⟨_, rfl⟩
  have hb1 : Below w.heap.size w W1 := by rw [← hW1]; exact hb0.alloc hb0.size _
  have ht1 : Tk TT (w.heap.size + 1) 1 ⟨#[]⟩ 0 0 W1 := by rw [← hW1, ← hs0]; exact Tk.made W0
  have ht0 : Tk TT w.heap.size 0 ⟨#[]⟩ 0 0 W1 := by rw [← hW1]; exact ht0.alloc _
  have hs1 : W1.heap.size = w.heap.size + 1 + 1 := by rw [← hW1]; simp [hs0]
  rw [hW1]
  obtain ⟨W2, hW2⟩ : ∃ W2, W1.alloc (Obj.cells #[.int .i64 1, .string ⟨#[109, 101, 116, 104, 111, 100, 115]⟩, .int .i64 0, .int .i64 0] TT) = W2 := ⟨_, rfl⟩
  have hb2 : Below w.heap.size w W2 := by rw [← hW2]; exact hb1.alloc hb1.size _
  have ht2 : Tk TT (w.heap.size + 1 + 1) 1 ⟨#[109, 101, 116, 104, 111, 100, 115]⟩ 0 0 W2 := by rw [← hW2, ← hs1]; exact Tk.made W1
  have ht0 : Tk TT w.heap.size 0 ⟨#[]⟩ 0 0 W2 := by rw [← hW2]; exact ht0.alloc _
  have ht1 : Tk TT (w.heap.size + 1) 1 ⟨#[]⟩ 0 0 W2 := by rw [← hW2]; exact ht1.alloc _
  have hs2 : W2.heap.size = w.heap.size + 1 + 1 + 1 := by rw [← hW2]; simp [hs1]
  rw [hW2]
  obtain ⟨W3, hW3⟩ : ∃ W3, W2.alloc (Obj.cells (flat (shClass.map tk)).toArray TT) = W3 := ⟨_, rfl⟩
  have hb3 : Below w.heap.size w W3 := by rw [← hW3]; exact hb2.alloc hb2.size _
  have ht3 : Blk TT (w.heap.size + 1 + 1 + 1) (flat (shClass.map tk)).toArray W3 := by rw [← hW3, ← hs2]; exact Blk.made W2
  have ht0 : Tk TT w.heap.size 0 ⟨#[]⟩ 0 0 W3 := by rw [← hW3]; exact ht0.alloc _
  have ht1 : Tk TT (w.heap.size + 1) 1 ⟨#[]⟩ 0 0 W3 := by rw [← hW3]; exact ht1.alloc _
  have ht2 : Tk TT (w.heap.size + 1 + 1) 1 ⟨#[109, 101, 116, 104, 111, 100, 115]⟩ 0 0 W3 := by rw [← hW3]; exact ht2.alloc _
  have hs3 : W3.heap.size = w.heap.size + 1 + 1 + 1 + 1 := by rw [← hW3]; simp [hs2]
  rw [show (flat (shClass.map tk)).toArray = #[.int .i64 1, .string ⟨#[]⟩, .int .i64 0, .int .i64 0, .int .i64 2, .string ⟨#[115, 117, 98, 99, 108, 97, 115, 115, 58]⟩, .int .i64 0, .int .i64 0, .int .i64 5, .string ⟨#[]⟩, .int .i64 0, .int .i64 0, .int .i64 2, .string ⟨#[102, 105, 101, 108, 100, 115, 58]⟩, .int .i64 0, .int .i64 0, .int .i64 4, .string ⟨#[]⟩, .int .i64 0, .int .i64 0, .int .i64 0, .string ⟨#[]⟩, .int .i64 0, .int .i64 0] from rfl] at hW3
  rw [hW3]
  have e0 := ht0.c0
  have e1 := ht0.c1
  have e2 := ht0.c2
  have e3 := ht0.c3
  have f0 := ht1.c0
  have f1 := ht1.c1
  have f2 := ht1.c2
  have f3 := ht1.c3
  have g0 := ht2.c0
  have g1 := ht2.c1
  have g2 := ht2.c2
  have g3 := ht2.c3
  clear hW0 hW1 hW2 hW3 hb0 hb1 hb2 hs0 hs1 hs2
  go_region
  · go_wp2_with fail
    go_ret3
    obtain ⟨k1, k2, k3, k4⟩ := two_blocks (flat (shHeader.map tk)).toArray (flat (shMetas.map tk)).toArray hs3
    exact ⟨k4 _ _ hb3 hb3.size, _, _, _, rfl, ShAt.mk (sh := shClass) (k3 _ _ ht3) rfl, ShAt.mk (sh := shHeader) k1 rfl, ShAt.mk (sh := shMetas) k2 rfl⟩
  · go_wp2_with fail
    go_ret3
    obtain ⟨k1, k2, k3, k4⟩ := two_blocks (flat (shMetas.map tk)).toArray (flat (shHeader.map tk)).toArray hs3
    exact ⟨k4 _ _ hb3 hb3.size, _, _, _, rfl, ShAt.mk (sh := shClass) (k3 _ _ ht3) rfl, ShAt.mk (sh := shHeader) k2 rfl, ShAt.mk (sh := shMetas) k1 rfl⟩
end Ck
end Go.Proofs.YthdigbkcffihkaaGreatDoor
