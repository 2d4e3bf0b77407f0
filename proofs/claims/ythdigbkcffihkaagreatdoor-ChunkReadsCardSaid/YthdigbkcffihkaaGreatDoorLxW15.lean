/- Package lex, the walk, 15: caught; Next's deferred closure. -/
import Derived.Test.YthdigbkcffihkaaGreatDoorLxW13
import Derived.Defers
import Derived.Recover
import Derived.OneCell
import Derived.RegionTactic
set_option linter.unusedVariables false
namespace Go.Proofs.YthdigbkcffihkaaGreatDoor
open Go.RowKit
namespace Lx
abbrev IT : Nat := 3
abbrev ET : Nat := 27
abbrev FT : Nat := 147
/-- A block of one cell. -/
def One (T k : Nat) (v : Value) (w : World) : Prop := w.heap[k]? = some (.cells #[v] T (0, 0))
theorem One.c {T k : Nat} {v : Value} {w : World} (h : One T k v w) : w.cell? ⟨k, 0, none⟩ = some v := cell_of_one h
theorem One.fz {T k : Nat} {v : Value} {w : World} (h : One T k v w) : w.frozen? ⟨k, 0, none⟩ = false := free_of_one h
theorem caught_nil (p q : Addr) (w : World) :
    Calls Tryz.prog 79 #[.nilIface, .pointer (some p), .pointer (some q)] w (Done (.bool false) w) := by
  go_enter Tryz.func79, Tryz.ntmps79
  go_wp2
  go_ret
  exact ⟨rfl, rfl⟩
set_option maxRecDepth 100000 in
set_option maxHeartbeats 1600000 in
theorem caught_fault (k5 k6 : Nat) (a n a0 n0 : Int) (w : World) (h5 : One IT k5 (.int .i64 a0) w) (h6 : One ET k6 (.int .i64 n0) w) (hne : k5 ≠ k6) :
    Calls Tryz.prog 79 #[flt a n, .pointer (some ⟨k5, 0, none⟩), .pointer (some ⟨k6, 0, none⟩)] w
      (Done (.bool true) (((w.setCell ⟨k5, 0, none⟩ (.int .i64 a)).setCell ⟨k6, 0, none⟩ (.int .i64 n)).alloc (Obj.cells #[.int .i64 a, .int .i64 n] FT)).drew) := by
  have c5 := h5.c
  have f5 := h5.fz
  have c6 := h6.c
  have f6 := h6.fz
  have l5 := lt_of_block h5
  have l6 := lt_of_block h6
  have hne2 : ¬ k6 = k5 := fun e => hne e.symm
  have hta : ∀ v : World, (Instr.typeAssert (.iface FT (.agg #[.int .i64 a, .int .i64 n])) 20 FT true).run Tryz.prog v = .ok (.tuple #[.agg #[.int .i64 a, .int .i64 n], .bool true]) v := fun _ => by kernel_rfl
  have hn5 : ¬ k5 = w.heap.size := by omega
  have hn6 : ¬ k6 = w.heap.size := by omega
  have hm5 : ¬ w.heap.size = k5 := by omega
  have hm6 : ¬ w.heap.size = k6 := by omega
  unfold flt
  go_enter Tryz.func79, Tryz.ntmps79
  go_wp2
  go_region
  go_wp2
  go_ret
  exact ⟨rfl, rfl⟩
/-- A deferred closure that ends and leaves the frame below as u. -/
def Closed (u : FrameMode) (Q : World → Prop) (e : Ending) (u' : FrameMode) (w' : World) : Prop := e = .returned (.tuple #[]) ∧ u' = u ∧ Q w'
theorem catch_idle (k4 k5 k6 : Nat) (w : World) :
    CallsD Tryz.prog 78 #[.pointer (some ⟨k5, 0, none⟩), .pointer (some ⟨k6, 0, none⟩), .pointer (some ⟨k4, 0, none⟩)] .returning w (Closed .returning fun w' => w = w') := by
  refine callsD_of_wpS Tryz.func78 rfl fun c₀ cs hu => ?_
  apply wpS_seq
  apply wpS_region
  simp [wpOpsS, go_sem, recoverD, hu, Tryz.ntmps78, Exit.thenS]
  refine (caught_nil _ _ _).mono ?_; rintro e w' ⟨rfl, rfl⟩
  refine wpS_cond (t := false) (by simp [Act.eval, Array.replicate]) ?_
  simp only [Bool.false_eq_true, if_false]
  refine wpS_of_wp (wp_skip ?_)
  cases c₀
  simp_all [bodyPostS, results, Tryz.results78, Closed]
theorem Tk.set3 {T k : Nat} {kd n a : Int} {wd : ByteArray} {w : World} (h : Tk T k kd wd n a w) (x : Int) : Tk T k kd wd n x (w.setCell ⟨k, 3, none⟩ (.int .i64 x)) := by
  unfold Tk at h ⊢
  simp [World.setCell, Array.getElem?_modify, h]
theorem One.far {T k : Nat} {v : Value} {w : World} (h : One T k v w) {p : Addr} (hp : k ≠ p.block) (u : Value) : One T k v (w.setCell p u) := (Below.heap_setCell w p u k hp).trans h
theorem One.set_ {T k : Nat} {v : Value} {w : World} (h : One T k v w) (u : Value) : One T k u (w.setCell ⟨k, 0, none⟩ u) := one_setCell h
theorem One.alloc {T k : Nat} {v : Value} {w : World} (h : One T k v w) (o : Obj) : One T k v (w.alloc o) := (Below.heap_alloc w o k (lt_of_block h)).trans h
/-- What Next's results hold behind a fault. -/
def Fixed (k4 k5 k6 : Nat) (a n : Int) (w w' : World) : Prop := Tk TT k4 0 ⟨#[]⟩ 0 0 w' ∧ One IT k5 (.int .i64 a) w' ∧ One ET k6 (.int .i64 n) w' ∧ ∀ B, B ≤ k4 → B ≤ k5 → B ≤ k6 → B ≤ w.heap.size → Below B w w'
set_option maxRecDepth 100000 in
set_option maxHeartbeats 1600000 in
theorem catch_fault (k4 k5 k6 : Nat) (a n a0 n0 : Int) (w : World) (h4 : Tk TT k4 0 ⟨#[]⟩ 0 0 w) (h5 : One IT k5 (.int .i64 a0) w) (h6 : One ET k6 (.int .i64 n0) w) (hne : k5 ≠ k6) (h45 : k4 ≠ k5) (h46 : k4 ≠ k6) :
    CallsD Tryz.prog 78 #[.pointer (some ⟨k5, 0, none⟩), .pointer (some ⟨k6, 0, none⟩), .pointer (some ⟨k4, 0, none⟩)] (.panicking [{ v := flt a n, recovered := false }]) w
      (Closed (.panicking [{ v := flt a n, recovered := true }]) (Fixed k4 k5 k6 a n w)) := by
  refine callsD_of_wpS Tryz.func78 rfl fun c₀ cs hu => ?_
  apply wpS_seq
  apply wpS_region
  simp [wpOpsS, go_sem, recoverD, hu, Tryz.ntmps78, Exit.thenS]
  refine (caught_fault k5 k6 a n a0 n0 w h5 h6 hne).mono ?_; rintro e w' ⟨rfl, hw⟩
  have g4 : Tk TT k4 0 ⟨#[]⟩ 0 0 w' := by rw [← hw]; exact ((h4.far (p := ⟨k5, 0, none⟩) h45 _).far (p := ⟨k6, 0, none⟩) h46 _).alloc _
  have g5 : One IT k5 (.int .i64 a) w' := by rw [← hw]; exact ((h5.set_ _).far (p := ⟨k6, 0, none⟩) hne _).alloc _
  have g6 : One ET k6 (.int .i64 n) w' := by rw [← hw]; exact ((h6.far (p := ⟨k5, 0, none⟩) (Ne.symm hne) _).set_ _).alloc _
  have gb : ∀ B, B ≤ k4 → B ≤ k5 → B ≤ k6 → B ≤ w.heap.size → Below B w w' := fun B b4 b5 b6 bs => by
    rw [← hw]
    exact ((((Below.refl B w).setCell (p := ⟨k5, 0, none⟩) b5 _).setCell (p := ⟨k6, 0, none⟩) b6 _).alloc (by simpa using bs) _).drew
  clear hw
  refine wpS_cond (t := true) (by simp [Act.eval, Array.replicate]) ?_
  simp only [if_true]
  have e0 := g4.c0
  have e1 := g4.c1
  have e2 := g4.c2
  have e3 := g4.c3
  have ef := g4.fz
  apply wpS_region
  simp [wpOpsS, go_sem, e0, e1, e2, e3, ef, bodyPostS, results, Tryz.results78]
  refine ⟨rfl, rfl, (((g4.set0 0).set1 ⟨#[]⟩).set2 0).set3 0, (((g5.far (Ne.symm h45) _).far (Ne.symm h45) _).far (Ne.symm h45) _).far (Ne.symm h45) _, (((g6.far (Ne.symm h46) _).far (Ne.symm h46) _).far (Ne.symm h46) _).far (Ne.symm h46) _, fun B b4 b5 b6 bs => ?_⟩
  exact ((((gb B b4 b5 b6 bs).setCell (p := ⟨k4, 0, none⟩) b4 _).setCell (p := ⟨k4, 1, none⟩) b4 _).setCell (p := ⟨k4, 2, none⟩) b4 _).setCell (p := ⟨k4, 3, none⟩) b4 _
end Lx
end Go.Proofs.YthdigbkcffihkaaGreatDoor
