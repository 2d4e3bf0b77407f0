/- Package lex, the walk, 9: symbol (wip/gen/gen_sym.py prints this). -/
import Derived.Test.YthdigbkcffihkaaGreatDoorLxW8
import Derived.Test.YthdigbkcffihkaaGreatDoorLxTk
set_option linter.unusedVariables false
namespace Go.Proofs.YthdigbkcffihkaaGreatDoor
open Go.RowKit
namespace Lx
/-- A token's value; its place counts from a. -/
def tokV (a : Nat) (t : Tok) : Value := .agg #[.int .i64 (t.kind : Int), .string ⟨t.word.toArray⟩, .int .i64 t.num, .int .i64 ((a + t.at_ : Nat) : Int)]
/-- A token from a on, or a fault. -/
def Toked (b : Nat) (s : ByteArray) (a : Nat) (x : Except Err (Tok × Nat)) (w : World) (e : Ending) (w' : World) : Prop :=
  match x with
  | .error (p, n) => Fell b ((a + p : Nat) : Int) n w e w'
  | .ok (t, n) => Turn RT b s (a + n) (tokV a t) w e w'
abbrev TT : Nat := 102
/-- A reader, an empty token in the first new block, a token in the second one. -/
structure St (b : Nat) (s : ByteArray) (z : Nat) (k a : Int) (x : ByteArray) (w W : World) : Prop where
  rd : Rd RT b s z W
  mv : Mv b w W
  t0 : Tk TT w.heap.size 0 ⟨#[]⟩ 0 0 W
  t1 : Tk TT (w.heap.size + 1) k x 0 a W
section
variable {b z z' : Nat} {s x : ByteArray} {k a : Int} {w W W' : World}
theorem St.call (h : St b s z k a x w W) (hb : b < w.heap.size) (hr : Rd RT b s z' W') (hm : Mv b W W') : St b s z' k a x w W' :=
  ⟨hr, h.mv.trans hm, h.t0.mv hm (by omega), h.t1.mv hm (by omega)⟩
theorem St.drewN (h : St b s z k a x w W) (n : Nat) : St b s z k a x w (W.drewN n) := ⟨h.rd.drewN n, h.mv.drewN n, h.t0.drewN n, h.t1.drewN n⟩
theorem St.word (h : St b s z k a x w W) (hb : b < w.heap.size) (y : ByteArray) : St b s z k a y w (W.setCell ⟨w.heap.size + 1, 1, none⟩ (.string y)) :=
  ⟨h.rd.far (show b ≠ w.heap.size + 1 by omega) _, h.mv.new (show w.heap.size ≤ w.heap.size + 1 by omega) _, h.t0.far (show w.heap.size ≠ w.heap.size + 1 by omega) _, h.t1.set1 y⟩
theorem fin4 (hr : Rd RT b s z W) (hm : Mv b w W) (hb : b < w.heap.size) (u0 u1 u2 u3 : Value) :
    Rd RT b s z ((((W.setCell ⟨w.heap.size, 0, none⟩ u0).setCell ⟨w.heap.size, 1, none⟩ u1).setCell ⟨w.heap.size, 2, none⟩ u2).setCell ⟨w.heap.size, 3, none⟩ u3) ∧
    Mv b w ((((W.setCell ⟨w.heap.size, 0, none⟩ u0).setCell ⟨w.heap.size, 1, none⟩ u1).setCell ⟨w.heap.size, 2, none⟩ u2).setCell ⟨w.heap.size, 3, none⟩ u3) :=
  have hne : b ≠ w.heap.size := by omega
  ⟨(((hr.far hne _).far hne _).far hne _).far hne _,
   (((hm.new (Nat.le_refl _) _).new (Nat.le_refl _) _).new (Nat.le_refl _) _).new (Nat.le_refl _) _⟩
theorem St.made (h : Rd RT b s z w) (k a : Int) : St b s z k a ⟨#[]⟩ w ((w.alloc (Obj.cells #[.int .i64 0, .string ⟨#[]⟩, .int .i64 0, .int .i64 0] TT)).alloc (Obj.cells #[.int .i64 k, .string ⟨#[]⟩, .int .i64 0, .int .i64 a] TT)) :=
  ⟨(h.alloc _).alloc _, ((Mv.refl _ _).alloc _).alloc _, (Tk.made w).alloc _, by have := Tk.made (T := TT) (kd := k) (wd := ⟨#[]⟩) (n := 0) (a := a) (w.alloc (Obj.cells #[.int .i64 0, .string ⟨#[]⟩, .int .i64 0, .int .i64 0] TT)); simpa using this⟩
end
theorem ext_size (s : ByteArray) (a z : Nat) (h1 : a ≤ z) (h2 : z ≤ s.size) : (s.extract a z).size = z - a := by
  rw [ByteArray.size_extract]; omega
theorem ext_word (s : ByteArray) (a n : Nat) (h2 : a + n ≤ s.size) : s.extract a (a + n) = ⟨((s.data.toList.drop a).take n).toArray⟩ := by
  apply ByteArray.ext
  apply Array.toList_inj.1
  rw [ext_list, List.take_drop]
theorem hd_in {s : ByteArray} {a : Nat} {c : UInt8} (h : hd (s.data.toList.drop a) 0 = c) (hc : c ≠ 0) : a < s.size := by
  rcases Nat.lt_or_ge a s.size with h' | h'
  · exact h'
  · exact absurd ((hd_past s a 0 h').symm.trans h) (fun e => hc e.symm)
variable {b at_ : Nat} {s : ByteArray} {w : World}
set_option maxHeartbeats 4000000 in
theorem symbol_paren (hs : s.size ≤ 140737488351232) (hat : at_ + 1 ≤ s.size) (hrd : Rd RT b s (at_ + 1) w) (hc : hd (s.data.toList.drop (at_ + 1)) 0 = 40) :
    Calls Tryz.prog 104 #[.pointer (some ⟨b, 0, none⟩), .int .i64 (at_ : Int)] w (Toked b s at_ (symR (s.data.toList.drop (at_ + 1))) w) := by
  have hE : symR (s.data.toList.drop (at_ + 1)) = .ok (⟨15, [], 0, 0⟩, 2) := by unfold symR; rw [if_pos hc]
  rw [hE]
  have hbl := hrd.lt
  have hne1 : ¬ b = w.heap.size := by omega
  have hne2 : ¬ w.heap.size = b := by omega
  have hne3 : ¬ b = w.heap.size + 1 := by omega
  have hne4 : ¬ w.heap.size + 1 = b := by omega
  have hne5 : ¬ w.heap.size = w.heap.size + 1 := by omega
  have hne6 : ¬ w.heap.size + 1 = w.heap.size := by omega
  go_enter Tryz.func104, Tryz.ntmps104
  go_wp2_with fail
  have hS := St.made hrd 5 (at_ : Int)
  obtain ⟨W, hW⟩ : ∃ W, (w.alloc (Obj.cells #[.int .i64 0, .string ⟨#[]⟩, .int .i64 0, .int .i64 0] TT)).alloc (Obj.cells #[.int .i64 5, .string ⟨#[]⟩, .int .i64 0, .int .i64 (at_ : Int)] TT) = W := ⟨_, rfl⟩
  rw [hW] at hS ⊢
  clear hW
  refine (peekR0 hs hat hS.rd).mono ?_; rintro e w1 ⟨rfl, n1, hw⟩
  have hS : St b s (at_ + 1) 5 (at_ : Int) ⟨#[]⟩ w w1 := by rw [hw]; exact hS.drewN _
  clear hw
  rw [hc]
  have e0 := hS.t0.c0
  have e1 := hS.t0.c1
  have e2 := hS.t0.c2
  have e3 := hS.t0.c3
  have ef := hS.t0.fz
  have g0 := hS.t1.c0
  have g1 := hS.t1.c1
  have g2 := hS.t1.c2
  have g3 := hS.t1.c3
  have gf := hS.t1.fz
  clear g0 g1 g2 g3 gf
  have d1 := hS.rd.c1
  have df := hS.rd.fz
  have hsum : IntKind.i64.wrap (((at_ + 1 : Nat) : Int) + 1) = ((at_ + 2 : Nat) : Int) := by rw [show ((at_ + 1 : Nat) : Int) + 1 = ((at_ + 2 : Nat) : Int) by omega]; exact IntWalk.i64_in _ (by omega)
  obtain ⟨A1, hA1⟩ : ∃ A1 : Int, ((at_ + 1 : Nat) : Int) = A1 := ⟨_, rfl⟩
  rw [hA1] at d1 hsum
  obtain ⟨A2, hA2⟩ : ∃ A2 : Int, ((at_ + 2 : Nat) : Int) = A2 := ⟨_, rfl⟩
  rw [hA2] at hsum
  clear hA1
  go_wp2_with fail
  refine bodyPost_ret (v := .agg #[.int .i64 15, .string ⟨#[]⟩, .int .i64 0, .int .i64 (at_ : Int)]) (by simp [results, Tryz.results104, go_sem, e0, e1, e2, e3]) rfl ?_
  have hR := hS.rd.set_ (at_ + 2)
  have hM := hS.mv.set_ 1 (.int .i64 ((at_ + 2 : Nat) : Int))
  rw [hA2] at hR hM
  obtain ⟨f1, f2⟩ := fin4 hR hM hbl (.int .i64 15) (.string ⟨#[]⟩) (.int .i64 0) (.int .i64 (at_ : Int))
  exact ⟨rfl, f1, f2⟩
end Lx
end Go.Proofs.YthdigbkcffihkaaGreatDoor
