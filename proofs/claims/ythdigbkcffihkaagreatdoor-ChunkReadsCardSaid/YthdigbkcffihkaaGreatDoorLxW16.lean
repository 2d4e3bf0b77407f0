/- Package lex, the walk, 16: Next. -/
import Derived.Test.YthdigbkcffihkaaGreatDoorLxW14
import Derived.Test.YthdigbkcffihkaaGreatDoorLxW15
set_option linter.unusedVariables false
namespace Go.Proofs.YthdigbkcffihkaaGreatDoor
open Go.RowKit
namespace Lx
/-- What Next hands back where it begins at a. -/
def Nexted (a : Nat) (x : Except Err (Tok × Nat)) (w : World) (e : Ending) (w' : World) : Prop :=
  Below w.heap.size w w' ∧ match x with
  | .error (p, n) => e = .returned (.tuple #[tokV 0 ⟨0, [], 0, 0⟩, .int .i64 ((a + p : Nat) : Int), .int .i64 n])
  | .ok (t, n) => e = .returned (.tuple #[tokV a t, .int .i64 ((a + n : Nat) : Int), .int .i64 0])
theorem ErrVar_lt {w : World} (h : ErrVar w) : 4 < w.heap.size := by
  obtain ⟨tp, p, hv⟩ := h
  have hg : Tryz.prog.globalNamed "strconv.ErrRange" = some 4 := by kernel_rfl
  rcases Nat.lt_or_ge 4 w.heap.size with h | h
  · exact h
  · exfalso
    unfold World.var? at hv
    simp only [hg, Option.bind_some, Array.getElem?_eq_none h] at hv
    cases hv
theorem One.made {T : Nat} {v : Value} (w : World) : One T w.heap.size v (w.alloc (.cells #[v] T)) := Go.Deep.blk_alloc_new w _
theorem Rd.made {T : Nat} {s : ByteArray} {a : Nat} (w : World) : Rd T w.heap.size s a (w.alloc (.cells #[.string s, .int .i64 (a : Int)] T)) := Go.Deep.blk_alloc_new w _
theorem One.mv {T k b : Nat} {v : Value} {w w' : World} (h : One T k v w) (hm : Mv b w w') (hb : k ≠ b) : One T k v w' := (hm.block k (lt_of_block h) hb).trans h
/-- Next's own blocks: a token, two numbers, the reader. -/
structure Nx (s : ByteArray) (z : Nat) (kd : Int) (wd : ByteArray) (n a : Int) (x y : Int) (w W : World) : Prop where
  rd : Rd RT (w.heap.size + 1 + 1 + 1) s z W
  t0 : Tk TT w.heap.size kd wd n a W
  o1 : One IT (w.heap.size + 1) (.int .i64 x) W
  o2 : One ET (w.heap.size + 1 + 1) (.int .i64 y) W
  be : Below w.heap.size w W
theorem Nx.made (s : ByteArray) (z : Nat) (w : World) : Nx s z 0 ⟨#[]⟩ 0 0 0 0 w ((((w.alloc (Obj.cells #[.int .i64 0, .string ⟨#[]⟩, .int .i64 0, .int .i64 0] TT)).alloc (Obj.cells #[.int .i64 0] IT)).alloc (Obj.cells #[.int .i64 0] ET)).alloc (Obj.cells #[.string s, .int .i64 (z : Int)] RT)) where
  rd := by have := Rd.made (T := RT) (s := s) (a := z) (((w.alloc (Obj.cells #[.int .i64 0, .string ⟨#[]⟩, .int .i64 0, .int .i64 0] TT)).alloc (Obj.cells #[.int .i64 0] IT)).alloc (Obj.cells #[.int .i64 0] ET)); simpa using this
  t0 := (((Tk.made w).alloc _).alloc _).alloc _
  o1 := by have := One.made (T := IT) (v := .int .i64 0) (w.alloc (Obj.cells #[.int .i64 0, .string ⟨#[]⟩, .int .i64 0, .int .i64 0] TT)); simpa using (this.alloc (Obj.cells #[.int .i64 0] ET)).alloc (Obj.cells #[.string s, .int .i64 (z : Int)] RT)
  o2 := by have := One.made (T := ET) (v := .int .i64 0) ((w.alloc (Obj.cells #[.int .i64 0, .string ⟨#[]⟩, .int .i64 0, .int .i64 0] TT)).alloc (Obj.cells #[.int .i64 0] IT)); simpa using this.alloc (Obj.cells #[.string s, .int .i64 (z : Int)] RT)
  be := (((((Below.refl _ w).alloc (Nat.le_refl _) _).alloc (by simp) _).alloc (by simp; omega) _).alloc (by simp; omega) _)
theorem Nx.call {s : ByteArray} {z z' : Nat} {kd n a x y : Int} {wd : ByteArray} {w W W' : World} (h : Nx s z kd wd n a x y w W) (hr : Rd RT (w.heap.size + 1 + 1 + 1) s z' W') (hm : Mv (w.heap.size + 1 + 1 + 1) W W') : Nx s z' kd wd n a x y w W' where
  rd := hr
  t0 := h.t0.mv hm (by omega)
  o1 := h.o1.mv hm (by omega)
  o2 := h.o2.mv hm (by omega)
  be := h.be.trans (hm.new_below (by omega) h.be.size)
theorem Nx.row {s : ByteArray} {z : Nat} {kd n a x y : Int} {wd : ByteArray} {w W : World} (h : Nx s z kd wd n a x y w W) (kd' n' a' : Int) (wd' : ByteArray) :
    Nx s z kd' wd' n' a' x y w ((((W.setCell ⟨w.heap.size, 0, none⟩ (.int .i64 kd')).setCell ⟨w.heap.size, 1, none⟩ (.string wd')).setCell ⟨w.heap.size, 2, none⟩ (.int .i64 n')).setCell ⟨w.heap.size, 3, none⟩ (.int .i64 a')) := by
  have n1 : w.heap.size + 1 + 1 + 1 ≠ w.heap.size := by omega
  have n2 : w.heap.size + 1 ≠ w.heap.size := by omega
  have n3 : w.heap.size + 1 + 1 ≠ w.heap.size := by omega
  exact ⟨(((h.rd.far n1 _).far n1 _).far n1 _).far n1 _, (((h.t0.set0 kd').set1 wd').set2 n').set3 a', (((h.o1.far n2 _).far n2 _).far n2 _).far n2 _, (((h.o2.far n3 _).far n3 _).far n3 _).far n3 _,
    (((h.be.setCell (p := ⟨w.heap.size, 0, none⟩) (Nat.le_refl _) _).setCell (p := ⟨w.heap.size, 1, none⟩) (Nat.le_refl _) _).setCell (p := ⟨w.heap.size, 2, none⟩) (Nat.le_refl _) _).setCell (p := ⟨w.heap.size, 3, none⟩) (Nat.le_refl _) _⟩
theorem Nx.ones {s : ByteArray} {z : Nat} {kd n a x y : Int} {wd : ByteArray} {w W : World} (h : Nx s z kd wd n a x y w W) (x' y' : Int) :
    Nx s z kd wd n a x' y' w ((W.setCell ⟨w.heap.size + 1, 0, none⟩ (.int .i64 x')).setCell ⟨w.heap.size + 1 + 1, 0, none⟩ (.int .i64 y')) :=
  ⟨(h.rd.far (show w.heap.size + 1 + 1 + 1 ≠ w.heap.size + 1 by omega) _).far (show w.heap.size + 1 + 1 + 1 ≠ w.heap.size + 1 + 1 by omega) _,
   (h.t0.far (show w.heap.size ≠ w.heap.size + 1 by omega) _).far (show w.heap.size ≠ w.heap.size + 1 + 1 by omega) _,
   (h.o1.set_ _).far (show w.heap.size + 1 ≠ w.heap.size + 1 + 1 by omega) _,
   (h.o2.far (show w.heap.size + 1 + 1 ≠ w.heap.size + 1 by omega) _).set_ _,
   (h.be.setCell (p := ⟨w.heap.size + 1, 0, none⟩) (show w.heap.size ≤ w.heap.size + 1 by omega) _).setCell (p := ⟨w.heap.size + 1 + 1, 0, none⟩) (show w.heap.size ≤ w.heap.size + 1 + 1 by omega) _⟩
theorem Nx.drew {s : ByteArray} {z : Nat} {kd n a x y : Int} {wd : ByteArray} {w W : World} (h : Nx s z kd wd n a x y w W) : Nx s z kd wd n a x y w W.drew := ⟨h.rd, h.t0, h.o1, h.o2, h.be.drew⟩
variable {s : ByteArray} {w : World}
set_option maxRecDepth 100000 in
set_option maxHeartbeats 1600000 in
theorem Next_any (s : ByteArray) (at_ : Int) (a : Nat) (w : World) (hs : s.size ≤ 140737488351232) (ha : max 0 (min at_ (s.size : Int)) = (a : Int)) (hv : ErrVar w) :
    Calls Tryz.prog 54 #[.string s, .int .i64 at_] w (Nexted a (nextR (s.data.toList.drop a)) w) := by
  have hmf : ∀ (fn : Fn) (first cap : Array Value) (w : World), (Instr.makeFunc fn first cap).run Tryz.prog w = .ok (.func fn first cap) w := fun _ _ _ _ => rfl
  have has : a ≤ s.size := by omega
  obtain ⟨E, hE⟩ : ∃ E, nextR (s.data.toList.drop a) = E := ⟨_, rfl⟩
  have hvl : 4 < w.heap.size := ErrVar_lt hv
  have HV := Lib.hid hv; clear hv
  have HE := Lib.hid hE
  rw [hE]; clear hE
  go_enter_defers Tryz.func54, Tryz.ntmps54
  go_wp2_with fail
  have hN := Nx.made s a w
  obtain ⟨W, hW⟩ : ∃ W, ((((w.alloc (Obj.cells #[.int .i64 0, .string ⟨#[]⟩, .int .i64 0, .int .i64 0] TT)).alloc (Obj.cells #[.int .i64 0] IT)).alloc (Obj.cells #[.int .i64 0] ET)).alloc (Obj.cells #[.string s, .int .i64 (a : Int)] RT)) = W := ⟨_, rfl⟩
  rw [hW] at hN ⊢
  clear hW
  refine (next_any hs has hN.rd (HV.out.below hN.be) (by omega)).mono ?_; intro e w2 ht
  rw [HE.out] at ht
  cases E with
  | error x =>
    obtain ⟨p, n⟩ := x
    obtain ⟨rfl, hm⟩ := ht
    go_wp2_with fail
    refine leaves_cons (f := 78) (args := #[.pointer (some ⟨w.heap.size + 1, 0, none⟩), .pointer (some ⟨w.heap.size + 1 + 1, 0, none⟩), .pointer (some ⟨w.heap.size, 0, none⟩)]) (by simp) (by simp [go_sem]) ?_
    refine (catch_fault w.heap.size (w.heap.size + 1) (w.heap.size + 1 + 1) ((a + p : Nat) : Int) n 0 0 _ (hN.t0.mv hm (by omega)) (hN.o1.mv hm (by omega)) (hN.o2.mv hm (by omega)) (by omega) (by omega) (by omega)).mono ?_
    rintro e u' w3 ⟨rfl, rfl, h4, h5, h6, hb⟩
    have e0 := h4.c0
    have e1 := h4.c1
    have e2 := h4.c2
    have e3 := h4.c3
    have e5 := h5.c
    have e6 := h6.c
    have hbe := (hN.be.trans (hm.new_below (by omega) hN.be.size)).trans (hb w.heap.size (Nat.le_refl _) (by omega) (by omega) (Nat.le_trans hN.be.size hm.size))
    simp [Leaves, settle, results, Tryz.results54, go_sem, e0, e1, e2, e3, e5, e6]
    exact ⟨hbe, rfl⟩
  | ok y =>
    obtain ⟨t, n⟩ := y
    obtain ⟨rfl, hr2, hm⟩ := ht
    have hN := hN.call hr2 hm
    clear hr2 hm
    have hQ : ∀ W', Below w.heap.size w W' → Nexted a (.ok (t, n)) w (.returned (.tuple #[tokV a t, .int .i64 ((a + n : Nat) : Int), .int .i64 0])) W' := fun W' hb => ⟨hb, rfl⟩
    obtain ⟨kd, wd, nn, aa, hV⟩ : ∃ (kd : Int) (wd : ByteArray) (nn aa : Int), tokV a t = .agg #[.int .i64 kd, .string wd, .int .i64 nn, .int .i64 aa] := ⟨_, _, _, _, rfl⟩
    rw [hV] at hQ ⊢
    have HQ := Lib.hid hQ
    have e0 := hN.t0.c0
    have e1 := hN.t0.c1
    have e2 := hN.t0.c2
    have e3 := hN.t0.c3
    have ef := hN.t0.fz
    have hN := hN.row kd nn aa wd
    clear hQ hV HE
    go_wp2_with fail
    obtain ⟨W3, hW⟩ : ∃ W3, ((((w2.setCell ⟨w.heap.size, 0, none⟩ (.int .i64 kd)).setCell ⟨w.heap.size, 1, none⟩ (.string wd)).setCell ⟨w.heap.size, 2, none⟩ (.int .i64 nn)).setCell ⟨w.heap.size, 3, none⟩ (.int .i64 aa)) = W3 := ⟨_, rfl⟩
    rw [hW] at hN ⊢
    clear hW e0 e1 e2 e3 ef
    have e0 := hN.t0.c0
    have e1 := hN.t0.c1
    have e2 := hN.t0.c2
    have e3 := hN.t0.c3
    have ef := hN.t0.fz
    have d0 := hN.rd.c1
    have d1 := hN.o1.c
    have d2 := hN.o1.fz
    have d3 := hN.o2.c
    have d4 := hN.o2.fz
    have n1 : ¬ w.heap.size + 1 + 1 + 1 = w.heap.size := by omega
    have n2 : ¬ w.heap.size + 1 = w.heap.size := by omega
    have n3 : ¬ w.heap.size + 1 + 1 = w.heap.size := by omega
    have n4 : ¬ w.heap.size + 1 + 1 = w.heap.size + 1 := by omega
    obtain ⟨an, han⟩ : ∃ an : Int, ((a + n : Nat) : Int) = an := ⟨_, rfl⟩
    rw [han] at d0 HQ
    have hN := ((hN.row kd nn aa wd).ones an 0).drew
    go_region
    go_wp2
    clear e0 e1 e2 e3 ef d0 d1 d2 d3 d4
    refine leaves_cons (f := 78) (args := #[.pointer (some ⟨w.heap.size + 1, 0, none⟩), .pointer (some ⟨w.heap.size + 1 + 1, 0, none⟩), .pointer (some ⟨w.heap.size, 0, none⟩)]) (by simp) (by simp [go_sem]) ?_
    refine (catch_idle w.heap.size (w.heap.size + 1) (w.heap.size + 1 + 1) _).mono ?_
    rintro e u' w4 ⟨rfl, rfl, rfl⟩
    have e0 := hN.t0.c0
    have e1 := hN.t0.c1
    have e2 := hN.t0.c2
    have e3 := hN.t0.c3
    have d1 := hN.o1.c
    have d3 := hN.o2.c
    have hbe := hN.be
    obtain ⟨W4, hW⟩ : ∃ W4, (World.drew ((((((W3.setCell ⟨w.heap.size, 0, none⟩ (.int .i64 kd)).setCell ⟨w.heap.size, 1, none⟩ (.string wd)).setCell ⟨w.heap.size, 2, none⟩ (.int .i64 nn)).setCell ⟨w.heap.size, 3, none⟩ (.int .i64 aa)).setCell ⟨w.heap.size + 1, 0, none⟩ (.int .i64 an)).setCell ⟨w.heap.size + 1 + 1, 0, none⟩ (.int .i64 0))) = W4 := ⟨_, rfl⟩
    rw [hW] at e0 e1 e2 e3 d1 d3 hbe ⊢
    clear hW hN
    simp [Leaves, settle, results, Tryz.results54, go_sem, e0, e1, e2, e3, d1, d3]
    exact HQ.out _ hbe
end Lx
end Go.Proofs.YthdigbkcffihkaaGreatDoor
