/- Package chunk, the walk, 1: trim; what strings' trims come to. · strings.Builder's WriteByte and Reset, and which blocks they leave alone: all but the builder's own and bytes' rows. · Package chunk, the walk, 2: cut. · Package chunk, the walk, 3: words. · Package chunk, the walk, 4: name, fits, shapes. -/
import Derived.Test.YthdigbkcffihkaaGreatDoorCkA
import Derived.Test.YthdigbkcffihkaaGreatDoorLxA1
import Derived.Test.YthdigbkcffihkaaGreatDoorLxB
import Derived.Shelf.Strings.BuilderK
import Derived.Test.YthdigbkcffihkaaGreatDoorLxW17
import Derived.Test.YthdigbkcffihkaaGreatDoorLxE3
set_option linter.unusedVariables false
namespace Go.Proofs.YthdigbkcffihkaaGreatDoor
open Go.RowKit
namespace Ck
open Lx
abbrev PT : Nat := 60
theorem trimLeft_any (s : ByteArray) (w : World) :
    Calls Tryz.prog 52 #[.string s, .string ⟨#[32, 9, 10, 13]⟩] w (Back (.string ⟨(Lib.trimLeftS s.data.toList blanksL).toArray⟩) w) :=
  Any.strings_TrimLeft_laid Tryz.lays161 (by kernel_rfl) s ⟨#[32, 9, 10, 13]⟩ w (by decide) (ascii_of_all (by decide))
theorem trimRight_any (s : ByteArray) (w : World) (hs : s.size ≤ 9223372036854775807) :
    Calls Tryz.prog 53 #[.string s, .string ⟨#[32, 9, 10, 13]⟩] w (Back (.string ⟨(Lib.trimRightS s.data.toList blanksL).toArray⟩) w) :=
  Any.strings_TrimRight_laid Tryz.lays162 (by kernel_rfl) s ⟨#[32, 9, 10, 13]⟩ w hs (by decide) (ascii_of_all (by decide))
theorem trimBoth_any (s : ByteArray) (w : World) (hs : s.size ≤ 9223372036854775807) :
    Calls Tryz.prog 50 #[.string s, .string ⟨#[32, 9, 10, 13]⟩] w (Back (.string ⟨(Lib.trimS s.data.toList blanksL).toArray⟩) w) :=
  Any.strings_Trim_laid Tryz.lays160 (by kernel_rfl) s ⟨#[32, 9, 10, 13]⟩ w hs (by decide) (ascii_of_all (by decide))
theorem trimL_le (l : Bytes) : (Lib.trimLeftS l blanksL).length ≤ l.length := by
  obtain ⟨n, e, hn, _⟩ := trimL_split l
  rw [e, List.length_drop]; omega
theorem trimR_le (l : Bytes) : (Lib.trimRightS l blanksL).length ≤ l.length := by
  obtain ⟨n, e, hn, _⟩ := trimR_split l
  rw [e, List.length_take]; omega
theorem piece_le (b : Bytes) (f : Nat) : (pieceL b f).1.length ≤ b.length ∧ (pieceL b f).2 ≤ f + b.length := by
  have h1 := trimL_le b
  have h2 := trimR_le (Lib.trimLeftS b blanksL)
  unfold pieceL
  simp only
  exact ⟨by omega, by omega⟩
/-- Block k holds these cells. -/
def Blk (T k : Nat) (cs : Array Value) (w : World) : Prop := w.heap[k]? = some (.cells cs T (0, 0))
section
variable {T k : Nat} {cs : Array Value} {w w' : World}
theorem Blk.c (h : Blk T k cs w) (i : Nat) (u : Value) (hu : cs[i]? = some u) : w.cell? ⟨k, i, none⟩ = some u := by
  have := cell_of_row w k i cs T (0, 0) h
  rw [this]; exact hu
theorem Blk.fz (h : Blk T k cs w) (i : Nat) : w.frozen? ⟨k, i, none⟩ = false := by unfold Blk at h; simp [World.frozen?, h]
theorem Blk.lt (h : Blk T k cs w) : k < w.heap.size := by
  rcases Nat.lt_or_ge k w.heap.size with hlt | hge
  · exact hlt
  · unfold Blk at h; rw [Array.getElem?_eq_none hge] at h; cases h
theorem Blk.drewN (h : Blk T k cs w) (m : Nat) : Blk T k cs (w.drewN m) := h
theorem Blk.below {B : Nat} (h : Blk T k cs w) (hb : Below B w w') (hB : k < B) : Blk T k cs w' := (hb.block k hB).trans h
theorem Blk.alloc (h : Blk T k cs w) (o : Obj) : Blk T k cs (w.alloc o) := (Below.heap_alloc w o k h.lt).trans h
theorem Blk.far (h : Blk T k cs w) {p : Addr} (hp : k ≠ p.block) (u : Value) : Blk T k cs (w.setCell p u) := (Below.heap_setCell w p u k hp).trans h
theorem Blk.made (w : World) : Blk T w.heap.size cs (w.alloc (.cells cs T)) := Go.Deep.blk_alloc_new w _
theorem Blk.set_ (h : Blk T k cs w) (i : Nat) (u : Value) (cs' : Array Value) (hc : cs.setIfInBounds i u = cs') : Blk T k cs' (w.setCell ⟨k, i, none⟩ u) := by
  unfold Blk at h ⊢
  simp [World.setCell, Array.getElem?_modify, h, hc]
end
def pieceV (p : Piece) : Value := .agg #[.string ⟨p.1.toArray⟩, .int .i64 (p.2 : Int)]
set_option maxRecDepth 100000 in
set_option maxHeartbeats 1600000 in
theorem trim_any (s : ByteArray) (n : Nat) (w : World) (hs : s.size ≤ 1099511627776) (hn : n ≤ 1099511627776) :
    Calls Tryz.prog 34 #[.string s, .int .i64 (n : Int)] w (Back (pieceV (pieceL s.data.toList n)) w) := by
  have hp : pieceL s.data.toList n = (Lib.trimRightS (Lib.trimLeftS s.data.toList blanksL) blanksL, n + s.size - (Lib.trimLeftS s.data.toList blanksL).length) := rfl
  have hl : (Lib.trimLeftS s.data.toList blanksL).length ≤ s.size := trimL_le s.data.toList
  have hL := fun v : World => trimLeft_any s v
  obtain ⟨L, hLe⟩ : ∃ L, Lib.trimLeftS s.data.toList blanksL = L := ⟨_, rfl⟩
  rw [hLe] at hL hl hp
  obtain ⟨B, hB⟩ : ∃ B : ByteArray, (⟨L.toArray⟩ : ByteArray) = B := ⟨_, rfl⟩
  have hBs : B.size = L.length := by rw [← hB]; rfl
  have hBd : B.data.toList = L := by rw [← hB]
  have hR := fun v : World => trimRight_any B v (by omega)
  rw [hBd] at hR
  rw [hB] at hL
  rw [hp]
  have h1 : IntKind.i64.wrap ((n : Int) + (s.size : Int)) = (n : Int) + (s.size : Int) := IntWalk.i64_in _ (by omega)
  have h2 : IntKind.i64.wrap ((n : Int) + (s.size : Int) - (B.size : Int)) = ((n + s.size - L.length : Nat) : Int) := by
    rw [show (n : Int) + (s.size : Int) - (B.size : Int) = ((n + s.size - L.length : Nat) : Int) by omega]
    exact IntWalk.i64_in _ (by omega)
  obtain ⟨z, hz⟩ : ∃ z : Int, ((n + s.size - L.length : Nat) : Int) = z := ⟨_, rfl⟩
  unfold pieceV
  simp only
  rw [hz] at h2 ⊢
  have HL := Lib.hid hL
  have HR := Lib.hid hR
  clear hL hR hp hLe hl hB hBs hBd hz
  go_enter Tryz.func34, Tryz.ntmps34
  go_wp2_with fail
  have hb0 := (Below.refl _ w).alloc (Nat.le_refl _) (.cells #[.string ⟨#[]⟩, .int .i64 0] PT)
  have hk := Blk.made (T := PT) (cs := #[.string ⟨#[]⟩, .int .i64 0]) w
  obtain ⟨W, hW⟩ : ∃ W, w.alloc (.cells #[.string ⟨#[]⟩, .int .i64 0] PT) = W := ⟨_, rfl⟩
  rw [hW] at hb0 hk ⊢
  clear hW
  refine (HL.out _).mono ?_; rintro e w1 ⟨rfl, hb1⟩
  have hk := hk.below hb1 hk.lt
  have hb1 := hb0.trans (hb1.mono hb0.size)
  clear hb0
  go_wp2_with fail
  refine (HR.out _).mono ?_; rintro e w2 ⟨rfl, hb2⟩
  have hk := hk.below hb2 hk.lt
  have hb2 := hb1.trans (hb2.mono hb1.size)
  clear hb1
  obtain ⟨tx, htx⟩ : ∃ tx : ByteArray, (⟨(Lib.trimRightS L blanksL).toArray⟩ : ByteArray) = tx := ⟨_, rfl⟩
  rw [htx]
  have e0 := hk.c 0 _ rfl
  have e1 := hk.c 1 _ rfl
  have ef := hk.fz
  have HTX := Lib.hid htx
  clear htx
  go_wp2_with fail
  refine bodyPost_ret (v := .agg #[.string tx, .int .i64 z]) (by simp [results, Tryz.results34, go_sem, e0, e1]) rfl ?_
  exact ⟨by rw [HTX.out], (hb2.setCell (p := ⟨w.heap.size, 0, none⟩) (Nat.le_refl _) _).setCell (p := ⟨w.heap.size, 1, none⟩) (Nat.le_refl _) _⟩
end Ck
end Go.Proofs.YthdigbkcffihkaaGreatDoor
namespace Go.Proofs.YthdigbkcffihkaaGreatDoor
open Go.RowKit
namespace Ck
open Lx
/-- All blocks stay but b and those whose cells are of type T. -/
structure KeepT (b T : Nat) (w w' : World) : Prop where
  os : w'.os = w.os
  tape : w'.tape = w.tape
  output : w'.output = w.output
  size : w.heap.size ≤ w'.heap.size
  block : ∀ k, k < w.heap.size → k ≠ b → (∀ cs fz, w.heap[k]? ≠ some (.cells cs T fz)) → w'.heap[k]? = w.heap[k]?
section
variable {b T : Nat} {w w' w'' : World}
theorem KeepT.refl (b T : Nat) (w : World) : KeepT b T w w := ⟨rfl, rfl, rfl, Nat.le_refl _, fun _ _ _ _ => rfl⟩
theorem KeepT.trans (h : KeepT b T w w') (k : KeepT b T w' w'') : KeepT b T w w'' :=
  ⟨k.os.trans h.os, k.tape.trans h.tape, k.output.trans h.output, Nat.le_trans h.size k.size, fun j hj hb ht => by
    have h1 := h.block j hj hb ht
    rw [k.block j (Nat.lt_of_lt_of_le hj h.size) hb (by rw [h1]; exact ht), h1]⟩
theorem KeepT.set_ (h : KeepT b T w w') (i : Nat) (u : Value) : KeepT b T w (w'.setCell ⟨b, i, none⟩ u) :=
  h.trans ⟨rfl, rfl, rfl, by simp [World.setCell], fun j _ hb _ => Below.heap_setCell w' ⟨b, i, none⟩ u j hb⟩
theorem KeepT.alloc (h : KeepT b T w w') (o : Obj) : KeepT b T w (w'.alloc o) :=
  h.trans ⟨rfl, rfl, rfl, by simp, fun j hj _ _ => Below.heap_alloc w' o j hj⟩
theorem KeepT.drewN (h : KeepT b T w w') (n : Nat) : KeepT b T w (w'.drewN n) := ⟨h.os, h.tape, h.output, h.size, h.block⟩
theorem KeepT.below (h : KeepT b T w w') (k : Below w'.heap.size w' w'') : KeepT b T w w'' :=
  h.trans ⟨k.os, k.tape, k.output, k.size, fun j hj _ _ => k.block j hj⟩
/-- A row of another type stays. -/
theorem KeepT.own (h : KeepT b T w w') {base e size n : Nat} {v : Value} {xs : List Value} (ho : w.ownsRow base e size v n xs) (he : e ≠ T) {cs : Array Value} {B : Nat} {fz : Nat × Nat} (hB : w.heap[b]? = some (.cells cs B fz)) (hBe : e ≠ B) : w'.ownsRow base e size v n xs := by
  obtain ⟨h1, h2⟩ := ho
  refine ⟨h1, ?_⟩
  rcases h2 with hn | ⟨g, cap, cur, rfl, hbg, hg, rest⟩
  · exact .inl hn
  · refine .inr ⟨g, cap, cur, rfl, hbg, ?_, rest⟩
    rw [h.block g (Array.getElem?_eq_some_iff.1 hg).1 (fun e => by subst e; rw [hB] at hg; cases hg; exact hBe rfl) (fun cs fz e => by rw [hg] at e; cases e; exact he rfl)]
    exact hg
end
theorem Below_drewN {B : Nat} {a w : World} (h : Below B a w) (n : Nat) : Below B a (w.drewN n) := ⟨h.os, h.tape, h.output, h.size, h.block⟩
theorem copy_keep (B b : Nat) (bs : List Value) (w : World) (h : Lib.IsBuilder BT U8 B b bs w) :
    Calls Tryz.prog 46 #[.pointer (some ⟨b, 0, none⟩)] w fun e w' => e = .returned (.tuple #[]) ∧ (UsedB B b bs w' ∧ Below B w w' ∧ KeepT b U8 w w') := by
  rcases h with h | h
  · refine (copyCheck_fresh b w h.cell0 h.shape h.frozen0).mono ?_
    rintro e w' ⟨rfl, rfl⟩
    exact ⟨rfl, h.used _, (Below.refl B w).setCell (p := ⟨b, 0, none⟩) h.1 _, (KeepT.refl b U8 w).set_ 0 _⟩
  · refine (copyCheck_used b w h.cell0).mono ?_
    rintro e w' ⟨rfl, rfl⟩
    exact ⟨rfl, h, Below.refl B _, KeepT.refl b U8 _⟩
set_option maxHeartbeats 4000000 in
set_option maxRecDepth 100000 in
theorem writeByte_keep (B b : Nat) (bs : List Value) (c : Int) (w : World) (h : Lib.IsBuilder BT U8 B b bs w) (hlen : bs.length + 1 ≤ 140737488355328) (hBw : B ≤ w.heap.size) :
    Calls Tryz.prog 33 #[.pointer (some ⟨b, 0, none⟩), .int .u8 c] w fun e w' => e = .returned .nilIface ∧ (UsedB B b (bs ++ [.int .u8 c]) w' ∧ Below B w w' ∧ KeepT b U8 w w') := by
  obtain ⟨i0, hi, hz0, hz1, hz2⟩ := info_parts (show (Tryz.prog.info? U8).map (fun i => (i.zero, i.size, i.bytes)) = some (some (.int .u8 0), 1, 1) by kernel_rfl)
  have t37 : Tryz.prog.underlying 76 = some (.slice U8) := by kernel_rfl
  go_enter Tryz.func33, Tryz.ntmps33
  go_wp2_with fail
  refine (copy_keep B b bs _ h).mono ?_
  rintro e w1 ⟨rfl, h1, hb1, hk1⟩
  obtain ⟨hB, v, hbk, hown, hne⟩ := h1
  have c0 : w1.cell? ⟨b, 0, none⟩ = some (.pointer (some ⟨b, 0, none⟩)) := by rw [Lib.cell_of_heap hbk]; rfl
  have c1 : w1.cell? ⟨b, 1, none⟩ = some v := by rw [Lib.cell_of_heap hbk]; rfl
  go_wp2_with (at_builtin; refine wpList_append_own _ rfl _ _ 76 rfl B U8 i0 (.int .u8 0) 1 1 t37 hi hz0 hz1 hz2 rfl (by decide) _ _ _ rfl (hown.alloc _) ⟨w1.heap.size, 0, none⟩ 1 1 [.int .u8 c] rfl rfl ?c1 ?c2 ?c3 ?c4 ?c5 ?_)
  case c1 =>
    intro j u hj
    match j, hj with
    | 0, hj => simp at hj; subst hj; simp [Addr.add]
  case c2 => intro u hu; simp at hu; subst hu; rfl
  case c3 => unfold maxLen; omega
  case c4 => omega
  case c5 => have := hb1.size; simp; omega
  intro v' w2 hown' hgrow _
  have hlt : b < w1.heap.size := by
    rcases Nat.lt_or_ge b w1.heap.size with h' | h'
    · exact h'
    · simp [Array.getElem?_eq_none h'] at hbk
  have hb2 : w2.heap[b]? = some (.cells #[.pointer (some ⟨b, 0, none⟩), v] BT (0, 0)) := by
    rw [hgrow.block b (by simp; omega) (fun e => hne e.symm), Lib.alloc_old w1 _ b hlt]
    exact hbk
  have d0 : w2.cell? ⟨b, 0, none⟩ = some (.pointer (some ⟨b, 0, none⟩)) := by rw [Lib.cell_of_heap hb2]; rfl
  have d1 : w2.cell? ⟨b, 1, none⟩ = some v := by rw [Lib.cell_of_heap hb2]; rfl
  have f1 : w2.frozen? ⟨b, 1, none⟩ = false := Lib.frozen_of_heap hb2 1
  have hk2 : KeepT b U8 w w2 := (hk1.alloc (.cells #[.int .u8 c] U8)).trans ⟨hgrow.os, hgrow.tape, hgrow.output, hgrow.size, fun k hk hkb ht => hgrow.block k hk (fun e => by
    obtain ⟨_, hr⟩ := hown
    rcases hr with ⟨rfl, _⟩ | ⟨g, cap, cur, rfl, _, hg, _⟩
    · cases e
    · have e : some k = some g := e
      cases e
      exact ht cur (0, 0) ((Lib.alloc_old w1 _ k (Array.getElem?_eq_some_iff.1 hg).1).trans hg))⟩
  obtain ⟨g, cap, rfl⟩ : ∃ g cap, v' = .slice (some ⟨g, 0, none⟩) (bs.length + 1) cap := by
    rcases hown'.2 with ⟨_, h0⟩ | ⟨g, cap, cur, hv, _⟩
    · omega
    · exact ⟨g, cap, hv⟩
  go_wp2
  go_ret
  refine ⟨rfl, ?_, ?_, hk2.set_ 1 _⟩
  · exact Lib.BuilderAt.put (T := BT) (e := U8) hB hb2 (bs' := bs ++ [.int .u8 c]) (by simpa using hown') (by decide)
  · exact ((hb1.alloc (by have := hb1.size; omega) _).grown hgrow (by have := hb1.size; simp; omega) (fun k hk => (hown.lt k hk).1)).setCell (p := ⟨b, 1, none⟩) hB _
/-- Block b is a builder, whatever it holds. -/
def Bd (b : Nat) (w : World) : Prop := ∃ p v, w.heap[b]? = some (.cells #[p, v] BT (0, 0))
theorem Bd.of {B b : Nat} {bs : List Value} {w : World} (h : Lib.IsBuilder BT U8 B b bs w) : Bd b w := by
  rcases h with ⟨_, v, h, _⟩ | ⟨_, v, h, _⟩
  · exact ⟨_, _, h⟩
  · exact ⟨_, _, h⟩
theorem Bd.lt {b : Nat} {w : World} (h : Bd b w) : b < w.heap.size := by
  obtain ⟨p, v, h⟩ := h
  exact (Array.getElem?_eq_some_iff.1 h).1
theorem Bd.below {B b : Nat} {w w' : World} (h : Bd b w) (hb : Below B w w') (hB : b < B) : Bd b w' := by
  obtain ⟨p, v, h⟩ := h
  exact ⟨p, v, (hb.block b hB).trans h⟩
theorem string_keep (B b : Nat) (l : List UInt8) (w : World) (h : Lib.IsBuilder BT U8 B b (Lib.byteCells l) w) (hBw : B ≤ w.heap.size) :
    Calls Tryz.prog 29 #[.pointer (some ⟨b, 0, none⟩)] w fun e w' => e = .returned (.string ⟨l.toArray⟩) ∧ (Bd b w' ∧ Below B w w' ∧ KeepT b U8 w w') :=
  (Any.Builder_String_any_k Tryz.lays169 Tryz.Builder_Extra_169 B b l w (Lib.IsBuilderF.of h) hBw).mono fun e w' ⟨he, h1, h2, h3⟩ => by
    refine ⟨he, ?_, h2, h2.os, h2.tape, h2.output, h2.size, fun k hk hkb ht => ?_⟩
    · rcases h1 with ⟨_, v, h, _⟩ | ⟨_, v, h, _⟩
      · exact ⟨_, _, h⟩
      · exact ⟨_, _, h⟩
    · obtain ⟨o, ho⟩ : ∃ o, w.heap[k]? = some o := ⟨_, Array.getElem?_eq_getElem hk⟩
      rw [h3 k o ho (by simpa using hkb) (fun c fz e => ht c fz (by rw [ho, e]; rfl)), ho]
set_option maxHeartbeats 2000000 in
set_option maxRecDepth 100000 in
theorem reset_any (B b : Nat) (w : World) (h : Bd b w) (hB : B ≤ b) :
    Calls Tryz.prog 35 #[.pointer (some ⟨b, 0, none⟩)] w fun e w' => e = .returned (.tuple #[]) ∧ (Lib.IsBuilder BT U8 B b [] w' ∧ Below B w w' ∧ KeepT b U8 w w') := by
  obtain ⟨p, v, hbk⟩ := h
  have c0 : w.cell? ⟨b, 0, none⟩ = some p := by rw [Lib.cell_of_heap hbk]; rfl
  have c1 : w.cell? ⟨b, 1, none⟩ = some v := by rw [Lib.cell_of_heap hbk]; rfl
  have cf : ∀ i, w.frozen? ⟨b, i, none⟩ = false := Lib.frozen_of_heap hbk
  go_enter Tryz.func35, Tryz.ntmps35
  go_wp2_with fail
  go_end0
  refine ⟨rfl, .inl ⟨hB, .slice none 0 0, ?_, World.ownsRow_nil _ _ _ _, by simp [Value.ownBlock]⟩, ((Below.refl B w).setCell (p := ⟨b, 0, none⟩) hB _).setCell (p := ⟨b, 1, none⟩) hB _, ((KeepT.refl b U8 w).set_ 0 _).set_ 1 _⟩
  simp [World.setCell, Array.getElem?_modify, hbk]
end Ck
end Go.Proofs.YthdigbkcffihkaaGreatDoor
namespace Go.Proofs.YthdigbkcffihkaaGreatDoor
open Go.RowKit
namespace Ck
open Lx
def cellsP (p : Piece) : List Value := [.string ⟨p.1.toArray⟩, .int .i64 (p.2 : Int)]
def flatP (l : List Piece) : List Value := l.flatMap cellsP
theorem flatP_snoc (l : List Piece) (p : Piece) : flatP (l ++ [p]) = flatP l ++ cellsP p := by unfold flatP; simp
def glueC (l : List Piece) (y : List Piece × Nat × Bytes) : List Piece × Nat × Bytes := (l ++ y.1, y.2)
theorem glueC_cons (l : List Piece) (p : Piece) (y : List Piece × Nat × Bytes) : glueC l (p :: y.1, y.2) = glueC (l ++ [p]) y := by unfold glueC; simp
/-- What cut hands back. -/
def Cutted (y : List Piece × Nat × Bytes) (w : World) (e : Ending) (w' : World) : Prop :=
  Below w.heap.size w w' ∧ ∃ v, e = .returned (.tuple #[v, pieceV (restL y)]) ∧ w'.ownsRow w.heap.size PT 2 v y.1.length (flatP y.1)
theorem cells2 (W : World) (T : TypeId) (v0 v1 : Value) : ∀ j u, [v0, v1][j]? = some u → (W.alloc (.cells #[v0, v1] T)).cell? ((⟨W.heap.size, 0, none⟩ : Addr).add j) = some u := by
  intro j u hj
  match j, hj with
  | 0, hj => simp at hj; subst hj; simp [Addr.add]
  | 1, hj => simp at hj; subst hj; simp [Addr.add]
  | n + 2, hj => simp at hj
theorem builder_blk {B b : Nat} {bs : List Value} {w : World} (h : Lib.IsBuilder BT U8 B b bs w) : ∃ cs fz, w.heap[b]? = some (.cells cs BT fz) := by
  rcases h with ⟨_, v, h, _⟩ | ⟨_, v, h, _⟩
  · exact ⟨_, _, h⟩
  · exact ⟨_, _, h⟩
theorem BuilderAt_keep {T e B k : Nat} {p : Value} {bs : List Value} {w w' : World} (h : Lib.BuilderAt T e B k p bs w) (row : Option Nat) (hg : w.grownBy w' row) (hr : ∀ g, row = some g → (∀ cs fz, w.heap[g]? ≠ some (.cells cs T fz)) ∧ (∀ cs fz, w.heap[g]? ≠ some (.cells cs e fz))) : Lib.BuilderAt T e B k p bs w' := by
  obtain ⟨hB, v, hb, hown, hne⟩ := h
  refine ⟨hB, v, ?_, hown.kept hg ?_, hne⟩
  · rw [hg.block k (Array.getElem?_eq_some_iff.1 hb).1 (fun e => (hr k e.symm).1 _ _ hb)]; exact hb
  · obtain ⟨_, hv⟩ := hown
    rcases hv with ⟨rfl, _⟩ | ⟨g, cap, cur, rfl, _, hg2, _⟩
    · exact .inl rfl
    · exact .inr (fun e => (hr g e.symm).2 _ _ hg2)
theorem builder_keep {T e B k : Nat} {bs : List Value} {w w' : World} (h : Lib.IsBuilder T e B k bs w) (row : Option Nat) (hg : w.grownBy w' row) (hr : ∀ g, row = some g → (∀ cs fz, w.heap[g]? ≠ some (.cells cs T fz)) ∧ (∀ cs fz, w.heap[g]? ≠ some (.cells cs e fz))) : Lib.IsBuilder T e B k bs w' :=
  h.imp (BuilderAt_keep · row hg hr) (BuilderAt_keep · row hg hr)
theorem builder_below {T e B k : Nat} {bs : List Value} {w w' : World} (h : Lib.IsBuilder T e B k bs w) (hb : Below w.heap.size w w') : Lib.IsBuilder T e B k bs w' :=
  builder_keep h none ⟨hb.os, hb.tape, hb.output, hb.size, fun j hj _ => hb.block j hj⟩ (fun g hg => by cases hg)
theorem builder_alloc {T e B k : Nat} {bs : List Value} {w : World} (h : Lib.IsBuilder T e B k bs w) (o : Obj) : Lib.IsBuilder T e B k bs (w.alloc o) :=
  builder_keep h none (World.grownBy_alloc w o none) (fun g hg => by cases hg)
theorem builder_grown {T e B k base t size n : Nat} {v : Value} {xs bs : List Value} {w w' : World} (h : Lib.IsBuilder T e B k bs w) (hg : w.grownBy w' v.ownBlock) (ho : w.ownsRow base t size v n xs) (h1 : t ≠ T) (h2 : t ≠ e) : Lib.IsBuilder T e B k bs w' :=
  builder_keep h _ hg (fun g hg => by
    obtain ⟨_, hv⟩ := ho
    rcases hv with ⟨rfl, _⟩ | ⟨g', cap, cur, rfl, _, hg2, _⟩
    · cases hg
    · have hgg : some g' = some g := hg
      cases hgg
      exact ⟨fun cs fz e => (by rw [hg2] at e; cases e; exact h1 rfl), fun cs fz e => (by rw [hg2] at e; cases e; exact h2 rfl)⟩)
theorem own_mono {w : World} {base base' e size n : Nat} {v : Value} {xs : List Value} (h : w.ownsRow base e size v n xs) (hb : base' ≤ base) : w.ownsRow base' e size v n xs := by
  obtain ⟨h1, h2⟩ := h
  refine ⟨h1, ?_⟩
  rcases h2 with hn | ⟨g, cap, cur, rfl, hbg, rest⟩
  · exact .inl hn
  · exact .inr ⟨g, cap, cur, rfl, Nat.le_trans hb hbg, rest⟩
theorem drop_end (s : ByteArray) (i : Nat) (h : s.size ≤ i) : s.data.toList.drop i = [] := List.drop_eq_nil_of_le h
theorem at_some (s : ByteArray) (i : Nat) (h : i < s.size) : s.data.toList[i]? = some s[i] := List.getElem?_eq_getElem (show i < s.data.toList.length from h)
theorem at_none (s : ByteArray) (i : Nat) (h : s.size ≤ i) : s.data.toList[i]? = none := List.getElem?_eq_none h
set_option maxRecDepth 100000 in
set_option maxHeartbeats 8000000 in
theorem cut_any (s : ByteArray) (w : World) (hs : s.size ≤ 1099511627) :
    Calls Tryz.prog 17 #[.string s] w (Cutted (cutE s.data.toList 0 0 []) w) := by
  obtain ⟨E, hE⟩ : ∃ E, cutE s.data.toList 0 0 [] = E := ⟨_, rfl⟩
  rw [hE]
  have hE0 : glueC [] (cutE (s.data.toList.drop 0) 0 0 []) = E := by rw [List.drop_zero, hE]; unfold glueC; simp
  have HE0 := Lib.hid hE0
  clear hE hE0
  obtain ⟨i0, hi, hz0, hz1, hz2⟩ := info_parts (show (Tryz.prog.info? PT).map (fun i => (i.zero, i.size, i.bytes)) = some (some (.agg #[.string ⟨#[]⟩, .int .i64 0]), 2, 24) by kernel_rfl)
  have tsl : Tryz.prog.underlying 58 = some (.slice PT) := by kernel_rfl
  go_enter Tryz.func17, Tryz.ntmps17
  go_wp2_with fail
  go_loopw [4, 6, 7] (fun v y z wr => ∃ (i f : Nat) (b : Bytes) (ps : List Piece), y = .int .i64 (f : Int) ∧ z = .int .i64 (i : Int) ∧ i ≤ s.size ∧ f ≤ i ∧ b.length ≤ i ∧ ps.length ≤ i ∧ Hid (glueC ps (cutE (s.data.toList.drop i) i f b) = E) ∧ wr.ownsRow (w.heap.size + 2) PT 2 v ps.length (flatP ps) ∧ Lib.IsBuilder BT U8 (w.heap.size + 1) (w.heap.size + 1) (Lib.byteCells b) wr ∧ Blk PT w.heap.size #[.string ⟨#[]⟩, .int .i64 0] wr ∧ w.heap.size + 2 ≤ wr.heap.size ∧ Below w.heap.size w wr) (fun _ _ z _ => s.size - (intOf z).toNat)
  case atStart =>
    refine ⟨0, 0, [], [], rfl, rfl, Nat.zero_le _, Nat.le_refl _, Nat.le_refl _, Nat.le_refl _, HE0, World.ownsRow_nil _ _ _ _, ?_, (Blk.made w).alloc _, by simp, ((Below.refl _ w).alloc (Nat.le_refl _) _).alloc (by simp) _⟩
    have := Lib.fresh_isBuilder BT U8 (w.alloc (.cells #[.string ⟨#[]⟩, .int .i64 0] PT))
    have e : (w.alloc (Obj.cells #[.string ⟨#[]⟩, .int .i64 0] PT)).heap.size = w.heap.size + 1 := by simp
    rw [e] at this
    exact this
  case round =>
    obtain ⟨i, f, b, ps, rfl, rfl, hi2, hf, hb, hps, hiE, hown, hB, hbk, hwz, hbel⟩ := hrel
    have hcast : ((i + 1 : Nat) : Int) = (i : Int) + 1 := by omega
    obtain ⟨cs0, fz0, hblk⟩ := builder_blk hB
    by_cases hlt : i < s.size
    · by_cases hc : s[i] = 33
      · have hcb : ((s[i].toNat : Int) == 33) = true := by rw [hc]; rfl
        have hcb2 : ((s[i].toNat : Int) != 33) = false := by rw [hc]; rfl
        have hsum2 : IntKind.i64.wrap ((i : Int) + 1) = (i : Int) + 1 := IntWalk.i64_in _ (by omega)
        have hci := at_some s i hlt
        rw [hc] at hci
        by_cases h1 : i + 1 < s.size ∧ s.data.toList[i + 1]? = some 33
        · obtain ⟨h1, h33⟩ := h1
          have hci2 := at_some s (i + 1) h1
          have hd : s[i + 1] = 33 := by rw [h33] at hci2; exact (Option.some.inj hci2).symm
          have hst := cut_twice s.data.toList i f b hci h33
          have h1b : (i : Int) + 1 < (s.size : Int) := by omega
          have hsn : ((i : Int) + 1).toNat = i + 1 := by omega
          have hs0 : (0 : Int) ≤ (i : Int) + 1 := by omega
          have hdb : ((s[i + 1].toNat : Int) == 33) = true := by rw [hd]; rfl
          have hsum3 : IntKind.i64.wrap ((i : Int) + 1 + 1) = (i : Int) + 1 + 1 := IntWalk.i64_in _ (by omega)
          have HST := Lib.hid hst
          clear hc hci hci2 h33 hst hd
          go_wp2_with fail
          refine (writeByte_keep (w.heap.size + 1) (w.heap.size + 1) (Lib.byteCells b) _ _ hB (by rw [Lib.byteCells_length]; omega) (by omega)).mono ?_
          rintro e w2 ⟨rfl, hU, hbel2, hk2⟩
          have hown2 := hk2.own hown (by decide) hblk (by decide)
          go_wp2
          refine ⟨⟨i + 2, f, b ++ [33], ps, rfl, vint (by omega), by omega, by omega, by simp; omega, by omega, ?_, hown2, Or.inr (by simpa [Lib.byteCells] using hU), hbk.below hbel2 (by omega), Nat.le_trans hwz hbel2.size, hbel.trans (hbel2.mono (by omega))⟩, by simp only [intOf]; omega⟩
          exact Lib.hid (by rw [← HST.out]; exact hiE.out)
        · have hn : s.data.toList[i + 1]? ≠ some 33 := by
            intro h
            refine h1 ⟨?_, h⟩
            exact (List.getElem?_eq_some_iff.1 h).1
          have hst := cut_end s.data.toList i f b hci hn
          have hpl := piece_le b f
          have hT := fun v : World => trim_any ⟨b.toArray⟩ f v (by show b.length ≤ _; omega) (by omega)
          rw [show (⟨b.toArray⟩ : ByteArray).data.toList = b from rfl] at hT
          obtain ⟨p, hp⟩ : ∃ p, pieceL b f = p := ⟨_, rfl⟩
          rw [hp] at hT hst
          have hiE2 := hiE.out
          rw [hst, glueC_cons] at hiE2
          have HIE := Lib.hid hiE2
          obtain ⟨ps1, ps2, hpv, hpc⟩ : ∃ (ps1 : ByteArray) (ps2 : Int), pieceV p = .agg #[.string ps1, .int .i64 ps2] ∧ cellsP p = [.string ps1, .int .i64 ps2] := ⟨_, _, rfl, rfl⟩
          rw [hpv] at hT
          have HT := Lib.hid hT
          have HPC := Lib.hid hpc
          clear hT hst hiE hiE2 hp hpv hpc hc hci hpl
          by_cases h1' : i + 1 < s.size
          · have hci2 := at_some s (i + 1) h1'
            have hd : s[i + 1] ≠ 33 := by intro e; rw [e] at hci2; exact hn hci2
            have hdb : ((s[i + 1].toNat : Int) == 33) = false := bne_u8 s[i + 1] 33 (by omega) hd
            have h1b : (i : Int) + 1 < (s.size : Int) := by omega
            have hsn : ((i : Int) + 1).toNat = i + 1 := by omega
            have hs0 : (0 : Int) ≤ (i : Int) + 1 := by omega
            clear hci2 hd hn h1
            go_wp2_with fail
            refine (string_keep (w.heap.size + 1) (w.heap.size + 1) b _ hB (by omega)).mono ?_
            rintro e w2 ⟨rfl, hBd, hb2, hk2⟩
            have hown2 := hk2.own hown (by decide) hblk (by decide)
            have hbk2 := hbk.below hb2 (by omega)
            have hbw2 := hbel.trans (hb2.mono (by omega))
            have hwz2 := Nat.le_trans hwz hb2.size
            clear hB hblk hbel hb2 hk2 hown hbk hwz
            go_wp2_with fail
            refine (HT.out _).mono ?_; rintro e w3 ⟨rfl, hb3⟩
            have hown3 := own_below hown2 hb3
            have hbk3 := hbk2.below hb3 (by omega)
            have hBd3 := hBd.below hb3 (by omega)
            have hbw3 := hbw2.trans (hb3.mono (by omega))
            have hwz3 := Nat.le_trans hwz2 hb3.size
            clear hbw2 hb3 hown2 hbk2 hwz2 hBd
            go_wp2_with (at_builtin; refine wpList_append_own _ rfl _ _ 58 rfl (w.heap.size + 2) PT i0 (.agg #[.string ⟨#[]⟩, .int .i64 0]) 2 24 tsl hi hz0 hz1 hz2 rfl (by decide) _ _ _ rfl (hown3.alloc _) ⟨w3.heap.size, 0, none⟩ 1 1 [.string ps1, .int .i64 ps2] rfl rfl ?c1 ?c2 ?c3 ?c4 ?c5 ?_)
            case c1 => exact cells2 w3 PT _ _
            case c2 => intro u hu; simp at hu; rcases hu with rfl | rfl <;> rfl
            case c3 => unfold maxLen; omega
            case c4 => omega
            case c5 => simp; omega
            intro v' w4 hown4 hgrow _
            rw [← HPC.out, ← flatP_snoc] at hown4
            have hown3a := hown3.alloc (Obj.cells #[.string ps1, .int .i64 ps2] PT)
            have hBd4 : Bd (w.heap.size + 1) w4 := by
              obtain ⟨p0, v0, hp0⟩ := hBd3
              exact ⟨p0, v0, (hgrow.block (w.heap.size + 1) (by simp; omega) (fun e => by have := (hown3a.lt _ e.symm).1; omega)).trans ((Below.heap_alloc w3 _ _ (by omega)).trans hp0)⟩
            obtain ⟨cs4, fz4, hblk4⟩ : ∃ cs fz, w4.heap[w.heap.size + 1]? = some (.cells cs BT fz) := by
              obtain ⟨p0, v0, hp0⟩ := hBd4
              exact ⟨_, _, hp0⟩
            have hbk4 : Blk PT w.heap.size #[.string ⟨#[]⟩, .int .i64 0] w4 := (hgrow.block w.heap.size (by simp; omega) (fun e => by have := (hown3a.lt _ e.symm).1; omega)).trans (hbk3.alloc _)
            have hwz4 : w.heap.size + 2 ≤ w4.heap.size := by have := hgrow.size; simp at this; omega
            have hbw4 : Below w.heap.size w w4 := (hbw3.alloc hbw3.size _).grown hgrow (by simp; omega) (fun k hk => by have := (hown3a.lt k hk).1; omega)
            clear hgrow hown3 hown3a hbw3 hbk3 hBd3
            go_wp2_with fail
            refine (reset_any (w.heap.size + 1) (w.heap.size + 1) _ hBd4 (Nat.le_refl _)).mono ?_; rintro e w5 ⟨rfl, hB5, hb5, hk5⟩
            have hown5 := hk5.own hown4 (by decide) hblk4 (by decide)
            go_wp2_with fail
            exact ⟨⟨i + 1, i + 1, [], ps ++ [p], vint (by omega), vint (by omega), by omega, by omega, by simp, by simp; omega, HIE, by simpa using hown5, hB5, hbk4.below hb5 (by omega), Nat.le_trans hwz4 hb5.size, hbw4.trans (hb5.mono (by omega))⟩, by simp only [intOf]; omega⟩
          · have h1b : ¬ (i : Int) + 1 < (s.size : Int) := by omega
            clear hn h1
            go_wp2_with fail
            refine (string_keep (w.heap.size + 1) (w.heap.size + 1) b _ hB (by omega)).mono ?_
            rintro e w2 ⟨rfl, hBd, hb2, hk2⟩
            have hown2 := hk2.own hown (by decide) hblk (by decide)
            have hbk2 := hbk.below hb2 (by omega)
            have hbw2 := hbel.trans (hb2.mono (by omega))
            have hwz2 := Nat.le_trans hwz hb2.size
            clear hB hblk hbel hb2 hk2 hown hbk hwz
            go_wp2_with fail
            refine (HT.out _).mono ?_; rintro e w3 ⟨rfl, hb3⟩
            have hown3 := own_below hown2 hb3
            have hbk3 := hbk2.below hb3 (by omega)
            have hBd3 := hBd.below hb3 (by omega)
            have hbw3 := hbw2.trans (hb3.mono (by omega))
            have hwz3 := Nat.le_trans hwz2 hb3.size
            clear hbw2 hb3 hown2 hbk2 hwz2 hBd
            go_wp2_with (at_builtin; refine wpList_append_own _ rfl _ _ 58 rfl (w.heap.size + 2) PT i0 (.agg #[.string ⟨#[]⟩, .int .i64 0]) 2 24 tsl hi hz0 hz1 hz2 rfl (by decide) _ _ _ rfl (hown3.alloc _) ⟨w3.heap.size, 0, none⟩ 1 1 [.string ps1, .int .i64 ps2] rfl rfl ?c1 ?c2 ?c3 ?c4 ?c5 ?_)
            case c1 => exact cells2 w3 PT _ _
            case c2 => intro u hu; simp at hu; rcases hu with rfl | rfl <;> rfl
            case c3 => unfold maxLen; omega
            case c4 => omega
            case c5 => simp; omega
            intro v' w4 hown4 hgrow _
            rw [← HPC.out, ← flatP_snoc] at hown4
            have hown3a := hown3.alloc (Obj.cells #[.string ps1, .int .i64 ps2] PT)
            have hBd4 : Bd (w.heap.size + 1) w4 := by
              obtain ⟨p0, v0, hp0⟩ := hBd3
              exact ⟨p0, v0, (hgrow.block (w.heap.size + 1) (by simp; omega) (fun e => by have := (hown3a.lt _ e.symm).1; omega)).trans ((Below.heap_alloc w3 _ _ (by omega)).trans hp0)⟩
            obtain ⟨cs4, fz4, hblk4⟩ : ∃ cs fz, w4.heap[w.heap.size + 1]? = some (.cells cs BT fz) := by
              obtain ⟨p0, v0, hp0⟩ := hBd4
              exact ⟨_, _, hp0⟩
            have hbk4 : Blk PT w.heap.size #[.string ⟨#[]⟩, .int .i64 0] w4 := (hgrow.block w.heap.size (by simp; omega) (fun e => by have := (hown3a.lt _ e.symm).1; omega)).trans (hbk3.alloc _)
            have hwz4 : w.heap.size + 2 ≤ w4.heap.size := by have := hgrow.size; simp at this; omega
            have hbw4 : Below w.heap.size w w4 := (hbw3.alloc hbw3.size _).grown hgrow (by simp; omega) (fun k hk => by have := (hown3a.lt k hk).1; omega)
            clear hgrow hown3 hown3a hbw3 hbk3 hBd3
            go_wp2_with fail
            refine (reset_any (w.heap.size + 1) (w.heap.size + 1) _ hBd4 (Nat.le_refl _)).mono ?_; rintro e w5 ⟨rfl, hB5, hb5, hk5⟩
            have hown5 := hk5.own hown4 (by decide) hblk4 (by decide)
            go_wp2_with fail
            exact ⟨⟨i + 1, i + 1, [], ps ++ [p], vint (by omega), vint (by omega), by omega, by omega, by simp, by simp; omega, HIE, by simpa using hown5, hB5, hbk4.below hb5 (by omega), Nat.le_trans hwz4 hb5.size, hbw4.trans (hb5.mono (by omega))⟩, by simp only [intOf]; omega⟩
      · have hcb : ((s[i].toNat : Int) == 33) = false := bne_u8 s[i] 33 (by omega) hc
        have hcb2 : ((s[i].toNat : Int) != 33) = true := by simp [bne, hcb]
        have hst := cut_other s.data.toList i f b _ (at_some s i hlt) hc
        have hsum2 : IntKind.i64.wrap ((i : Int) + 1) = (i : Int) + 1 := IntWalk.i64_in _ (by omega)
        have HST := Lib.hid hst
        clear hst hc
        go_wp2_with fail
        refine (writeByte_keep (w.heap.size + 1) (w.heap.size + 1) (Lib.byteCells b) _ _ hB (by rw [Lib.byteCells_length]; omega) (by omega)).mono ?_
        rintro e w2 ⟨rfl, hU, hbel2, hk2⟩
        have hown2 := hk2.own hown (by decide) hblk (by decide)
        go_wp2
        refine ⟨⟨i + 1, f, b ++ [s[i]], ps, rfl, vint (by omega), by omega, by omega, by simp; omega, by omega, ?_, hown2, Or.inr (by simpa [Lib.byteCells] using hU), hbk.below hbel2 (by omega), Nat.le_trans hwz hbel2.size, hbel.trans (hbel2.mono (by omega))⟩, by simp only [intOf]; omega⟩
        exact Lib.hid (by rw [← HST.out]; exact hiE.out)
    · have hii : i = s.size := by omega
      have hT := fun v : World => trim_any ⟨b.toArray⟩ f v (by show b.length ≤ _; omega) (by omega)
      rw [show (⟨b.toArray⟩ : ByteArray).data.toList = b from rfl] at hT
      have hE2 : E = (ps, f, b) := by rw [← hiE.out, drop_end s i (by omega)]; simp [cutE, glueC]
      subst hE2
      obtain ⟨ps1, ps2, hpv⟩ : ∃ (ps1 : ByteArray) (ps2 : Int), pieceV (pieceL b f) = .agg #[.string ps1, .int .i64 ps2] := ⟨_, _, rfl⟩
      rw [hpv] at hT
      have HT := Lib.hid hT
      have HPV := Lib.hid hpv
      clear hT hiE hpv
      go_wp2_with fail
      refine (string_keep (w.heap.size + 1) (w.heap.size + 1) b _ hB (by omega)).mono ?_
      rintro e w2 ⟨rfl, hBd, hb2, hk2⟩
      have hown2 := hk2.own hown (by decide) hblk (by decide)
      have hbk2 := hbk.below hb2 (by omega)
      have hbw2 := hbel.trans (hb2.mono (by omega))
      have hwz2 := Nat.le_trans hwz hb2.size
      clear hbel hb2 hk2 hown hbk hwz
      go_wp2_with fail
      refine (HT.out _).mono ?_; rintro e w3 ⟨rfl, hb3⟩
      have hown3 := own_below hown2 hb3
      have hbk := hbk2.below hb3 (by omega)
      have hbel3 := hbw2.trans (hb3.mono (by omega))
      have e0 := hbk.c 0 _ rfl
      have e1 := hbk.c 1 _ rfl
      have ef := hbk.fz
      clear hB hblk
      go_wp2_with fail
      refine bodyPost_ret (v := .tuple #[_, .agg #[.string ps1, .int .i64 ps2]]) (by simp [results, Tryz.results17, go_sem, e0, e1]; rfl) rfl ?_
      refine ⟨(hbel3.setCell (p := ⟨w.heap.size, 0, none⟩) (Nat.le_refl _) _).setCell (p := ⟨w.heap.size, 1, none⟩) (Nat.le_refl _) _, _, by rw [show restL (ps, f, b) = pieceL b f from rfl, HPV.out], ?_⟩
      exact own_mono (ownsRow_setCell_below (ownsRow_setCell_below hown3 (a := ⟨w.heap.size, 0, none⟩) (by show w.heap.size < _; omega) _) (a := ⟨w.heap.size, 1, none⟩) (by show w.heap.size < _; omega) _) (by omega)
end Ck
end Go.Proofs.YthdigbkcffihkaaGreatDoor
namespace Go.Proofs.YthdigbkcffihkaaGreatDoor
open Go.RowKit
namespace Ck
open Lx
abbrev ST : Nat := 9
def strV (b : Bytes) : Value := .string ⟨b.toArray⟩
def nb (c : UInt8) : Bool := !Lx.blank c
/-- What words hands back. -/
def Worded (l : List Bytes) (w : World) (e : Ending) (w' : World) : Prop := Below w.heap.size w w' ∧ ∃ v, e = .returned v ∧ w'.ownsRow w.heap.size ST 1 v l.length (l.map strV)
theorem tw_drop (p : UInt8 → Bool) : ∀ l : Bytes, l.dropWhile p = l.drop (l.takeWhile p).length ∧ l.takeWhile p = l.take (l.takeWhile p).length
  | [] => ⟨rfl, rfl⟩
  | c :: l => by
    obtain ⟨h1, h2⟩ := tw_drop p l
    cases hp : p c with
    | true =>
      rw [List.dropWhile_cons, if_pos hp, List.takeWhile_cons, if_pos hp, List.length_cons, List.drop_succ_cons, List.take_succ_cons]
      exact ⟨h1, by rw [← h2]⟩
    | false => rw [List.dropWhile_cons, List.takeWhile_cons, hp]; exact ⟨rfl, rfl⟩
theorem words_round (r : ByteArray) (f m : Nat) (hm : (r.data.toList.takeWhile nb).length = m) (hne : ¬ r.data.toList = []) :
    wordsF (f + 1) r.data.toList = (r.extract 0 m).data.toList :: wordsF f (Lib.trimLeftS (r.extract m r.size).data.toList blanksL) := by
  obtain ⟨h1, h2⟩ := tw_drop nb r.data.toList
  have e1 : (r.extract 0 m).data.toList = r.data.toList.takeWhile nb := by rw [ext_list, h2, hm, List.drop_zero]
  have e2 : (r.extract m r.size).data.toList = r.data.toList.dropWhile nb := by
    rw [ext_list, h1, hm]
    show (List.take r.data.toList.length r.data.toList).drop m = _
    rw [List.take_length]
  rw [e1, e2]
  conv => lhs; rw [wordsF]
  rw [if_neg hne]
  rfl
theorem trimL_head (l : Bytes) (c : UInt8) (t : Bytes) (h : Lib.trimLeftS l blanksL = c :: t) : nb c = true := by
  unfold Lib.trimLeftS at h
  induction l with
  | nil => cases h
  | cons d l ih =>
    rw [List.dropWhile_cons] at h
    cases hd : blanksL.contains d with
    | true => rw [if_pos hd] at h; exact ih h
    | false =>
      rw [hd] at h
      cases h
      unfold nb Lx.blank
      rw [hd]; rfl
/-- No blank is ahead. -/
def Ahead (r : Bytes) : Prop := ∀ c t, r = c :: t → nb c = true
theorem word_some (r : ByteArray) (h : Ahead r.data.toList) (hne : ¬ r.data.toList = []) : 0 < (r.data.toList.takeWhile nb).length := by
  obtain ⟨c, t, e⟩ := List.exists_cons_of_ne_nil hne
  rw [e, List.takeWhile_cons, if_pos (h c t e)]
  simp
theorem cells1 (W : World) (T : TypeId) (v0 : Value) : ∀ j u, [v0][j]? = some u → (W.alloc (.cells #[v0] T)).cell? ((⟨W.heap.size, 0, none⟩ : Addr).add j) = some u := by
  intro j u hj
  match j, hj with
  | 0, hj => simp at hj; subst hj; simp [Addr.add]
  | n + 1, hj => simp at hj
theorem blankIdx_any (c : UInt8) (w : World) : Calls Tryz.prog 81 #[.string ⟨#[32, 9, 10, 13]⟩, .int .u8 (c.toNat : Int)] w fun e w' => e = .returned (.int .i64 (Lib.indexByte blanksL c)) ∧ w' = w := by
  have := Tryz.strings_IndexByte ⟨#[32, 9, 10, 13]⟩ (c.toNat : Int) w
  rw [u8_back, show (⟨#[32, 9, 10, 13]⟩ : ByteArray).data.toList = blanksL from rfl] at this
  exact this
theorem nb_idx (c : UInt8) (h : nb c = true) : Lib.indexByte blanksL c < 0 := by
  rcases Int.lt_or_le (Lib.indexByte blanksL c) 0 with h1 | h1
  · exact h1
  · have := (index_mem blanksL c).1 h1
    unfold nb Lx.blank at h
    rw [this] at h; cases h
theorem bl_idx (c : UInt8) (h : nb c = false) : ¬ Lib.indexByte blanksL c < 0 := by
  have : 0 ≤ Lib.indexByte blanksL c := (index_mem blanksL c).2 (by unfold nb Lx.blank at h; simpa using h)
  omega
set_option maxRecDepth 100000 in
set_option maxHeartbeats 8000000 in
theorem words_any (s : ByteArray) (w : World) (hs : s.size ≤ 1099511627) :
    Calls Tryz.prog 55 #[.string s] w (Worded (wordsL s.data.toList) w) := by
  obtain ⟨E, hE⟩ : ∃ E, wordsL s.data.toList = E := ⟨_, rfl⟩
  rw [hE]
  have hT := fun v : World => trimBoth_any s v (by omega)
  have hL := fun (r : ByteArray) (v : World) => trimLeft_any r v
  obtain ⟨t, ht⟩ : ∃ t : ByteArray, (⟨(Lib.trimS s.data.toList blanksL).toArray⟩ : ByteArray) = t := ⟨_, rfl⟩
  have htd : t.data.toList = Lib.trimS s.data.toList blanksL := by rw [← ht]
  have hts : t.size ≤ s.size := by
    show t.data.toList.length ≤ s.data.toList.length
    rw [htd]
    exact Nat.le_trans (trimL_le _) (trimR_le _)
  have htA : Ahead t.data.toList := by rw [htd]; exact fun c r e => trimL_head _ c r e
  have hE0 : [] ++ wordsF (s.size + 1) t.data.toList = E := by rw [htd]; exact hE
  rw [ht] at hT
  have HE0 := Lib.hid hE0
  have HT := Lib.hid hT
  have HL := Lib.hid hL
  clear hE hT hL ht htd hE0
  obtain ⟨i0, hi, hz0, hz1, hz2⟩ := info_parts (show (Tryz.prog.info? ST).map (fun i => (i.zero, i.size, i.bytes)) = some (some (.string ⟨#[]⟩), 1, 16) by kernel_rfl)
  have tsl : Tryz.prog.underlying 38 = some (.slice ST) := by kernel_rfl
  go_enter Tryz.func55, Tryz.ntmps55
  go_wp2_with fail
  refine (HT.out _).mono ?_; rintro e w1 ⟨rfl, hb1⟩
  go_wp2_with fail
  go_loopw [0, 3] (fun y v wr => ∃ (r : ByteArray) (f : Nat) (acc : List Bytes), y = .string r ∧ r.size < f ∧ acc.length + f = s.size + 1 ∧ Ahead r.data.toList ∧ Hid (acc ++ wordsF f r.data.toList = E) ∧ wr.ownsRow w.heap.size ST 1 v acc.length (acc.map strV) ∧ Below w.heap.size w wr) (fun y _ _ => match y with | .string r => r.size | _ => 0)
  case atStart => exact ⟨t, s.size + 1, [], rfl, by omega, by simp, htA, HE0, World.ownsRow_nil _ _ _ _, hb1⟩
  case round =>
    obtain ⟨r, f, acc, rfl, hrf, haf, hA, hiE, hown, hbel⟩ := hrel
    by_cases hr0 : r.toList = []
    · have hE2 : E = acc := by
        rw [ByteArray.toList_eq] at hr0
        rw [← hiE.out, hr0]
        cases f with
        | zero => simp [wordsF]
        | succ f => simp [wordsF]
      subst hE2
      have hr1 : r.toList.isEmpty = true := by rw [hr0]; rfl
      go_wp2_with fail
      go_ret
      exact ⟨hbel, _, rfl, hown⟩
    · have hr1 : r.toList.isEmpty = false := by cases h : r.toList with | nil => exact absurd h hr0 | cons _ _ => rfl
      have hr2 : ¬ r.data.toList = [] := by rwa [ByteArray.toList_eq] at hr0
      obtain ⟨m, hm⟩ : ∃ m, (r.data.toList.takeWhile nb).length = m := ⟨_, rfl⟩
      have hm0 := word_some r hA hr2
      have H1 : ((r.data.toList.drop 0).takeWhile nb).length = m := by rw [List.drop_zero]; exact hm
      have H2 : m ≤ r.size := by have := tw_fit nb r 0 (Nat.zero_le _); rw [H1] at this; omega
      have H3 : ∀ j, (h : j < r.size) → j < m → nb r[j] = true := fun j h h2 => tw_in nb r 0 j h (Nat.zero_le _) (by rw [H1]; omega)
      have H4 : (h : m < r.size) → nb r[m] = false := fun h => by
        have := tw_out nb r 0 (by rw [H1]; omega)
        simp only [List.drop_zero, Nat.zero_add] at this
        subst hm; exact this
      obtain ⟨f', rfl⟩ : ∃ f', f = f' + 1 := ⟨f - 1, by omega⟩
      have hst := words_round r f' m hm hr2
      rw [hm] at hm0
      have HST := Lib.hid hst
      have HH3 := Lib.hid H3
      have HH4 := Lib.hid H4
      clear hst hm H1 hr2 H3 H4
      obtain ⟨wo, rfl⟩ : ∃ wo : World, wo = wr := ⟨_, rfl⟩
      go_wp2_with fail
      go_loopw [4] (fun y wr => ∃ k : Nat, y = .int .i64 (k : Int) ∧ k ≤ m ∧ ∃ q, wr = wo.drewN q) (fun y _ => m - (intOf y).toNat)
      case atStart => exact ⟨0, rfl, Nat.zero_le _, 0, rfl⟩
      case round =>
        obtain ⟨k, rfl, hk, q, rfl⟩ := hrel
        by_cases hkm : k < m
        · have hkr : k < r.size := by omega
          have hp := nb_idx _ (HH3.out k hkr hkm)
          have hcon := fun w : World => blankIdx_any r[k] w
          obtain ⟨x, hx⟩ : ∃ x, Lib.indexByte blanksL r[k] = x := ⟨_, rfl⟩
          rw [hx] at hp hcon
          have hsum : IntKind.i64.wrap ((k : Int) + 1) = (k : Int) + 1 := IntWalk.i64_in _ (by omega)
          clear hx
          go_wp2_with fail
          refine (hcon _).mono ?_; rintro e w' ⟨rfl, rfl⟩
          go_wp2_with fail
          exact ⟨⟨k + 1, vint (by omega), by omega, q, rfl⟩, by simp only [intOf]; omega⟩
        · obtain rfl : k = m := by omega
          by_cases hlt : k < r.size
          · have hp := bl_idx _ (HH4.out hlt)
            have hcon := fun w : World => blankIdx_any r[k] w
            obtain ⟨x, hx⟩ : ∃ x, Lib.indexByte blanksL r[k] = x := ⟨_, rfl⟩
            rw [hx] at hp hcon
            clear hx
            go_wp2_with fail
            refine (hcon _).mono ?_; rintro e w' ⟨rfl, rfl⟩
            obtain ⟨W, hW⟩ : ∃ W, wo.drewN q = W := ⟨_, rfl⟩
            have hbW : Below w.heap.size w W := by rw [← hW]; exact Below_drewN hbel _
            have hownW : (wo.drewN q).ownsRow _ _ _ _ _ _ := hown
            rw [hW] at hownW ⊢
            clear hW hown hbel
            obtain ⟨wd, hwd⟩ : ∃ wd, r.extract 0 k = wd := ⟨_, rfl⟩
            obtain ⟨r2, hr2⟩ : ∃ r2, r.extract k r.size = r2 := ⟨_, rfl⟩
            have hr2s : r2.size = r.size - k := by rw [← hr2]; exact ext_size r k r.size H2 (Nat.le_refl _)
            go_wp2_with (at_builtin; refine wpList_append_own _ rfl _ _ 38 rfl w.heap.size ST i0 (.string ⟨#[]⟩) 1 16 tsl hi hz0 hz1 hz2 rfl (by decide) _ _ _ rfl (hownW.alloc _) ⟨W.heap.size, 0, none⟩ 1 1 [.string wd] rfl rfl ?c1 ?c2 ?c3 ?c4 ?c5 ?_)
            case c1 => exact cells1 W ST _
            case c2 => intro u hu; simp at hu; rcases hu with rfl; rfl
            case c3 => unfold maxLen; omega
            case c4 => omega
            case c5 => have := hbW.size; simp; omega
            intro v' w4 hown4 hgrow _
            have hbw4 : Below w.heap.size w w4 := (hbW.alloc hbW.size _).grown hgrow (by have := hbW.size; simp; omega) (fun k hk => ((hownW.alloc (Obj.cells #[.string wd] ST)).lt k hk).1)
            clear hgrow
            go_wp2_with fail
            refine (HL.out _ _).mono ?_; rintro e w5 ⟨rfl, hb5⟩
            have hown5 := own_below hown4 hb5
            have hbel5 := hbw4.trans (hb5.mono hbw4.size)
            clear hown4 hb5 hbw4 hownW hbW
            go_wp2_with fail
            obtain ⟨r3, hr3⟩ : ∃ r3 : ByteArray, (⟨(Lib.trimLeftS r2.data.toList blanksL).toArray⟩ : ByteArray) = r3 := ⟨_, rfl⟩
            have hr3d : r3.data.toList = Lib.trimLeftS r2.data.toList blanksL := by rw [← hr3]
            have hr3s : r3.size ≤ r2.size := by
              show r3.data.toList.length ≤ r2.data.toList.length
              rw [hr3d]; exact trimL_le _
            have hst := HST.out
            rw [hwd, hr2, ← hr3d] at hst
            have hs3 : strV wd.data.toList = .string wd := by unfold strV; rw [Array.toArray_toList]
            rw [hr3]
            have hmap : (acc ++ [wd.data.toList]).map strV = acc.map strV ++ [.string wd] := by rw [List.map_append, List.map_cons, List.map_nil, hs3]
            exact ⟨⟨r3, f', acc ++ [wd.data.toList], rfl, by omega, by simp; omega, by rw [hr3d]; exact fun c t e => trimL_head _ c t e, Lib.hid (by rw [List.append_assoc, List.singleton_append, ← hst]; exact hiE.out), by rw [hmap, List.length_append, List.length_singleton]; exact hown5, hbel5⟩, by show r3.size < r.size; omega⟩
      
          · obtain ⟨W, hW⟩ : ∃ W, wo.drewN q = W := ⟨_, rfl⟩
            have hbW : Below w.heap.size w W := by rw [← hW]; exact Below_drewN hbel _
            have hownW : (wo.drewN q).ownsRow _ _ _ _ _ _ := hown
            rw [hW] at hownW ⊢
            clear hW hown hbel
            obtain ⟨wd, hwd⟩ : ∃ wd, r.extract 0 k = wd := ⟨_, rfl⟩
            obtain ⟨r2, hr2⟩ : ∃ r2, r.extract k r.size = r2 := ⟨_, rfl⟩
            have hr2s : r2.size = r.size - k := by rw [← hr2]; exact ext_size r k r.size H2 (Nat.le_refl _)
            go_wp2_with (at_builtin; refine wpList_append_own _ rfl _ _ 38 rfl w.heap.size ST i0 (.string ⟨#[]⟩) 1 16 tsl hi hz0 hz1 hz2 rfl (by decide) _ _ _ rfl (hownW.alloc _) ⟨W.heap.size, 0, none⟩ 1 1 [.string wd] rfl rfl ?c1 ?c2 ?c3 ?c4 ?c5 ?_)
            case c1 => exact cells1 W ST _
            case c2 => intro u hu; simp at hu; rcases hu with rfl; rfl
            case c3 => unfold maxLen; omega
            case c4 => omega
            case c5 => have := hbW.size; simp; omega
            intro v' w4 hown4 hgrow _
            have hbw4 : Below w.heap.size w w4 := (hbW.alloc hbW.size _).grown hgrow (by have := hbW.size; simp; omega) (fun k hk => ((hownW.alloc (Obj.cells #[.string wd] ST)).lt k hk).1)
            clear hgrow
            go_wp2_with fail
            refine (HL.out _ _).mono ?_; rintro e w5 ⟨rfl, hb5⟩
            have hown5 := own_below hown4 hb5
            have hbel5 := hbw4.trans (hb5.mono hbw4.size)
            clear hown4 hb5 hbw4 hownW hbW
            go_wp2_with fail
            obtain ⟨r3, hr3⟩ : ∃ r3 : ByteArray, (⟨(Lib.trimLeftS r2.data.toList blanksL).toArray⟩ : ByteArray) = r3 := ⟨_, rfl⟩
            have hr3d : r3.data.toList = Lib.trimLeftS r2.data.toList blanksL := by rw [← hr3]
            have hr3s : r3.size ≤ r2.size := by
              show r3.data.toList.length ≤ r2.data.toList.length
              rw [hr3d]; exact trimL_le _
            have hst := HST.out
            rw [hwd, hr2, ← hr3d] at hst
            have hs3 : strV wd.data.toList = .string wd := by unfold strV; rw [Array.toArray_toList]
            rw [hr3]
            have hmap : (acc ++ [wd.data.toList]).map strV = acc.map strV ++ [.string wd] := by rw [List.map_append, List.map_cons, List.map_nil, hs3]
            exact ⟨⟨r3, f', acc ++ [wd.data.toList], rfl, by omega, by simp; omega, by rw [hr3d]; exact fun c t e => trimL_head _ c t e, Lib.hid (by rw [List.append_assoc, List.singleton_append, ← hst]; exact hiE.out), by rw [hmap, List.length_append, List.length_singleton]; exact hown5, hbel5⟩, by show r3.size < r.size; omega⟩
      
end Ck
end Go.Proofs.YthdigbkcffihkaaGreatDoor
namespace Go.Proofs.YthdigbkcffihkaaGreatDoor
open Go.RowKit
namespace Ck
open Lx
set_option maxRecDepth 100000 in
theorem name_any (s : ByteArray) (w : World) (hs : s.size ≤ 140737488351232) : Calls Tryz.prog 49 #[.string s] w (Back (.bool (named s.data.toList)) w) := by
  have hA := fun v : World => Arity_any s v hs
  have hn : named s.data.toList = (arityL s.data.toList == 0) := rfl
  obtain ⟨n, hnn⟩ : ∃ n, arityL s.data.toList = n := ⟨_, rfl⟩
  rw [hnn] at hA hn
  have HA := Lib.hid hA
  have HN := Lib.hid hn
  rw [hn]
  clear hA hn hnn
  go_enter Tryz.func49, Tryz.ntmps49
  go_wp2_with fail
  refine (HA.out _).mono ?_; rintro e w1 ⟨rfl, hb1⟩
  go_wp2_with fail
  go_ret
  exact ⟨rfl, hb1⟩
theorem rows_below {g : Nat} {l : List Tok} {w w' : World} (h : Rows_ g l w) (hb : Below w.heap.size w w') (hg : g < w.heap.size) : Rows_ g l w' := fun i t ht => by
  obtain ⟨h0, h1, h2, h3⟩ := h i t ht
  exact ⟨(hb.cell (p := ⟨g, _, none⟩) hg).trans h0, (hb.cell (p := ⟨g, _, none⟩) hg).trans h1, (hb.cell (p := ⟨g, _, none⟩) hg).trans h2, (hb.cell (p := ⟨g, _, none⟩) hg).trans h3⟩
def tk (x : Nat × Bytes) : Tok := ⟨x.1, x.2, 0, 0⟩
theorem fits_len : ∀ (sh : List (Nat × Bytes)) (l : List Tok), sh.length ≠ l.length → fitsL sh l = false
  | [], [], h => absurd rfl h
  | [], _ :: _, _ => rfl
  | _ :: _, [], _ => rfl
  | s :: r, t :: l, h => by
    unfold fitsL
    rw [fits_len r l (by simpa using h)]
    simp
variable {sh : List (Nat × Bytes)} {l : List Tok} {gs g cs cl n m : Nat} {w : World}
set_option maxRecDepth 100000 in
set_option maxHeartbeats 1600000 in
theorem fits_any (hs : Rows_ gs (sh.map tk) w) (hl : Rows_ g l w) (hgs : gs < w.heap.size) (hg : g < w.heap.size) (hn : sh.length = n) (hm : l.length = m) (hn6 : n ≤ 6) (hm2 : m ≤ 1099511627776) (hcs : n ≤ cs) (hcl : m ≤ cl) :
    Calls Tryz.prog 38 #[.slice (some ⟨gs, 0, none⟩) n cs, .slice (some ⟨g, 0, none⟩) m cl] w (Back (.bool (fitsL sh l)) w) := by
  obtain ⟨E, hE⟩ : ∃ E, fitsL sh l = E := ⟨_, rfl⟩
  have hlen := fits_len sh l
  rw [hn, hm] at hlen
  rw [hE] at hlen ⊢
  have hE0 : fitsL (sh.drop 0) (l.drop 0) = E := hE
  have HE0 := Lib.hid hE0
  have HS := Lib.hid hs
  have HL := Lib.hid hl
  have HN := Lib.hid hn
  have HM := Lib.hid hm
  by_cases hnm : n = m
  · subst hnm
    have hne : ((n : Int) != (n : Int)) = false := by simp
    clear hE hE0 hs hl hn hm hlen
    go_enter Tryz.func38, Tryz.ntmps38
    go_wp2_with fail
    go_loopw [14] (fun y wr => ∃ k : Nat, y = .int .i64 (k : Int) ∧ k ≤ n ∧ Hid (fitsL (sh.drop k) (l.drop k) = E) ∧ Below w.heap.size w wr) (fun y _ => n - (intOf y).toNat)
    case atStart => exact ⟨0, rfl, Nat.zero_le _, HE0, Below.refl _ _⟩
    case round =>
      obtain ⟨k, rfl, hk, hiE, hbr⟩ := hrel
      by_cases hkn : k < n
      · have hdec : decide ((k : Int) < (n : Int)) = true := by simpa using hkn
        have hkw : IntKind.i64.wrap ((k : Int) + 1) = (k : Int) + 1 := IntWalk.i64_in _ (by omega)
        obtain ⟨x, hx⟩ : ∃ x, sh[k]? = some x := ⟨_, List.getElem?_eq_getElem (by rw [HN.out]; exact hkn)⟩
        obtain ⟨u, hu⟩ : ∃ u, l[k]? = some u := ⟨_, List.getElem?_eq_getElem (by rw [HM.out]; exact hkn)⟩
        obtain ⟨r0, r1, r2, r3⟩ := (rows_below HS.out hbr hgs) k (tk x) (by rw [List.getElem?_map, hx]; rfl)
        obtain ⟨q0, q1, q2, q3⟩ := (rows_below HL.out hbr hg) k u hu
        have e1 : sh.drop k = x :: sh.drop (k + 1) := by
          obtain ⟨h1, h2⟩ := List.getElem?_eq_some_iff.1 hx
          rw [List.drop_eq_getElem_cons h1, h2]
        have e2 : l.drop k = u :: l.drop (k + 1) := by
          obtain ⟨h1, h2⟩ := List.getElem?_eq_some_iff.1 hu
          rw [List.drop_eq_getElem_cons h1, h2]
        have hst := hiE.out
        rw [e1, e2] at hst
        unfold fitsL at hst
        have hf1 : fits1 x u = (u.kind == x.1 && (x.2.isEmpty || u.word == x.2)) := rfl
        have hgr : gs < wr.heap.size := Nat.lt_of_lt_of_le hgs hbr.size
        have hgr2 : g < wr.heap.size := Nat.lt_of_lt_of_le hg hbr.size
        replace r0 : _ = some (Value.int .i64 (x.1 : Int)) := r0
        replace r1 : _ = some (Value.string ⟨x.2.toArray⟩) := r1
        replace r2 : _ = some (Value.int .i64 0) := r2
        replace r3 : _ = some (Value.int .i64 0) := r3
        obtain ⟨wx, hwx⟩ : ∃ wx : ByteArray, (⟨x.2.toArray⟩ : ByteArray) = wx := ⟨_, rfl⟩
        obtain ⟨wu, hwu⟩ : ∃ wu : ByteArray, (⟨u.word.toArray⟩ : ByteArray) = wu := ⟨_, rfl⟩
        have hwx2 : wx.toList = x.2 := by rw [ByteArray.toList_eq, ← hwx]
        have hwu2 : wu.toList = u.word := by rw [ByteArray.toList_eq, ← hwu]
        obtain ⟨kx, hkx⟩ : ∃ kx : Int, (x.1 : Int) = kx := ⟨_, rfl⟩
        obtain ⟨ku, hku⟩ : ∃ ku : Int, (u.kind : Int) = ku := ⟨_, rfl⟩
        have hkk : (u.kind == x.1) = (ku == kx) := by rw [← hku, ← hkx, Bool.eq_iff_iff, beq_iff_eq, beq_iff_eq]; omega
        rw [hkk, ← hwx2, ← hwu2] at hf1
        rw [hwx] at r1
        rw [hwu] at q1
        rw [hkx] at r0
        rw [hku] at q0
        rw [hf1] at hst
        have HST := Lib.hid hst
        clear hf1 hst hkk hwx2 hwu2 hwx hwu hkx hku hx hu e1 e2 hiE
        go_wp2_with fail
        obtain ⟨W7, hW⟩ : ∃ W7, wr.alloc (Obj.cells #[.int .i64 kx, .string wx, .int .i64 0, .int .i64 0] TT) = W7 := ⟨_, rfl⟩
        have hal : Below wr.heap.size wr W7 := by rw [← hW]; exact (Below.refl _ _).alloc (Nat.le_refl _) _
        have htk : Tk TT wr.heap.size kx wx 0 0 W7 := by rw [← hW]; exact Tk.made wr
        rw [hW]
        have p0 := (hal.cell (p := ⟨g, _, none⟩) hgr2).trans q0
        have p1 := (hal.cell (p := ⟨g, _, none⟩) hgr2).trans q1
        have t0 := htk.c0
        have t1 := htk.c1
        have hb7 := hbr.trans (hal.mono hbr.size)
        clear hW q0 q1 q2 q3 r0 r1 r2 r3 hal htk
        by_cases hk1 : ku = kx
        · subst hk1
          have hkb : (ku != ku) = false := by simp
          by_cases hw1 : wx.toList = []
          · have hwb : wx.toList.isEmpty = true := by rw [hw1]; rfl
            go_quiet (fail)
            go_wp2_with fail
            exact ⟨⟨k + 1, vint (by omega), by omega, Lib.hid (by have := HST.out; rw [hw1] at this; simpa using this), Below_drewN hb7 _⟩, by simp only [intOf]; omega⟩
          · have hwb : wx.toList.isEmpty = false := by cases h : wx.toList with | nil => exact absurd h hw1 | cons _ _ => rfl
            by_cases hw2 : wu = wx
            · subst hw2
              go_quiet (fail)
              go_wp2_with fail
              exact ⟨⟨k + 1, vint (by omega), by omega, Lib.hid (by have := HST.out; simpa using this), Below_drewN hb7 _⟩, by simp only [intOf]; omega⟩
            · have hwe := str_ne hw2
              go_quiet (fail)
              go_wp2_with fail
              go_ret
              have hE1 : E = false := by have := HST.out; rw [hwb, hwe] at this; simpa using this.symm
              rw [hE1]
              exact ⟨rfl, Below_drewN hb7 _⟩
        · have hkb : (ku != kx) = true := by simpa using hk1
          have hkb2 : (ku == kx) = false := by simpa using hk1
          go_quiet (fail)
          go_wp2_with fail
          go_ret
          have hE1 : E = false := by have := HST.out; rw [hkb2] at this; simpa using this.symm
          rw [hE1]
          exact ⟨rfl, Below_drewN hb7 _⟩
      · have hdec : decide ((k : Int) < (n : Int)) = false := by simpa using hkn
        have hE1 : E = true := by
          rw [← hiE.out, List.drop_eq_nil_of_le (by rw [HN.out]; omega), List.drop_eq_nil_of_le (by rw [HM.out]; omega)]; rfl
        clear hiE
        go_wp2_with fail
        go_ret
        rw [hE1]
        exact ⟨rfl, hbr⟩
  · have hE1 := hlen hnm
    have hne : ((m : Int) != (n : Int)) = true := by simp; omega
    rw [hE1]
    clear hE hE0 hs hl hn hm hlen
    go_enter Tryz.func38, Tryz.ntmps38
    go_wp2_with fail
    go_ret
    exact ⟨rfl, Below.refl _ _⟩
/-- A shape's block. -/
def ShAt (v : Value) (sh : List (Nat × Bytes)) (w : World) : Prop := ∃ g, v = .slice (some ⟨g, 0, none⟩) sh.length sh.length ∧ g < w.heap.size ∧ Rows_ g (sh.map tk) w
theorem rows_cells {l : List Tok} {g : Nat} {cs : List Value} {w : World} (h : Blk TT g cs.toArray w) (hc : cs = flat l) : Rows_ g l w := by
  intro i t ht
  have hh : ∀ j u, (cellsT t)[j]? = some u → w.cell? ⟨g, i * 4 + j, none⟩ = some u := fun j u hu => h.c _ u (by rw [List.getElem?_toArray, hc]; exact flat_at l i t ht j u hu)
  exact ⟨hh 0 _ rfl, hh 1 _ rfl, hh 2 _ rfl, hh 3 _ rfl⟩
theorem ShAt.mk {sh : List (Nat × Bytes)} {g : Nat} {cs : Array Value} {w : World} (h : Blk TT g cs w) (hc : cs = (flat (sh.map tk)).toArray) : ShAt (.slice (some ⟨g, 0, none⟩) sh.length sh.length) sh w := by
  subst hc
  exact ⟨g, rfl, h.lt, rows_cells h rfl⟩
end Ck
end Go.Proofs.YthdigbkcffihkaaGreatDoor
