/- The reader's two cells; what becomes of memory where they alone are written. No program. · A token's block: four cells; what keeps it. No program. · Package lex, the walk, 1: bytes of a kind; a byte ahead. · Package lex, the walk, 2: operators; the kinds of bytes that 'run' is given. · Package lex, the walk, 3: run (one text for each kind of bytes; wip/gen/gen_run.py prints this). · Package lex, the walk, 4: name, colon, stop, word. · Package lex, the walk, 5: word, oper. · Package lex, the walk, 6: keywords. · Package lex, the walk, 7: skip. · strings.Builder's copyCheck and WriteByte at this program, walked by hand (Derived/Shelf/Strings/Builder1's proof turned): the shelf can't lay them. · Package lex, the walk, 8: text. -/
import Derived.WalkKit
import Derived.Deep.Draws
import Derived.Deep.AppendLies
import Derived.Maps.AppendAt
import Derived.Lib.Hide
import Derived.Deep.Heap
import Derived.Test.YtmmgfifpjifjnaaGreatDoorProg
import Derived.Test.YtmmgfifpjifjnaaGreatDoorLxP0
import Derived.WalkSpells
import Derived.WalkLawsBesides
import Derived.Below
import Derived.Deep.QuietTactic
import Derived.BigQuiet
import Derived.Deep.RegionWith
import Derived.Test.YtmmgfifpjifjnaaGreatDoorShelf
import Derived.Shelf.Strings.Builder1
set_option linter.unusedVariables false
namespace Go.Proofs.YtmmgfifpjifjnaaGreatDoor
open Go.RowKit
namespace Lx
def Rd (T b : Nat) (s : ByteArray) (at_ : Nat) (w : World) : Prop := w.heap[b]? = some (.cells #[.string s, .int .i64 (at_ : Int)] T (0, 0))
section
variable {T b : Nat} {s : ByteArray} {at_ : Nat} {w w' : World}
theorem Rd.c0 (h : Rd T b s at_ w) : w.cell? ⟨b, 0, none⟩ = some (.string s) := by
 have := cell_of_row w b 0 _ T (0, 0) h; simpa using this
theorem Rd.c1 (h : Rd T b s at_ w) : w.cell? ⟨b, 1, none⟩ = some (.int .i64 (at_ : Int)) := by
 have := cell_of_row w b 1 _ T (0, 0) h; simpa using this
theorem Rd.fz (h : Rd T b s at_ w) (i : Nat) : w.frozen? ⟨b, i, none⟩ = false := by unfold Rd at h; simp [World.frozen?, h]
theorem Rd.lt (h : Rd T b s at_ w) : b < w.heap.size := by
 rcases Nat.lt_or_ge b w.heap.size with hlt | hge
 · exact hlt
 unfold Rd at h; rw [Array.getElem?_eq_none hge] at h; cases h
theorem Rd.drewN (h : Rd T b s at_ w) (n : Nat) : Rd T b s at_ (w.drewN n) := h
theorem Rd.set_ (h : Rd T b s at_ w) (k : Nat) : Rd T b s k (w.setCell ⟨b, 1, none⟩ (.int .i64 (k : Int))) := by
 unfold Rd at h ⊢
 simp [World.setCell, Array.getElem?_modify, h]
theorem Rd.below {B : Nat} (h : Rd T b s at_ w) (hb : Below B w w') (hB : b < B) : Rd T b s at_ w' := (hb.block b hB).trans h
theorem Rd.alloc (h : Rd T b s at_ w) (o : Obj) : Rd T b s at_ (w.alloc o) := (Below.heap_alloc w o b h.lt).trans h
theorem Rd.far (h : Rd T b s at_ w) {p : Addr} (hp : b ≠ p.block) (u : Value) : Rd T b s at_ (w.setCell p u) := (Below.heap_setCell w p u b hp).trans h
end
structure Mv (b : Nat) (w w' : World) : Prop where
 os : w'.os = w.os
 tape : w'.tape = w.tape
 output : w'.output = w.output
 size : w.heap.size ≤ w'.heap.size
 block : ∀ k, k < w.heap.size → k ≠ b → w'.heap[k]? = w.heap[k]?
section
variable {b : Nat} {w w' w'' : World}
theorem Mv.refl (b : Nat) (w : World) : Mv b w w := ⟨rfl, rfl, rfl, Nat.le_refl _, fun _ _ _ => rfl⟩
theorem Mv.trans (h : Mv b w w') (k : Mv b w' w'') : Mv b w w'' :=
 ⟨k.os.trans h.os, k.tape.trans h.tape, k.output.trans h.output, Nat.le_trans h.size k.size, fun j hj hne => (k.block j (Nat.lt_of_lt_of_le hj h.size) hne).trans (h.block j hj hne)⟩
theorem Mv.drewN (h : Mv b w w') (n : Nat) : Mv b w (w'.drewN n) := ⟨h.os, h.tape, h.output, h.size, h.block⟩
theorem Mv.drew (h : Mv b w w') : Mv b w w'.drew := ⟨h.os, h.tape, h.output, h.size, h.block⟩
theorem Mv.set_ (h : Mv b w w') (i : Nat) (u : Value) : Mv b w (w'.setCell ⟨b, i, none⟩ u) :=
 ⟨h.os, h.tape, h.output, by simpa [World.setCell] using h.size, fun j hj hne => (Below.heap_setCell w' ⟨b, i, none⟩ u j hne).trans (h.block j hj hne)⟩
theorem Mv.alloc (h : Mv b w w') (o : Obj) : Mv b w (w'.alloc o) :=
 ⟨h.os, h.tape, h.output, by have := h.size; simp; omega, fun j hj hne => (Below.heap_alloc w' o j (Nat.lt_of_lt_of_le hj h.size)).trans (h.block j hj hne)⟩
theorem Mv.new (h : Mv b w w') {p : Addr} (hp : w.heap.size ≤ p.block) (u : Value) : Mv b w (w'.setCell p u) :=
 ⟨h.os, h.tape, h.output, by simpa [World.setCell] using h.size, fun j hj hne => (Below.heap_setCell w' p u j (by omega)).trans (h.block j hj hne)⟩
theorem Mv.below (h : Below w.heap.size w w') : Mv b w w' := ⟨h.os, h.tape, h.output, h.size, fun j hj _ => h.block j hj⟩
theorem Mv.new_below {B : Nat} (h : Mv b w w') (hb : B ≤ b) (hB : B ≤ w.heap.size) : Below B w w' := ⟨h.os, h.tape, h.output, h.size, fun j hj => h.block j (by omega) (by omega)⟩
end
def atIn (b : Nat) (w : World) : Nat := match w.cell? ⟨b, 1, none⟩ with | some (.int _ n) => n.toNat | _ => 0
theorem Rd.at_ {T b at_ : Nat} {s : ByteArray} {w : World} (h : Rd T b s at_ w) : atIn b w = at_ := by unfold atIn; rw [h.c1]; simp
end Lx
end Go.Proofs.YtmmgfifpjifjnaaGreatDoor
namespace Go.Proofs.YtmmgfifpjifjnaaGreatDoor
open Go.RowKit
namespace Lx
def Tk (T k : Nat) (kd : Int) (wd : ByteArray) (n a : Int) (w : World) : Prop := w.heap[k]? = some (.cells #[.int .i64 kd, .string wd, .int .i64 n, .int .i64 a] T (0, 0))
section
variable {T k : Nat} {kd n a : Int} {wd : ByteArray} {w w' : World}
theorem Tk.c0 (h : Tk T k kd wd n a w) : w.cell? ⟨k, 0, none⟩ = some (.int .i64 kd) := by have := cell_of_row w k 0 _ T (0, 0) h; simpa using this
theorem Tk.c1 (h : Tk T k kd wd n a w) : w.cell? ⟨k, 1, none⟩ = some (.string wd) := by have := cell_of_row w k 1 _ T (0, 0) h; simpa using this
theorem Tk.c2 (h : Tk T k kd wd n a w) : w.cell? ⟨k, 2, none⟩ = some (.int .i64 n) := by have := cell_of_row w k 2 _ T (0, 0) h; simpa using this
theorem Tk.c3 (h : Tk T k kd wd n a w) : w.cell? ⟨k, 3, none⟩ = some (.int .i64 a) := by have := cell_of_row w k 3 _ T (0, 0) h; simpa using this
theorem Tk.fz (h : Tk T k kd wd n a w) (i : Nat) : w.frozen? ⟨k, i, none⟩ = false := by unfold Tk at h; simp [World.frozen?, h]
theorem Tk.lt (h : Tk T k kd wd n a w) : k < w.heap.size := by
 rcases Nat.lt_or_ge k w.heap.size with hlt | hge
 · exact hlt
 unfold Tk at h; rw [Array.getElem?_eq_none hge] at h; cases h
theorem Tk.drewN (h : Tk T k kd wd n a w) (m : Nat) : Tk T k kd wd n a (w.drewN m) := h
theorem Tk.mv {b : Nat} (h : Tk T k kd wd n a w) (hm : Mv b w w') (hb : k ≠ b) : Tk T k kd wd n a w' := (hm.block k h.lt hb).trans h
theorem Tk.set1 (h : Tk T k kd wd n a w) (x : ByteArray) : Tk T k kd x n a (w.setCell ⟨k, 1, none⟩ (.string x)) := by
 unfold Tk at h ⊢
 simp [World.setCell, Array.getElem?_modify, h]
theorem Tk.far (h : Tk T k kd wd n a w) {p : Addr} (hp : k ≠ p.block) (u : Value) : Tk T k kd wd n a (w.setCell p u) := (Below.heap_setCell w p u k hp).trans h
theorem Tk.alloc (h : Tk T k kd wd n a w) (o : Obj) : Tk T k kd wd n a (w.alloc o) := (Below.heap_alloc w o k h.lt).trans h
theorem Tk.made (w : World) : Tk T w.heap.size kd wd n a (w.alloc (.cells #[.int .i64 kd, .string wd, .int .i64 n, .int .i64 a] T)) := Go.Deep.blk_alloc_new w _
end
end Lx
end Go.Proofs.YtmmgfifpjifjnaaGreatDoor
namespace Go.Proofs.YtmmgfifpjifjnaaGreatDoor
open Go.RowKit
namespace Lx
def Done (x : Value) (w : World) (e : Ending) (w' : World) : Prop := e = .returned x ∧ w = w'
def Quiet (x : Value) (w : World) (e : Ending) (w' : World) : Prop := e = .returned x ∧ ∃ k, w' = w.drewN k
theorem ret1 {a a' : Value} (h : a = a') : Ending.returned a = .returned a' := by rw [h]
theorem vbool {a b : Bool} (h : a = b) : Value.bool a = Value.bool b := by rw [h]
theorem vint {k : IntKind} {a b : Int} (h : a = b) : Value.int k a = Value.int k b := by rw [h]
theorem drew_two (w : World) (a b : Nat) : ∃ k, (w.drewN a).drewN b = w.drewN k := ⟨a + b, by simp [World.drewN, Nat.add_assoc]⟩
theorem drew_one (w : World) (a : Nat) : ∃ k, w.drewN a = w.drewN k := ⟨a, rfl⟩

set_option maxHeartbeats 1000000 in
theorem letter_any (c : UInt8) (w : World) : Calls Tryz.prog 110 #[.int .u8 (c.toNat : Int)] w (Done (.bool (letter c)) w) := by
 have hc := c.toNat_lt
 have hl : letter c = ((decide (97 ≤ c.toNat) && decide (c.toNat ≤ 122)) || (decide (65 ≤ c.toNat) && decide (c.toNat ≤ 90))) := rfl
 have HL := Lib.hid hl; clear hl
 rcases (show c.toNat < 65 ∨ (65 ≤ c.toNat ∧ c.toNat ≤ 90) ∨ (91 ≤ c.toNat ∧ c.toNat ≤ 96) ∨ (97 ≤ c.toNat ∧ c.toNat ≤ 122) ∨ 122 < c.toNat by omega) with h | ⟨h, h'⟩ | ⟨h, h'⟩ | ⟨h, h'⟩ | h
 all_goals
  go_enter Tryz.func110, Tryz.ntmps110
  go_wp2
  go_ret
  exact ⟨ret1 (vbool (by rw [HL.out, Bool.eq_iff_iff]; constructor <;> intro hh <;> simp at hh ⊢ <;> omega)), rfl⟩
set_option maxHeartbeats 1000000 in
theorem digit_any (c : UInt8) (w : World) : Calls Tryz.prog 114 #[.int .u8 (c.toNat : Int)] w (Done (.bool (digit c)) w) := by
 have hc := c.toNat_lt
 have hl : digit c = (decide (48 ≤ c.toNat) && decide (c.toNat ≤ 57)) := rfl
 have HL := Lib.hid hl; clear hl
 rcases (show c.toNat < 48 ∨ (48 ≤ c.toNat ∧ c.toNat ≤ 57) ∨ 57 < c.toNat by omega) with h | ⟨h, h'⟩ | h
 all_goals
  go_enter Tryz.func114, Tryz.ntmps114
  go_wp2
  go_ret
  exact ⟨ret1 (vbool (by rw [HL.out, Bool.eq_iff_iff]; constructor <;> intro hh <;> simp at hh ⊢ <;> omega)), rfl⟩
theorem hd_drop (s : ByteArray) (at_ n : Nat) (h : at_ + n < s.size) : hd (s.data.toList.drop at_) n = s[at_ + n] := by
 unfold hd
 rw [List.getD_eq_getElem?_getD, List.getElem?_drop, List.getElem?_eq_getElem (show at_ + n < s.data.toList.length from h)]
 rfl
theorem hd_past (s : ByteArray) (at_ n : Nat) (h : s.size ≤ at_ + n) : hd (s.data.toList.drop at_) n = 0 :=
 hd_out _ _ (by rw [List.length_drop]; show s.size - at_ ≤ n; omega)
set_option maxHeartbeats 1000000 in
theorem peek_any (b at_ n : Nat) (s : ByteArray) (w : World) (hs : s.size ≤ 140737488351232) (hat : at_ ≤ s.size) (hn : n ≤ 1) (c0 : w.cell? ⟨b, 0, none⟩ = some (.string s)) (c1 : w.cell? ⟨b, 1, none⟩ = some (.int .i64 (at_ : Int))) :
  Calls Tryz.prog 111 #[.pointer (some ⟨b, 0, none⟩), .int .i64 (n : Int)] w (Quiet (.int .u8 ((hd (s.data.toList.drop at_) n).toNat : Int)) w) := by
 have hsum : IntKind.i64.wrap ((at_ : Int) + (n : Int)) = (at_ : Int) + (n : Int) := IntWalk.i64_in _ (by omega)
 have hsum0 : (0 : Int) ≤ (at_ : Int) + (n : Int) := by omega
 have hsumN : ((at_ : Int) + (n : Int)).toNat = at_ + n := by omega
 by_cases h : at_ + n < s.size
 · have he := hd_drop s at_ n h
   have HE := Lib.hid he; clear he
   go_enter Tryz.func111, Tryz.ntmps111
   go_wp2
   go_quiet (fail)
   go_wp2
   go_quiet (fail)
   go_wp2
   go_ret
   exact ⟨ret1 (vint (by rw [HE.out])), drew_two _ _ _⟩
 have he := hd_past s at_ n (by omega)
 have HE := Lib.hid he; clear he
 have h' : s.size ≤ at_ + n := by omega
 clear h
 go_enter Tryz.func111, Tryz.ntmps111
 go_wp2
 go_quiet (fail)
 go_wp2
 go_ret
 exact ⟨ret1 (vint (by rw [HE.out]; rfl)), drew_one _ _⟩
theorem peek0 (b at_ : Nat) (s : ByteArray) (w : World) (hs : s.size ≤ 140737488351232) (hat : at_ ≤ s.size) (c0 : w.cell? ⟨b, 0, none⟩ = some (.string s)) (c1 : w.cell? ⟨b, 1, none⟩ = some (.int .i64 (at_ : Int))) :
  Calls Tryz.prog 111 #[.pointer (some ⟨b, 0, none⟩), .int .i64 0] w (Quiet (.int .u8 ((hd (s.data.toList.drop at_) 0).toNat : Int)) w) :=
 peek_any b at_ 0 s w hs hat (by omega) c0 c1
theorem peek1 (b at_ : Nat) (s : ByteArray) (w : World) (hs : s.size ≤ 140737488351232) (hat : at_ ≤ s.size) (c0 : w.cell? ⟨b, 0, none⟩ = some (.string s)) (c1 : w.cell? ⟨b, 1, none⟩ = some (.int .i64 (at_ : Int))) :
  Calls Tryz.prog 111 #[.pointer (some ⟨b, 0, none⟩), .int .i64 1] w (Quiet (.int .u8 ((hd (s.data.toList.drop at_) 1).toNat : Int)) w) :=
 peek_any b at_ 1 s w hs hat (by omega) c0 c1
end Lx
end Go.Proofs.YtmmgfifpjifjnaaGreatDoor
namespace Go.Proofs.YtmmgfifpjifjnaaGreatDoor
open Go.RowKit
namespace Lx
theorem index_none (l : List UInt8) (c : UInt8) : Lib.indexByte l c = -1 ∨ 0 ≤ Lib.indexByte l c := by
 induction l with
 | nil => left; rfl
 | cons b l ih =>
  simp only [Lib.indexByte]
  split
  · right; omega
  split
  · left; rfl
  rename_i h1 h2
  rcases ih with h | h
  · rw [h] at h2; exact absurd rfl h2
  right; omega
theorem index_mem (l : List UInt8) (c : UInt8) : 0 ≤ Lib.indexByte l c ↔ l.contains c = true := by
 induction l with
 | nil => simp [Lib.indexByte]
 | cons b l ih =>
  rw [List.contains_cons]
  simp only [Lib.indexByte]
  have hs : (c == b) = (b == c) := by rw [Bool.eq_iff_iff, beq_iff_eq, beq_iff_eq]; exact eq_comm
  rw [hs]
  cases hb : (b == c)
  · simp only [Bool.false_or, Bool.false_eq_true, if_false]
    rw [← ih]
    rcases index_none l c with h | h
    · rw [h]; simp
    have : ¬ (Lib.indexByte l c == -1) = true := by rw [beq_iff_eq]; omega
    rw [if_neg this]; omega
  simp
set_option maxHeartbeats 1000000 in
theorem op_any (c : UInt8) (w : World) : Calls Tryz.prog 115 #[.int .u8 (c.toNat : Int)] w (Done (.bool (opc c)) w) := by
 have hc := c.toNat_lt
 by_cases h0 : c = 0
 · subst h0
   go_enter Tryz.func115, Tryz.ntmps115
   go_wp2
   go_ret
   exact ⟨rfl, rfl⟩
 have hn : ((c.toNat : Int) == 0) = false := by
  rw [beq_eq_false_iff_ne]; intro h; exact h0 (UInt8.toNat.inj (by show c.toNat = 0; omega))
 have hn2 : ((c.toNat : Int) != 0) = true := by simp [bne, hn]
 have ho : opc c = opsL.contains c := by unfold opc; simp [h0]
 have HO := Lib.hid ho
 clear ho h0
 go_enter Tryz.func115, Tryz.ntmps115
 go_wp2_with (go_at_call 140; go_must (refine (Tryz.strings_IndexByte _ _ _).mono ?_); rintro e w' ⟨rfl, rfl⟩)
 go_ret
 exact ⟨ret1 (vbool (by
  have hm := index_mem opsL c
  rw [HO.out, Bool.eq_iff_iff, decide_eq_true_iff]
  exact hm)), rfl⟩
set_option maxHeartbeats 1000000 in
theorem alnum_any (c : UInt8) (w : World) : Calls Tryz.prog 113 #[.int .u8 (c.toNat : Int)] w (Done (.bool (alnum c)) w) := by
 have ha : alnum c = (letter c || digit c) := rfl
 cases hl : letter c
 all_goals
  rw [hl] at ha
  have HA := Lib.hid ha; have HL := Lib.hid hl; clear ha hl
  go_enter Tryz.func113, Tryz.ntmps113
  go_wp2_with fail
  refine (letter_any c _).mono ?_; rintro e w' ⟨rfl, rfl⟩
  rw [HL.out]
  go_wp2_with (go_at_call 114; go_must (refine (digit_any c _).mono ?_); rintro e w' ⟨rfl, rfl⟩)
  go_ret
  exact ⟨ret1 (vbool (by rw [HA.out]; rfl)), rfl⟩
set_option maxHeartbeats 1000000 in
theorem blank_any (c : UInt8) (w : World) : Calls Tryz.prog 145 #[.int .u8 (c.toNat : Int)] w (Done (.bool (blank c)) w) := by
 go_enter Tryz.func145, Tryz.ntmps145
 go_wp2_with (go_at_call 140; go_must (refine (Tryz.strings_IndexByte _ _ _).mono ?_); rintro e w' ⟨rfl, rfl⟩)
 go_ret
 exact ⟨ret1 (vbool (by
  have hm := index_mem blanksL c
  rw [Bool.eq_iff_iff, decide_eq_true_iff]; exact hm)), rfl⟩
end Lx
end Go.Proofs.YtmmgfifpjifjnaaGreatDoor
namespace Go.Proofs.YtmmgfifpjifjnaaGreatDoor
open Go.RowKit
namespace Lx
def Turn (T b : Nat) (s : ByteArray) (k : Nat) (x : Value) (w : World) (e : Ending) (w' : World) : Prop := e = .returned x ∧ Rd T b s k w' ∧ Mv b w w'
set_option maxHeartbeats 4000000 in
theorem run_alnum (b at_ z : Nat) (s : ByteArray) (w : World) (hs : s.size ≤ 140737488351232) (haz : at_ ≤ z) (hz : z ≤ s.size) (hin : ∀ k, (h : k < s.size) → at_ ≤ k → k < z → alnum s[k] = true) (hout : (h : z < s.size) → alnum s[z] = false) (h : Rd 132 b s at_ w) :
  Calls Tryz.prog 112 #[.pointer (some ⟨b, 0, none⟩), .func (.func 113) #[] #[]] w (Turn 132 b s z (.string (s.extract at_ z)) w) := by
 have c0 := h.c0
 have c1 := h.c1
 go_enter Tryz.func112, Tryz.ntmps112
 go_wp2
 go_loopw [10] (fun y wr => ∃ k, at_ ≤ k ∧ k ≤ z ∧ Rd 132 b s k wr ∧ Mv b w wr) (fun _ wr => s.size - atIn b wr)
 case atStart => exact ⟨at_, Nat.le_refl _, haz, h, Mv.refl _ _⟩
 clear c0 c1
 obtain ⟨k, hk1, hk2, hr, hmv⟩ := hrel
 have hat := hr.at_
 have d0 := hr.c0
 have d1 := hr.c1
 have df := hr.fz
 by_cases hlt : k < s.size
 · by_cases him : k < z
   · have hp := hin k hlt hk1 him
     have hcon : ∀ w : World, Calls Tryz.prog 113 #[.int .u8 ((s[k]).toNat : Int)] w fun e w' => e = .returned (.bool true) ∧ w' = w := fun w => (alnum_any s[k] w).mono fun e w' ⟨he, hw⟩ => ⟨by rw [he, hp], hw.symm⟩
     have hsum : IntKind.i64.wrap ((k : Int) + 1) = (k : Int) + 1 := IntWalk.i64_in _ (by omega)
     clear hp hin hout
     go_wp2
     go_quiet (first | (go_at_call 113; exact Calls.quiet_of_same (hcon _)))
     go_wp2
     have hS := (hr.drewN nq).set_ (k + 1)
     have hM := (hmv.drewN nq).set_ 1 (.int .i64 ((k : Int) + 1))
     have hcast : ((k + 1 : Nat) : Int) = (k : Int) + 1 := by omega
     rw [hcast] at hS
     refine ⟨⟨k + 1, by omega, by omega, hS, hM⟩, ?_⟩
     have hat2 := hS.at_
     rw [hat2, hat]; omega
   obtain rfl : k = z := by omega
   have hp := hout hlt
   have hcon : ∀ w : World, Calls Tryz.prog 113 #[.int .u8 ((s[k]).toNat : Int)] w fun e w' => e = .returned (.bool false) ∧ w' = w := fun w => (alnum_any s[k] w).mono fun e w' ⟨he, hw⟩ => ⟨by rw [he, hp], hw.symm⟩
   clear hp hin hout
   go_wp2
   go_quiet (first | (go_at_call 113; exact Calls.quiet_of_same (hcon _)))
   go_wp2
   go_quiet (fail)
   go_wp2
   go_ret
   exact ⟨rfl, (hr.drewN _).drewN _, (hmv.drewN _).drewN _⟩
 obtain rfl : k = z := by omega
 go_wp2
 go_quiet (fail)
 go_wp2
 go_quiet (fail)
 go_wp2
 go_ret
 exact ⟨rfl, (hr.drewN _).drewN _, (hmv.drewN _).drewN _⟩
set_option maxHeartbeats 4000000 in
theorem run_blank (b at_ z : Nat) (s : ByteArray) (w : World) (hs : s.size ≤ 140737488351232) (haz : at_ ≤ z) (hz : z ≤ s.size) (hin : ∀ k, (h : k < s.size) → at_ ≤ k → k < z → blank s[k] = true) (hout : (h : z < s.size) → blank s[z] = false) (h : Rd 132 b s at_ w) :
  Calls Tryz.prog 112 #[.pointer (some ⟨b, 0, none⟩), .func (.func 145) #[] #[]] w (Turn 132 b s z (.string (s.extract at_ z)) w) := by
 have c0 := h.c0
 have c1 := h.c1
 go_enter Tryz.func112, Tryz.ntmps112
 go_wp2
 go_loopw [10] (fun y wr => ∃ k, at_ ≤ k ∧ k ≤ z ∧ Rd 132 b s k wr ∧ Mv b w wr) (fun _ wr => s.size - atIn b wr)
 case atStart => exact ⟨at_, Nat.le_refl _, haz, h, Mv.refl _ _⟩
 clear c0 c1
 obtain ⟨k, hk1, hk2, hr, hmv⟩ := hrel
 have hat := hr.at_
 have d0 := hr.c0
 have d1 := hr.c1
 have df := hr.fz
 by_cases hlt : k < s.size
 · by_cases him : k < z
   · have hp := hin k hlt hk1 him
     have hcon : ∀ w : World, Calls Tryz.prog 145 #[.int .u8 ((s[k]).toNat : Int)] w fun e w' => e = .returned (.bool true) ∧ w' = w := fun w => (blank_any s[k] w).mono fun e w' ⟨he, hw⟩ => ⟨by rw [he, hp], hw.symm⟩
     have hsum : IntKind.i64.wrap ((k : Int) + 1) = (k : Int) + 1 := IntWalk.i64_in _ (by omega)
     clear hp hin hout
     go_wp2
     go_quiet (first | (go_at_call 145; exact Calls.quiet_of_same (hcon _)))
     go_wp2
     have hS := (hr.drewN nq).set_ (k + 1)
     have hM := (hmv.drewN nq).set_ 1 (.int .i64 ((k : Int) + 1))
     have hcast : ((k + 1 : Nat) : Int) = (k : Int) + 1 := by omega
     rw [hcast] at hS
     refine ⟨⟨k + 1, by omega, by omega, hS, hM⟩, ?_⟩
     have hat2 := hS.at_
     rw [hat2, hat]; omega
   obtain rfl : k = z := by omega
   have hp := hout hlt
   have hcon : ∀ w : World, Calls Tryz.prog 145 #[.int .u8 ((s[k]).toNat : Int)] w fun e w' => e = .returned (.bool false) ∧ w' = w := fun w => (blank_any s[k] w).mono fun e w' ⟨he, hw⟩ => ⟨by rw [he, hp], hw.symm⟩
   clear hp hin hout
   go_wp2
   go_quiet (first | (go_at_call 145; exact Calls.quiet_of_same (hcon _)))
   go_wp2
   go_quiet (fail)
   go_wp2
   go_ret
   exact ⟨rfl, (hr.drewN _).drewN _, (hmv.drewN _).drewN _⟩
 obtain rfl : k = z := by omega
 go_wp2
 go_quiet (fail)
 go_wp2
 go_quiet (fail)
 go_wp2
 go_ret
 exact ⟨rfl, (hr.drewN _).drewN _, (hmv.drewN _).drewN _⟩
set_option maxHeartbeats 4000000 in
theorem run_digit (b at_ z : Nat) (s : ByteArray) (w : World) (hs : s.size ≤ 140737488351232) (haz : at_ ≤ z) (hz : z ≤ s.size) (hin : ∀ k, (h : k < s.size) → at_ ≤ k → k < z → digit s[k] = true) (hout : (h : z < s.size) → digit s[z] = false) (h : Rd 132 b s at_ w) :
  Calls Tryz.prog 112 #[.pointer (some ⟨b, 0, none⟩), .func (.func 114) #[] #[]] w (Turn 132 b s z (.string (s.extract at_ z)) w) := by
 have c0 := h.c0
 have c1 := h.c1
 go_enter Tryz.func112, Tryz.ntmps112
 go_wp2
 go_loopw [10] (fun y wr => ∃ k, at_ ≤ k ∧ k ≤ z ∧ Rd 132 b s k wr ∧ Mv b w wr) (fun _ wr => s.size - atIn b wr)
 case atStart => exact ⟨at_, Nat.le_refl _, haz, h, Mv.refl _ _⟩
 clear c0 c1
 obtain ⟨k, hk1, hk2, hr, hmv⟩ := hrel
 have hat := hr.at_
 have d0 := hr.c0
 have d1 := hr.c1
 have df := hr.fz
 by_cases hlt : k < s.size
 · by_cases him : k < z
   · have hp := hin k hlt hk1 him
     have hcon : ∀ w : World, Calls Tryz.prog 114 #[.int .u8 ((s[k]).toNat : Int)] w fun e w' => e = .returned (.bool true) ∧ w' = w := fun w => (digit_any s[k] w).mono fun e w' ⟨he, hw⟩ => ⟨by rw [he, hp], hw.symm⟩
     have hsum : IntKind.i64.wrap ((k : Int) + 1) = (k : Int) + 1 := IntWalk.i64_in _ (by omega)
     clear hp hin hout
     go_wp2
     go_quiet (first | (go_at_call 114; exact Calls.quiet_of_same (hcon _)))
     go_wp2
     have hS := (hr.drewN nq).set_ (k + 1)
     have hM := (hmv.drewN nq).set_ 1 (.int .i64 ((k : Int) + 1))
     have hcast : ((k + 1 : Nat) : Int) = (k : Int) + 1 := by omega
     rw [hcast] at hS
     refine ⟨⟨k + 1, by omega, by omega, hS, hM⟩, ?_⟩
     have hat2 := hS.at_
     rw [hat2, hat]; omega
   obtain rfl : k = z := by omega
   have hp := hout hlt
   have hcon : ∀ w : World, Calls Tryz.prog 114 #[.int .u8 ((s[k]).toNat : Int)] w fun e w' => e = .returned (.bool false) ∧ w' = w := fun w => (digit_any s[k] w).mono fun e w' ⟨he, hw⟩ => ⟨by rw [he, hp], hw.symm⟩
   clear hp hin hout
   go_wp2
   go_quiet (first | (go_at_call 114; exact Calls.quiet_of_same (hcon _)))
   go_wp2
   go_quiet (fail)
   go_wp2
   go_ret
   exact ⟨rfl, (hr.drewN _).drewN _, (hmv.drewN _).drewN _⟩
 obtain rfl : k = z := by omega
 go_wp2
 go_quiet (fail)
 go_wp2
 go_quiet (fail)
 go_wp2
 go_ret
 exact ⟨rfl, (hr.drewN _).drewN _, (hmv.drewN _).drewN _⟩
end Lx
end Go.Proofs.YtmmgfifpjifjnaaGreatDoor
namespace Go.Proofs.YtmmgfifpjifjnaaGreatDoor
open Go.RowKit
namespace Lx
theorem twl (p : UInt8 → Bool) : ∀ (l : List UInt8) (i : Nat) (h : i < l.length), (i < (l.takeWhile p).length → p l[i] = true) ∧ (i = (l.takeWhile p).length → p l[i] = false)
 | [], i, h => by simp at h
 | c :: l, 0, h => by
  cases hc : p c <;> simp [hc]
 | c :: l, i + 1, h => by
  have ih := twl p l i (by simpa using h)
  cases hc : p c
  · simp [hc]
  simpa [List.takeWhile_cons, hc] using ih
theorem tw_le (p : UInt8 → Bool) (l : List UInt8) : (l.takeWhile p).length ≤ l.length := (List.takeWhile_prefix p).length_le
theorem dlen (s : ByteArray) (a : Nat) : (s.data.toList.drop a).length = s.size - a := by rw [List.length_drop]; rfl
section
variable (p : UInt8 → Bool) (s : ByteArray) (a : Nat)
theorem tw_fit (ha : a ≤ s.size) : a + ((s.data.toList.drop a).takeWhile p).length ≤ s.size := by
 have := tw_le p (s.data.toList.drop a); rw [dlen] at this; omega
theorem dget (k : Nat) (h : k < s.size) (hk : a ≤ k) (h2 : k - a < (s.data.toList.drop a).length) : (s.data.toList.drop a)[k - a] = s[k] := by
 rw [List.getElem_drop]
 have : a + (k - a) = k := by omega
 simp only [this]; rfl
theorem tw_in (k : Nat) (h : k < s.size) (hk : a ≤ k) (hz : k < a + ((s.data.toList.drop a).takeWhile p).length) : p s[k] = true := by
 have h2 : k - a < (s.data.toList.drop a).length := by rw [dlen]; omega
 have := (twl p (s.data.toList.drop a) (k - a) h2).1 (by omega)
 rwa [dget s a k h hk h2] at this
theorem tw_out (h : a + ((s.data.toList.drop a).takeWhile p).length < s.size) : p s[a + ((s.data.toList.drop a).takeWhile p).length] = false := by
 have h2 : a + ((s.data.toList.drop a).takeWhile p).length - a < (s.data.toList.drop a).length := by rw [dlen]; omega
 have := (twl p (s.data.toList.drop a) _ h2).2 (by omega)
 rwa [dget s a _ h (by omega) h2] at this
end
theorem ext_nil (s : ByteArray) (a : Nat) : s.extract a a = ⟨#[]⟩ := by
 apply ByteArray.ext; simp
variable {b at_ : Nat} {s : ByteArray} {w : World}
abbrev RT : Nat := 132
theorem peekR0 (hs : s.size ≤ 140737488351232) (hat : at_ ≤ s.size) (hrd : Rd RT b s at_ w) :
  Calls Tryz.prog 111 #[.pointer (some ⟨b, 0, none⟩), .int .i64 0] w (Quiet (.int .u8 ((hd (s.data.toList.drop at_) 0).toNat : Int)) w) := peek0 b at_ s w hs hat hrd.c0 hrd.c1
theorem peekR1 (hs : s.size ≤ 140737488351232) (hat : at_ ≤ s.size) (hrd : Rd RT b s at_ w) :
  Calls Tryz.prog 111 #[.pointer (some ⟨b, 0, none⟩), .int .i64 1] w (Quiet (.int .u8 ((hd (s.data.toList.drop at_) 1).toNat : Int)) w) := peek1 b at_ s w hs hat hrd.c0 hrd.c1
set_option maxHeartbeats 2000000 in
theorem name_any (hs : s.size ≤ 140737488351232) (hat : at_ ≤ s.size) (hrd : Rd RT b s at_ w) :
  Calls Tryz.prog 67 #[.pointer (some ⟨b, 0, none⟩)] w (Turn RT b s (at_ + nameL (s.data.toList.drop at_)) (.string (s.extract at_ (at_ + nameL (s.data.toList.drop at_)))) w) := by
 obtain ⟨c, hc⟩ : ∃ c, hd (s.data.toList.drop at_) 0 = c := ⟨_, rfl⟩
 obtain ⟨z, hz⟩ : ∃ z, at_ + nameL (s.data.toList.drop at_) = z := ⟨_, rfl⟩
 rw [hz]
 cases hl : letter c
 · have hz2 : z = at_ := by rw [← hz]; unfold nameL; rw [hc, hl]; rfl
   subst hz2
   go_enter Tryz.func67, Tryz.ntmps67
   go_wp2_with fail
   refine (peekR0 hs hat hrd).mono ?_; rintro e w' ⟨rfl, n1, rfl⟩
   rw [hc]
   go_wp2_with fail
   refine (letter_any c _).mono ?_; rintro e w' ⟨rfl, rfl⟩
   rw [hl]
   go_wp2
   go_ret
   exact ⟨ret1 (by rw [ext_nil]; rfl), hrd.drewN _, (Mv.refl _ _).drewN _⟩
 have hz2 : z = at_ + ((s.data.toList.drop at_).takeWhile alnum).length := by rw [← hz]; unfold nameL; rw [hc, hl]; rfl
 have H1 : at_ ≤ z := by omega
 have H2 : z ≤ s.size := by rw [hz2]; exact tw_fit alnum s at_ hat
 have H3 : ∀ k, (h : k < s.size) → at_ ≤ k → k < z → alnum s[k] = true := fun k h h1 h2 => tw_in alnum s at_ k h h1 (by rw [← hz2]; exact h2)
 have H4 : (h : z < s.size) → alnum s[z] = false := by subst hz2; exact fun h => tw_out alnum s at_ h
 clear hz hz2
 go_enter Tryz.func67, Tryz.ntmps67
 go_wp2_with fail
 refine (peekR0 hs hat hrd).mono ?_; rintro e w' ⟨rfl, n1, rfl⟩
 rw [hc]
 go_wp2_with fail
 refine (letter_any c _).mono ?_; rintro e w' ⟨rfl, rfl⟩
 rw [hl]
 go_wp2_with fail
 refine (run_alnum b at_ z s _ hs H1 H2 H3 H4 (hrd.drewN n1)).mono ?_; rintro e w' ⟨rfl, hr, hm⟩
 go_wp2
 go_ret
 exact ⟨rfl, hr, ((Mv.refl _ _).drewN _).trans hm⟩
set_option maxHeartbeats 2000000 in
theorem colon_any (hs : s.size ≤ 140737488351232) (hat : at_ ≤ s.size) (hrd : Rd RT b s at_ w) :
  Calls Tryz.prog 106 #[.pointer (some ⟨b, 0, none⟩)] w (Turn RT b s (at_ + if colonB (s.data.toList.drop at_) then 1 else 0) (.bool (colonB (s.data.toList.drop at_))) w) := by
 have c0 := hrd.c0
 have c1 := hrd.c1
 have df := hrd.fz
 obtain ⟨c, hc⟩ : ∃ c, hd (s.data.toList.drop at_) 0 = c := ⟨_, rfl⟩
 obtain ⟨d, hd'⟩ : ∃ d, hd (s.data.toList.drop at_) 1 = d := ⟨_, rfl⟩
 obtain ⟨q, hq⟩ : ∃ q, colonB (s.data.toList.drop at_) = q := ⟨_, rfl⟩
 rw [hq]
 by_cases h58 : c = 58
 · subst h58
   by_cases h61 : d = 61
   · subst h61
     have hq2 : q = false := by rw [← hq]; unfold colonB; rw [hc, hd']; rfl
     subst hq2
     go_enter Tryz.func106, Tryz.ntmps106
     go_wp2_with fail
     refine (peekR0 hs hat hrd).mono ?_; rintro e w' ⟨rfl, n1, rfl⟩
     rw [hc]
     go_wp2_with fail
     refine (peekR1 hs hat (hrd.drewN n1)).mono ?_; rintro e w' ⟨rfl, n2, rfl⟩
     rw [hd']
     go_wp2
     go_ret
     exact ⟨rfl, hrd.drewN _, (Mv.refl _ _).drewN _⟩
   have hq2 : q = true := by rw [← hq]; unfold colonB; rw [hc, hd']; simpa using h61
   have hn : ((d.toNat : Int) == 61) = false := by
    rw [beq_eq_false_iff_ne]; intro h; exact h61 (UInt8.toNat.inj (by show d.toNat = 61; omega))
   subst hq2
   have hlt : at_ < s.size := by
    rcases Nat.lt_or_ge at_ s.size with h' | h'
    · exact h'
    have := hd_past s at_ 0 h'; rw [hc] at this; exact absurd this (by decide)
   have hsum : IntKind.i64.wrap ((at_ : Int) + 1) = (at_ : Int) + 1 := IntWalk.i64_in _ (by omega)
   clear h61 hq
   go_enter Tryz.func106, Tryz.ntmps106
   go_wp2_with fail
   refine (peekR0 hs hat hrd).mono ?_; rintro e w' ⟨rfl, n1, rfl⟩
   rw [hc]
   go_wp2_with fail
   refine (peekR1 hs hat (hrd.drewN n1)).mono ?_; rintro e w' ⟨rfl, n2, rfl⟩
   rw [hd']
   go_wp2
   go_ret
   have hS := (hrd.drewN (n1 + n2)).set_ (at_ + 1)
   have hcast : ((at_ + 1 : Nat) : Int) = (at_ : Int) + 1 := by omega
   rw [hcast] at hS
   exact ⟨rfl, hS, ((Mv.refl _ _).drewN _).set_ 1 _⟩
 have hq2 : q = false := by rw [← hq]; unfold colonB; rw [hc]; simp [h58]
 have hn : ((c.toNat : Int) != 58) = true := by
  rw [bne_iff_ne]; intro h; exact h58 (UInt8.toNat.inj (by show c.toNat = 58; omega))
 subst hq2
 clear h58 hq
 go_enter Tryz.func106, Tryz.ntmps106
 go_wp2_with fail
 refine (peekR0 hs hat hrd).mono ?_; rintro e w' ⟨rfl, n1, rfl⟩
 rw [hc]
 go_wp2
 go_ret
 exact ⟨rfl, hrd.drewN _, (Mv.refl _ _).drewN _⟩
def flt (a n : Int) : Value := .iface 176 (.agg #[.int .i64 a, .int .i64 n])
def Dies (a n : Int) (w : World) (e : Ending) (w' : World) : Prop := e = .panicked [{ v := flt a n, recovered := false }] ∧ w = w'
theorem stop_any (a n : Int) (w : World) : Calls Tryz.prog 137 #[.int .i64 a, .int .i64 n] w (Dies a n w) := by
 go_enter Tryz.func137, Tryz.ntmps137
 go_wp2
 exact ⟨rfl, rfl, rfl⟩
end Lx
end Go.Proofs.YtmmgfifpjifjnaaGreatDoor
namespace Go.Proofs.YtmmgfifpjifjnaaGreatDoor
open Go.RowKit
namespace Lx
variable {b at_ : Nat} {s : ByteArray} {w : World}
theorem word_ok (a : Int) (s : ByteArray) (w : World) (h : s.size ≤ 64) : Calls Tryz.prog 135 #[.int .i64 a, .string s] w (Done (.string s) w) := by
 have h1 : ¬ (64 : Int) < (s.size : Int) := by omega
 clear h
 go_enter Tryz.func135, Tryz.ntmps135
 go_wp2
 go_ret
 exact ⟨rfl, rfl⟩
theorem word_long (a : Int) (s : ByteArray) (w : World) (h : 64 < s.size) : Calls Tryz.prog 135 #[.int .i64 a, .string s] w (Dies a 2 w) := by
 have h1 : (64 : Int) < (s.size : Int) := by omega
 clear h
 go_enter Tryz.func135, Tryz.ntmps135
 go_wp2_with fail
 refine (stop_any a 2 _).mono ?_; rintro e w' ⟨rfl, rfl⟩
 go_wp2
 exact ⟨rfl, rfl, rfl⟩
theorem ext_one (s : ByteArray) (a : Nat) (h : a < s.size) : s.extract a (a + 1) = ⟨#[s[a]]⟩ := by
 apply ByteArray.ext
 apply Array.ext
 · simp; show min (a + 1) s.size - a = 1; omega
 intro i h1 h2
 have : i = 0 := by simpa using h2
 subst this
 simp; rfl
theorem bne_u8 (d : UInt8) (k : Nat) (hk : k < 256) (h : d ≠ UInt8.ofNat k) : ((d.toNat : Int) == (k : Int)) = false := by
 rw [beq_eq_false_iff_ne]; intro h'
 exact h (UInt8.toNat.inj (by rw [UInt8.toNat_ofNat']; omega))
set_option maxHeartbeats 4000000 in
theorem oper_any (hs : s.size ≤ 140737488351232) (hat : at_ ≤ s.size) (hrd : Rd RT b s at_ w) :
  Calls Tryz.prog 68 #[.pointer (some ⟨b, 0, none⟩)] w (Turn RT b s (at_ + operL (s.data.toList.drop at_)) (.string (s.extract at_ (at_ + operL (s.data.toList.drop at_)))) w) := by
 have c0 := hrd.c0
 have c1 := hrd.c1
 have df := hrd.fz
 obtain ⟨c, hc⟩ : ∃ c, hd (s.data.toList.drop at_) 0 = c := ⟨_, rfl⟩
 obtain ⟨d, hd'⟩ : ∃ d, hd (s.data.toList.drop at_) 1 = d := ⟨_, rfl⟩
 have hle := operL_le (s.data.toList.drop at_)
 rw [dlen] at hle
 obtain ⟨q, hq⟩ : ∃ q, operL (s.data.toList.drop at_) = q := ⟨_, rfl⟩
 rw [hq] at hle ⊢
 have hq3 : q = if c = 124 then 1 else if opc c then (if opc d && d != 45 then 2 else 1) else 0 := by rw [← hq]; unfold operL; rw [hc, hd']
 clear hq
 by_cases h124 : c = 124
 · subst h124
   rw [if_pos rfl] at hq3
   subst hq3
   have hlt : at_ < s.size := by omega
   have hg : s[at_] = 124 := by have := hd_drop s at_ 0 hlt; rw [hc] at this; exact this.symm
   have hx := ext_one s at_ hlt
   rw [hg] at hx
   have HX := Lib.hid hx; clear hx hg
   have hsum : IntKind.i64.wrap ((at_ : Int) + 1) = (at_ : Int) + 1 := IntWalk.i64_in _ (by omega)
   go_enter Tryz.func68, Tryz.ntmps68
   go_wp2_with fail
   refine (peekR0 hs hat hrd).mono ?_; rintro e w' ⟨rfl, n1, rfl⟩
   rw [hc]
   go_wp2
   go_ret
   have hS := (hrd.drewN n1).set_ (at_ + 1)
   have hcast : ((at_ + 1 : Nat) : Int) = (at_ : Int) + 1 := by omega
   rw [hcast] at hS
   exact ⟨ret1 (by rw [HX.out]; rfl), hS, ((Mv.refl _ _).drewN _).set_ 1 _⟩
 rw [if_neg h124] at hq3
 have hb : ((c.toNat : Int) == 124) = false := bne_u8 c 124 (by omega) h124
 clear h124
 cases ho : opc c
 · rw [ho] at hq3
   have hq4 : q = 0 := hq3
   subst hq4
   clear hq3
   go_enter Tryz.func68, Tryz.ntmps68
   go_wp2_with fail
   refine (peekR0 hs hat hrd).mono ?_; rintro e w' ⟨rfl, n1, rfl⟩
   rw [hc]
   go_wp2_with fail
   refine (peekR0 hs hat (hrd.drewN n1)).mono ?_; rintro e w' ⟨rfl, n2, rfl⟩
   rw [hc]
   go_wp2_with fail
   refine (op_any c _).mono ?_; rintro e w' ⟨rfl, rfl⟩
   rw [ho]
   go_wp2
   go_ret
   exact ⟨ret1 (by rw [Nat.add_zero, ext_nil]; rfl), hrd.drewN _, (Mv.refl _ _).drewN _⟩
 rw [ho, if_pos rfl] at hq3
 cases hd2 : opc d
 · rw [hd2] at hq3
   have hq4 : q = 1 := hq3
   subst hq4
   have hsum : IntKind.i64.wrap ((at_ : Int) + 1) = (at_ : Int) + 1 := IntWalk.i64_in _ (by omega)
   have hsub : IntKind.i64.wrap ((at_ : Int) + 1 - 1) = (at_ : Int) := by rw [show (at_ : Int) + 1 - 1 = (at_ : Int) by omega]; exact IntWalk.i64_in _ (by omega)
   have hsub' : IntKind.i64.wrap (at_ : Int) = (at_ : Int) := IntWalk.i64_in _ (by omega)
   have hs1 : (at_ : Int) + 1 ≤ (s.size : Int) := by omega
   have hs0 : (0 : Int) ≤ (at_ : Int) + 1 := by omega
   have hsn : ((at_ : Int) + 1).toNat = at_ + 1 := by omega
   have hle2 : (at_ : Int) ≤ (at_ : Int) + 1 := by omega
   have hcast : ((at_ + 1 : Nat) : Int) = (at_ : Int) + 1 := by omega
   have hS := fun n => (hrd.drewN n).set_ (at_ + 1)
   rw [hcast] at hS
   clear hq3
   go_enter Tryz.func68, Tryz.ntmps68
   go_wp2_with fail
   refine (peekR0 hs hat hrd).mono ?_; rintro e w' ⟨rfl, n1, rfl⟩
   rw [hc]
   go_wp2_with fail
   refine (peekR0 hs hat (hrd.drewN n1)).mono ?_; rintro e w' ⟨rfl, n2, rfl⟩
   rw [hc]
   go_wp2_with fail
   refine (op_any c _).mono ?_; rintro e w' ⟨rfl, rfl⟩
   rw [ho]
   go_wp2_with fail
   refine (peekR1 hs hat (hrd.drewN _)).mono ?_; rintro e w' ⟨rfl, n3, rfl⟩
   rw [hd']
   go_wp2_with fail
   refine (op_any d _).mono ?_; rintro e w' ⟨rfl, rfl⟩
   rw [hd2]
   go_wp2
   have HS := hS (n1 + n2 + n3)
   have HM := ((Mv.refl b w).drewN (n1 + n2 + n3)).set_ 1 (.int .i64 ((at_ : Int) + 1))
   obtain ⟨W, hW⟩ : ∃ W, (w.drewN (n1 + n2 + n3)).setCell ⟨b, 1, none⟩ (.int .i64 ((at_ : Int) + 1)) = W := ⟨_, rfl⟩
   rw [hW] at HS HM ⊢
   have e0 := HS.c0
   have e1 := HS.c1
   rw [hcast] at e1
   clear hW
   go_quiet (fail)
   go_wp2
   go_ret
   exact ⟨rfl, HS.drewN _, HM.drewN _⟩
 by_cases h45 : d = 45
 · have hq4 : q = 1 := by rw [hq3, hd2, h45]; rfl
   subst hq4
   have hbd : ((d.toNat : Int) == 45) = true := by rw [h45]; rfl
   have hbd2 : ((d.toNat : Int) != 45) = false := by rw [h45]; rfl
   clear h45
   have hsum : IntKind.i64.wrap ((at_ : Int) + 1) = (at_ : Int) + 1 := IntWalk.i64_in _ (by omega)
   have hsub : IntKind.i64.wrap ((at_ : Int) + 1 - 1) = (at_ : Int) := by rw [show (at_ : Int) + 1 - 1 = (at_ : Int) by omega]; exact IntWalk.i64_in _ (by omega)
   have hsub' : IntKind.i64.wrap (at_ : Int) = (at_ : Int) := IntWalk.i64_in _ (by omega)
   have hs1 : (at_ : Int) + 1 ≤ (s.size : Int) := by omega
   have hs0 : (0 : Int) ≤ (at_ : Int) + 1 := by omega
   have hsn : ((at_ : Int) + 1).toNat = at_ + 1 := by omega
   have hle2 : (at_ : Int) ≤ (at_ : Int) + 1 := by omega
   have hcast : ((at_ + 1 : Nat) : Int) = (at_ : Int) + 1 := by omega
   have hS := fun n => (hrd.drewN n).set_ (at_ + 1)
   rw [hcast] at hS
   clear hq3
   go_enter Tryz.func68, Tryz.ntmps68
   go_wp2_with fail
   refine (peekR0 hs hat hrd).mono ?_; rintro e w' ⟨rfl, n1, rfl⟩
   rw [hc]
   go_wp2_with fail
   refine (peekR0 hs hat (hrd.drewN n1)).mono ?_; rintro e w' ⟨rfl, n2, rfl⟩
   rw [hc]
   go_wp2_with fail
   refine (op_any c _).mono ?_; rintro e w' ⟨rfl, rfl⟩
   rw [ho]
   go_wp2_with fail
   refine (peekR1 hs hat (hrd.drewN _)).mono ?_; rintro e w' ⟨rfl, n3, rfl⟩
   rw [hd']
   go_wp2_with fail
   refine (op_any d _).mono ?_; rintro e w' ⟨rfl, rfl⟩
   rw [hd2]
   go_wp2_with fail
   refine (peekR1 hs hat (hrd.drewN _)).mono ?_; rintro e w' ⟨rfl, n4, rfl⟩
   rw [hd']
   go_wp2
   have HS := hS (n1 + n2 + n3 + n4)
   have HM := ((Mv.refl b w).drewN (n1 + n2 + n3 + n4)).set_ 1 (.int .i64 ((at_ : Int) + 1))
   obtain ⟨W, hW⟩ : ∃ W, (w.drewN (n1 + n2 + n3 + n4)).setCell ⟨b, 1, none⟩ (.int .i64 ((at_ : Int) + 1)) = W := ⟨_, rfl⟩
   rw [hW] at HS HM ⊢
   have e0 := HS.c0
   have e1 := HS.c1
   rw [hcast] at e1
   clear hW
   go_quiet (fail)
   go_wp2
   go_ret
   exact ⟨rfl, HS.drewN _, HM.drewN _⟩
 have hq4 : q = 2 := by rw [hq3, hd2]; simp [h45]
 subst hq4
 have hbd : ((d.toNat : Int) == 45) = false := bne_u8 d 45 (by omega) h45
 have hbd2 : ((d.toNat : Int) != 45) = true := by simp [bne, hbd]
 clear h45
 have hsum : IntKind.i64.wrap ((at_ : Int) + 2) = (at_ : Int) + 2 := IntWalk.i64_in _ (by omega)
 have hsub : IntKind.i64.wrap ((at_ : Int) + 2 - 2) = (at_ : Int) := by rw [show (at_ : Int) + 2 - 2 = (at_ : Int) by omega]; exact IntWalk.i64_in _ (by omega)
 have hsub' : IntKind.i64.wrap (at_ : Int) = (at_ : Int) := IntWalk.i64_in _ (by omega)
 have hs1 : (at_ : Int) + 2 ≤ (s.size : Int) := by omega
 have hs0 : (0 : Int) ≤ (at_ : Int) + 2 := by omega
 have hsn : ((at_ : Int) + 2).toNat = at_ + 2 := by omega
 have hle2 : (at_ : Int) ≤ (at_ : Int) + 2 := by omega
 have hcast : ((at_ + 2 : Nat) : Int) = (at_ : Int) + 2 := by omega
 have hS := fun n => (hrd.drewN n).set_ (at_ + 2)
 rw [hcast] at hS
 clear hq3
 go_enter Tryz.func68, Tryz.ntmps68
 go_wp2_with fail
 refine (peekR0 hs hat hrd).mono ?_; rintro e w' ⟨rfl, n1, rfl⟩
 rw [hc]
 go_wp2_with fail
 refine (peekR0 hs hat (hrd.drewN n1)).mono ?_; rintro e w' ⟨rfl, n2, rfl⟩
 rw [hc]
 go_wp2_with fail
 refine (op_any c _).mono ?_; rintro e w' ⟨rfl, rfl⟩
 rw [ho]
 go_wp2_with fail
 refine (peekR1 hs hat (hrd.drewN _)).mono ?_; rintro e w' ⟨rfl, n3, rfl⟩
 rw [hd']
 go_wp2_with fail
 refine (op_any d _).mono ?_; rintro e w' ⟨rfl, rfl⟩
 rw [hd2]
 go_wp2_with fail
 refine (peekR1 hs hat (hrd.drewN _)).mono ?_; rintro e w' ⟨rfl, n4, rfl⟩
 rw [hd']
 go_wp2
 have HS := hS (n1 + n2 + n3 + n4)
 have HM := ((Mv.refl b w).drewN (n1 + n2 + n3 + n4)).set_ 1 (.int .i64 ((at_ : Int) + 2))
 obtain ⟨W, hW⟩ : ∃ W, (w.drewN (n1 + n2 + n3 + n4)).setCell ⟨b, 1, none⟩ (.int .i64 ((at_ : Int) + 2)) = W := ⟨_, rfl⟩
 rw [hW] at HS HM ⊢
 have e0 := HS.c0
 have e1 := HS.c1
 rw [hcast] at e1
 clear hW
 go_quiet (fail)
 go_wp2
 go_ret
 exact ⟨rfl, HS.drewN _, HM.drewN _⟩
end Lx
end Go.Proofs.YtmmgfifpjifjnaaGreatDoor
namespace Go.Proofs.YtmmgfifpjifjnaaGreatDoor
open Go.RowKit
namespace Lx
theorem kwF_fuel : ∀ (f g : Nat) (r : Bytes), r.length < f → r.length < g → kwF f r = kwF g r
 | 0, _, _, h, _ => absurd h (by omega)
 | _ + 1, 0, _, _, h => absurd h (by omega)
 | f + 1, g + 1, r, h1, h2 => by
  simp only [kwF]
  by_cases hn : nameL r = 0
  · rw [if_pos hn, if_pos hn]
  rw [if_neg hn, if_neg hn]
  have hle := nameL_le r
  rw [kwF_fuel f g (r.drop (nameL r + 1)) (by rw [List.length_drop]; omega) (by rw [List.length_drop]; omega)]
theorem kwL_step (r : Bytes) : kwL r = if nameL r = 0 then 0 else if colonB (r.drop (nameL r)) then nameL r + 1 + kwL (r.drop (nameL r + 1)) else 0 := by
 have hle := nameL_le r
 by_cases hn : nameL r = 0
 · unfold kwL; simp only [kwF]; rw [if_pos hn, if_pos hn]
 rw [if_neg hn]
 have : kwL r = if colonB (r.drop (nameL r)) then nameL r + 1 + kwF r.length (r.drop (nameL r + 1)) else 0 := by
  unfold kwL; simp only [kwF]; rw [if_neg hn]
 rw [this]
 unfold kwL
 rw [kwF_fuel r.length _ (r.drop (nameL r + 1)) (by rw [List.length_drop]; omega) (Nat.lt_succ_self _)]
theorem ext_list (s : ByteArray) (a z : Nat) : (s.extract a z).data.toList = (s.data.toList.take z).drop a := by
 rw [ByteArray.data_extract, Array.toList_extract, List.extract_eq_take_drop, List.drop_take]
theorem ext_some (s : ByteArray) (a z : Nat) (h : a < z) (hz : z ≤ s.size) : ¬ (s.extract a z).toList = [] := by
 rw [ByteArray.toList_eq, ext_list]
 intro h'
 have := congrArg List.length h'
 rw [List.length_drop, List.length_take] at this
 have h2 : s.data.toList.length = s.size := rfl
 simp only [List.length_nil] at this
 omega
theorem ext_none (s : ByteArray) (a : Nat) : (s.extract a a).toList = [] := by
 rw [ByteArray.toList_eq, ext_list]
 exact List.drop_eq_nil_of_le (by rw [List.length_take]; omega)
variable {b at_ : Nat} {s : ByteArray} {w : World}
set_option maxHeartbeats 4000000 in
theorem keywords_any (hs : s.size ≤ 140737488351232) (hat : at_ ≤ s.size) (hrd : Rd RT b s at_ w) :
  Calls Tryz.prog 65 #[.pointer (some ⟨b, 0, none⟩)] w (Turn RT b s (at_ + kwL (s.data.toList.drop at_)) (.string (s.extract at_ (at_ + kwL (s.data.toList.drop at_)))) w) := by
 have c0 := hrd.c0
 have c1 := hrd.c1
 obtain ⟨E, hE⟩ : ∃ E, at_ + kwL (s.data.toList.drop at_) = E := ⟨_, rfl⟩
 rw [hE]
 go_enter Tryz.func65, Tryz.ntmps65
 go_wp2
 go_quiet (fail)
 go_wp2
 go_loopw [4] (fun e wr => ∃ k : Nat, e = .int .i64 (k : Int) ∧ at_ ≤ k ∧ k ≤ s.size ∧ k + kwL (s.data.toList.drop k) = E ∧ Rd RT b s k wr ∧ Mv b w wr) (fun _ wr => s.size - atIn b wr)
 case atStart => exact ⟨at_, rfl, Nat.le_refl _, hat, hE, hrd.drewN _, (Mv.refl _ _).drewN _⟩
 clear c0 c1
 obtain ⟨k, rfl, hk1, hk2, hkE, hr, hmv⟩ := hrel
 have hat2 := hr.at_
 have hst := kwL_step (s.data.toList.drop k)
 obtain ⟨n, hn⟩ : ∃ n, nameL (s.data.toList.drop k) = n := ⟨_, rfl⟩
 have hnle := nameL_le (s.data.toList.drop k)
 rw [dlen] at hnle
 have HC := name_any hs hk2 hr
 rw [hn] at hst hnle HC
 have hkn : k + n ≤ s.size := by omega
 rw [List.drop_drop, List.drop_drop] at hst
 obtain ⟨q, hq⟩ : ∃ q, colonB (s.data.toList.drop (k + n)) = q := ⟨_, rfl⟩
 rw [hq] at hst
 by_cases h0 : n = 0
 · subst h0
   have hEk : E = k := by rw [← hkE, hst]; rfl
   subst hEk
   clear hst hkE hE
   rw [Nat.add_zero] at HC
   have hx0 := ext_none s E
   obtain ⟨x, hx⟩ : ∃ x, s.extract E E = x := ⟨_, rfl⟩
   rw [hx] at HC hx0
   have hx1 : x.toList.isEmpty = true := by rw [hx0]; rfl
   have HX := Lib.hid hx
   clear hx
   have HC := Lib.hid HC
   go_wp2_with fail
   refine HC.out.mono ?_; rintro e w' ⟨rfl, hr2, hm2⟩
   have d0 := hr2.c0
   have d1 := hr2.c1
   have df := hr2.fz
   go_wp2
   go_ret
   exact ⟨rfl, hr2.set_ E, (hmv.trans hm2).set_ 1 _⟩
 have hx0 := ext_some s k (k + n) (by omega) hkn
 rw [if_neg h0] at hst
 obtain ⟨x, hx⟩ : ∃ x, s.extract k (k + n) = x := ⟨_, rfl⟩
 rw [hx] at HC hx0
 have hx1 : x.toList.isEmpty = false := by cases hl : x.toList with | nil => exact absurd hl hx0 | cons _ _ => rfl
 have HC := Lib.hid HC
 have HD := fun (v : World) (hv : Rd RT b s (k + n) v) => colon_any hs hkn hv
 rw [hq] at HD
 have HD := Lib.hid HD
 clear hx
 cases q
 · have hEk : E = k := by rw [← hkE, hst]; rfl
   subst hEk
   clear hst hkE hE
   go_wp2_with fail
   refine HC.out.mono ?_; rintro e w' ⟨rfl, hr2, hm2⟩
   go_wp2_with fail
   refine (HD.out _ hr2).mono ?_; rintro e w'' ⟨rfl, hr3, hm3⟩
   rw [if_neg (by decide), Nat.add_zero] at hr3
   have d0 := hr3.c0
   have d1 := hr3.c1
   have df := hr3.fz
   go_wp2
   go_ret
   exact ⟨rfl, hr3.set_ E, ((hmv.trans hm2).trans hm3).set_ 1 _⟩
 rw [if_pos rfl] at hst
 go_wp2_with fail
 refine HC.out.mono ?_; rintro e w' ⟨rfl, hr2, hm2⟩
 go_wp2_with fail
 refine (HD.out _ hr2).mono ?_; rintro e w'' ⟨rfl, hr3, hm3⟩
 have hr3 : Rd RT b s (k + n + 1) w'' := hr3
 have d1 := hr3.c1
 have hat3 := hr3.at_
 go_wp2
 have hrl := nameL_le (s.data.toList.drop k)
 have hcp := colon_pos _ hq
 rw [dlen] at hcp
 refine ⟨⟨k + n + 1, vint (by omega), by omega, by omega, ?_, hr3, (hmv.trans hm2).trans hm3⟩, ?_⟩
 · rw [show k + n + 1 = k + (n + 1) by omega]; omega
 rw [hat3, hat2]; omega
end Lx
end Go.Proofs.YtmmgfifpjifjnaaGreatDoor
namespace Go.Proofs.YtmmgfifpjifjnaaGreatDoor
open Go.RowKit
namespace Lx
def Fell (b : Nat) (a n : Int) (w : World) (e : Ending) (w' : World) : Prop := e = .panicked [{ v := flt a n, recovered := false }] ∧ Mv b w w'
def Skipped (b : Nat) (s : ByteArray) (at_ : Nat) (x : Except Nat Nat) (w : World) (e : Ending) (w' : World) : Prop :=
 match x with
 | .ok n => Turn RT b s (at_ + n) (.tuple #[]) w e w'
 | .error n => Fell b ((at_ + n : Nat) : Int) 4 w e w'
variable {b at_ : Nat} {s : ByteArray} {w : World}
theorem sk_base (r : Bytes) (p : Nat) : sk none p r = match sk none 0 r with | .ok x => .ok (x + p) | .error x => .error (x + p) := by
 have := sk_shift r none 0 p
 simp only [Option.map_none, Nat.zero_add] at this
 rw [this]
 cases sk none 0 r <;> rfl
set_option maxHeartbeats 4000000 in
theorem skip_any (hs : s.size ≤ 140737488351232) (hat : at_ ≤ s.size) (hrd : Rd RT b s at_ w) :
  Calls Tryz.prog 134 #[.pointer (some ⟨b, 0, none⟩)] w (Skipped b s at_ (sk none 0 (s.data.toList.drop at_)) w) := by
 obtain ⟨E, hE⟩ : ∃ E, sk none at_ (s.data.toList.drop at_) = E := ⟨_, rfl⟩
 have hEE : Skipped b s at_ (sk none 0 (s.data.toList.drop at_)) w = Skipped b s 0 E w := by
  rw [← hE, sk_base _ at_]
  cases sk none 0 (s.data.toList.drop at_) with
  | ok x =>
   funext e w'
   show Turn RT b s (at_ + x) (.tuple #[]) w e w' = Turn RT b s (0 + (x + at_)) (.tuple #[]) w e w'
   rw [show 0 + (x + at_) = at_ + x by omega]
  | error x =>
   funext e w'
   show Fell b ((at_ + x : Nat) : Int) 4 w e w' = Fell b ((0 + (x + at_) : Nat) : Int) 4 w e w'
   rw [show 0 + (x + at_) = at_ + x by omega]
 rw [hEE]
 clear hEE
 go_enter Tryz.func134, Tryz.ntmps134
 go_wp2
 go_loopw [2] (fun e wr => ∃ k : Nat, at_ ≤ k ∧ k ≤ s.size ∧ sk none k (s.data.toList.drop k) = E ∧ Rd RT b s k wr ∧ Mv b w wr) (fun _ wr => s.size - atIn b wr)
 case atStart => exact ⟨at_, Nat.le_refl _, hat, hE, hrd, Mv.refl _ _⟩
 obtain ⟨k, hk1, hk2, hkE, hr, hmv⟩ := hrel
 have hat2 := hr.at_
 obtain ⟨m, hm⟩ : ∃ m, ((s.data.toList.drop k).takeWhile blank).length = m := ⟨_, rfl⟩
 have hrnd := sk_round (s.data.toList.drop k) k m hm
 rw [List.drop_drop, List.drop_drop, List.drop_drop] at hrnd
 have H2 : k + m ≤ s.size := by rw [← hm]; exact tw_fit blank s k hk2
 have H3 : ∀ j, (h : j < s.size) → k ≤ j → j < k + m → blank s[j] = true := fun j h h1 h2 => tw_in blank s k j h h1 (by rw [hm]; exact h2)
 have H4 : (h : k + m < s.size) → blank s[k + m] = false := by subst hm; exact fun h => tw_out blank s k h
 have HC := run_blank b k (k + m) s wr hs (by omega) H2 H3 H4 hr
 obtain ⟨z, hz⟩ : ∃ z, k + m = z := ⟨_, rfl⟩
 rw [hz] at HC H2 hrnd
 clear H3 H4
 have HC := Lib.hid HC
 obtain ⟨c, hc⟩ : ∃ c, hd (s.data.toList.drop z) 0 = c := ⟨_, rfl⟩
 rw [hc] at hrnd
 obtain ⟨h1, h2, h3⟩ := hrnd
 by_cases h34 : c = 34
 · have hb : ((c.toNat : Int) != 34) = false := by rw [h34]; rfl
   have hlt : z < s.size := by
    rcases Nat.lt_or_ge z s.size with h' | h'
    · exact h'
    have := hd_past s z 0 h'; rw [hc, h34] at this; exact absurd this (by decide)
   have hx : (s.extract (z + 1) s.size).data.toList = s.data.toList.drop (z + 1) := by
    rw [ext_list]; congr 1; exact List.take_of_length_le (Nat.le_refl _)
   obtain ⟨x, hx2⟩ : ∃ x, s.extract (z + 1) s.size = x := ⟨_, rfl⟩
   have HI := fun v => Tryz.strings_IndexByte x 34 v
   rw [hx2] at hx
   rw [hx] at HI
   have hg := idx_at 34 (s.data.toList.drop (z + 1))
   have hc34 : (34 : Int).toNat.toUInt8 = 34 := rfl
   rw [hc34] at HI
   have hmz : s.data.toList.drop (k + (m + 1)) = s.data.toList.drop (z + 1) := by rw [← hz]; rfl
   rw [hmz] at h2 h3
   obtain ⟨i, hi⟩ : ∃ i, Lib.indexByte (s.data.toList.drop (z + 1)) 34 = i := ⟨_, rfl⟩
   rw [hi] at HI hg h2 h3
   rw [dlen] at hg
   have HI := Lib.hid HI
   have hsum : IntKind.i64.wrap ((z : Int) + 1) = (z : Int) + 1 := IntWalk.i64_in _ (by omega)
   have hs0 : (0 : Int) ≤ (z : Int) + 1 := by omega
   have hs1 : (z : Int) + 1 ≤ (s.size : Int) := by omega
   have hsn : ((z : Int) + 1).toNat = z + 1 := by omega
   have hq : ∀ v : World, Calls Tryz.prog 140 #[.string x, .int .u8 34] v fun e w' => e = .returned (.int .i64 i) ∧ w' = v := HI.out
   have hq := Lib.hid hq
   have hss : (s.size : Int).toNat = s.size := by omega
   by_cases hneg : i = -1
   · have hE2 := h2 h34 hneg
     subst hneg
     rw [hkE] at hE2
     subst hE2
     clear h1 h2 h3 hkE hE hg hx hi
     go_wp2_with fail
     refine HC.out.mono ?_; rintro e w' ⟨rfl, hr2, hm2⟩
     go_wp2_with fail
     refine (peekR0 hs H2 hr2).mono ?_; rintro e w3 ⟨rfl, n1, hw3⟩
     have hr3 : Rd RT b s z w3 := by rw [hw3]; exact hr2.drewN _
     have hm3 : Mv b w w3 := by rw [hw3]; exact (hmv.trans hm2).drewN _
     clear hw3
     rw [hc]
     have d0 := hr3.c0
     have d1 := hr3.c1
     go_wp2
     go_quiet (first | (go_at_call 140; exact Calls.quiet_of_same (hq.out _)))
     go_wp2_with fail
     refine (stop_any _ 4 _).mono ?_; rintro e w'' ⟨rfl, rfl⟩
     go_wp2
     refine ⟨rfl, ?_, hm3.drewN _⟩
     rw [Nat.zero_add]
   have hE2 := h3 h34 hneg
   obtain ⟨j, hj⟩ : ∃ j : Nat, i = (j : Int) := ⟨i.toNat, by omega⟩
   subst hj
   have hn0 : ¬ (j : Int) < 0 := by omega
   have hjs : z + j + 2 ≤ s.size := by omega
   have hjn : (j : Int).toNat = j := by omega
   have hsum2 : IntKind.i64.wrap ((j : Int) + 2) = (j : Int) + 2 := IntWalk.i64_in _ (by omega)
   have hsum3 : IntKind.i64.wrap ((z : Int) + ((j : Int) + 2)) = (z : Int) + ((j : Int) + 2) := IntWalk.i64_in _ (by omega)
   rw [hjn, hkE, show k + (m + j + 2) = z + j + 2 by omega] at hE2
   have HE := Lib.hid hE2
   clear h1 h2 h3 hkE hE hg hx hi hE2
   go_wp2_with fail
   refine HC.out.mono ?_; rintro e w' ⟨rfl, hr2, hm2⟩
   go_wp2_with fail
   refine (peekR0 hs H2 hr2).mono ?_; rintro e w3 ⟨rfl, n1, hw3⟩
   have hr3 : Rd RT b s z w3 := by rw [hw3]; exact hr2.drewN _
   have hm3 : Mv b w w3 := by rw [hw3]; exact (hmv.trans hm2).drewN _
   clear hw3
   rw [hc]
   have d0 := hr3.c0
   have d1 := hr3.c1
   have df := hr3.fz
   go_wp2
   go_quiet (first | (go_at_call 140; exact Calls.quiet_of_same (hq.out _)))
   go_wp2
   have hS := (hr3.drewN nq).set_ (z + j + 2)
   have hM := (hm3.drewN nq).set_ 1 (.int .i64 ((z : Int) + ((j : Int) + 2)))
   have hcast : ((z + j + 2 : Nat) : Int) = (z : Int) + ((j : Int) + 2) := by omega
   rw [hcast] at hS
   refine ⟨⟨z + j + 2, by omega, hjs, ?_, hS, hM⟩, ?_⟩
   · rw [← hz]; rw [← hz] at HE; exact HE.out.symm
   rw [hS.at_, hat2]; omega
 have hb : ((c.toNat : Int) != 34) = true := by
  simp [bne, show ((c.toNat : Int) == 34) = false from bne_u8 c 34 (by omega) h34]
 have hE2 := h1 h34
 rw [hkE] at hE2
 subst hE2
 clear h1 h2 h3 hkE hE
 go_wp2_with fail
 refine HC.out.mono ?_; rintro e w' ⟨rfl, hr2, hm2⟩
 go_wp2_with fail
 refine (peekR0 hs H2 hr2).mono ?_; rintro e w'' ⟨rfl, n1, rfl⟩
 rw [hc]
 go_wp2
 refine bodyPost_ret (results_none rfl _ _ _) rfl ?_
 exact ⟨rfl, by rw [Nat.zero_add]; exact hr2.drewN _, (hmv.trans hm2).drewN _⟩
end Lx
end Go.Proofs.YtmmgfifpjifjnaaGreatDoor
namespace Go.Proofs.YtmmgfifpjifjnaaGreatDoor
open Go.RowKit
namespace Lx
end Lx
end Go.Proofs.YtmmgfifpjifjnaaGreatDoor
namespace Go.Proofs.YtmmgfifpjifjnaaGreatDoor
open Go.RowKit
namespace Lx
theorem drop_cons (s : ByteArray) (i : Nat) (h : i < s.size) : s.data.toList.drop i = s[i] :: s.data.toList.drop (i + 1) :=
 List.drop_eq_getElem_cons (show i < s.data.toList.length from h)
theorem Mv.on {b : Nat} {w w1 w2 : World} (h : Mv b w w1) (k : Below w.heap.size w1 w2) : Mv b w w2 :=
 ⟨k.os.trans h.os, k.tape.trans h.tape, k.output.trans h.output, Nat.le_trans h.size k.size, fun j hj hne => (k.block j hj).trans (h.block j hj hne)⟩
variable {b at_ : Nat} {s : ByteArray} {w : World}
end Lx
end Go.Proofs.YtmmgfifpjifjnaaGreatDoor
