/- Chapter 08, the walk: the reference's find, where there is one. (wip/gen/gen_hprh.py prints it.) · Chapter 08, the walk: the reference's Words. · Chapter 17, the walk: short; the reference's Look. -/
import Derived.Test.YtojblndlchcjeaaHpRe2
import Derived.Deep.CutBlock
set_option linter.unusedVariables false
namespace Go.Proofs.Ytojblndlchcjeaa
open Go.RowKit
namespace Hp
open Bs Sm
abbrev LKT : Nat := 36
def lkV (N : Nat) (lv : Value) (last : Nat) (rv : Value) : Value := .agg #[.int .i64 (N : Int), lv, .int .u32 (last : Int), rv]
def FndR (S : Nat → Prop) (o : Ob) (w : World) (e : Ending) (w' : World) : Prop :=
  ∃ wv bv, e = .returned (.tuple #[obV (o, wv, bv), .bool true]) ∧ Rd S uV w' wv o.words ∧ Rd S byV w' bv o.bytes ∧ Below w.heap.size w w'
set_option maxRecDepth 100000 in
set_option maxHeartbeats 3200000 in
theorem rfnd_some (S : Nat → Prop) (N last x k rn rc : Nat) (ra : Option Addr) (lv : Value) (l : List Ob) (o : Ob) (w : World) (hl : Obs S w lv l) (hat : ∀ o ∈ l, o.at_ ≤ 16777216) (hx : x < 18446744073709551616) (hk : idxO l x = some k) (ho : l[k]? = some o) :
    Calls Try.prog 54 #[lkV N lv last (.slice ra rn rc), .int .u64 (x : Int)] w (FndR S o w) := by
  have HF := Lib.hid (fun v (h : Obs S v lv l) => rfind_any S N last x lv l v h hat hx)
  have hidx : idxI l x = (k : Int) := by unfold idxI; rw [hk]
  rw [hidx] at HF
  have HL := Lib.hid hl
  obtain ⟨a, cap, rfl, -, -⟩ := hl.form
  obtain ⟨m, hm⟩ : ∃ m, l.length = m := ⟨_, rfl⟩
  rw [hm] at HF HL ⊢
  have hkl := (List.getElem?_eq_some_iff.1 ho).1
  have hkm : k < m := by omega
  have hkm2 : (k : Int) < (m : Int) := by omega
  have hk0 : (0 : Int) ≤ (k : Int) := by omega
  have hk1 : decide ((k : Int) < 0) = false := decide_eq_false (by omega)
  have hk2 : ¬ (k : Int) < 0 := by omega
  obtain ⟨W1, hal1⟩ : ∃ W, w.alloc (.cells #[.int .i64 (N : Int), .slice a m cap, .int .u32 (last : Int), .slice ra rn rc] LKT) = W := ⟨_, rfl⟩
  obtain ⟨W2, hal2⟩ : ∃ W, W1.alloc (.cells #[.int .i64 0, .int .u64 0, .int .i64 0, .int .i64 0, .int .u32 0, .bool false, .slice none 0 0, .slice none 0 0] OT) = W := ⟨_, rfl⟩
  have b1 : Below w.heap.size w W1 := by rw [← hal1]; exact alloc_bel w _
  have b2 : Below W1.heap.size W1 W2 := by rw [← hal2]; exact alloc_bel W1 _
  have q1 : Blk LKT w.heap.size #[.int .i64 (N : Int), .slice a m cap, .int .u32 (last : Int), .slice ra rn rc] W1 := by rw [← hal1]; exact Blk.made w
  have q2 : Blk OT W1.heap.size #[.int .i64 0, .int .u64 0, .int .i64 0, .int .i64 0, .int .u32 0, .bool false, .slice none 0 0, .slice none 0 0] W2 := by rw [← hal2]; exact Blk.made W1
  have q12 := q1.below b2 q1.lt
  have c0 : W2.cell? ⟨w.heap.size, 0, none⟩ = some (.int .i64 (N : Int)) := q12.c 0 _ rfl
  have c1 : W2.cell? ⟨w.heap.size, 1, none⟩ = some (.slice a m cap) := q12.c 1 _ rfl
  have c2 : W2.cell? ⟨w.heap.size, 2, none⟩ = some (.int .u32 (last : Int)) := q12.c 2 _ rfl
  have HL2 := Lib.hid ((HL.out.bel b1).bel b2)
  have HB2 := Lib.hid (b1.trans (b2.mono b1.size))
  have HB1 := Lib.hid b1
  have HQ1 := Lib.hid q12
  have HQ2 := Lib.hid q2
  have HO := Lib.hid ho
  obtain ⟨rb, hrb⟩ : ∃ b, W1.heap.size = b := ⟨_, rfl⟩
  rw [hrb] at HQ2
  have HRB := Lib.hid (show w.heap.size ≤ rb by rw [← hrb]; exact b1.size)
  unfold rhV at HF
  unfold lkV
  clear hl hat hx hk ho hidx hkl b1 b2 q1 q2 q12 hm
  go_enter Try.func54, Try.ntmps54
  go_wp2_with fail
  refine (HF.out W2 HL2.out).mono ?_; rintro e w3 ⟨rfl, hb3⟩
  have hB3 := HB2.out.trans (hb3.mono HB2.out.size)
  obtain ⟨g, off, o', wv, bv, rfl, ho', -, hgl, hroww, hrw, hrb'⟩ := HL.out.nth k hkm
  have hrow := hroww.kp (fun i => World.cell?_of_block (hB3.block g hgl))
  have e : o' = o := by have h := HO.out; rw [ho'] at h; exact Option.some.inj h
  subst e
  obtain ⟨wa, wc, rfl, -, -⟩ := hrw.form
  obtain ⟨ba, bc, rfl, -, -⟩ := hrb'.form
  obtain ⟨wn, hwn⟩ : ∃ m, o'.words.length = m := ⟨_, rfl⟩
  obtain ⟨bn, hbn⟩ : ∃ m, o'.bytes.length = m := ⟨_, rfl⟩
  rw [hwn] at hrow hrw
  rw [hbn] at hrow hrb'
  obtain ⟨at_, ⟨kc, kk, kz, kh, km⟩, OW, OB⟩ := o'
  obtain ⟨p, hp⟩ : ∃ p, off + k * 8 = p := ⟨_, rfl⟩
  rw [hp] at hrow
  obtain ⟨r0, r1, r2, r3, r4, r5, r6, r7⟩ := hrow
  dsimp only at r0 r1 r2 r3 r4 r5 r6 r7
  have q3 := HQ1.out.below hb3 HQ1.out.lt
  have d1 : w3.cell? ⟨w.heap.size, 1, none⟩ = some (.slice (some ⟨g, off, none⟩) m cap) := q3.c 1 _ rfl
  have h0 := HQ2.out.below hb3 HQ2.out.lt
  obtain ⟨Y1, hY1⟩ : ∃ Y, w3.setCell ⟨rb, 0, none⟩ (.int .i64 (at_ : Int)) = Y := ⟨_, rfl⟩
  have h1 : Blk OT rb #[.int .i64 (at_ : Int), .int .u64 0, .int .i64 0, .int .i64 0, .int .u32 0, .bool false, .slice none 0 0, .slice none 0 0] Y1 := by rw [← hY1]; exact h0.set_ 0 _ _ rfl
  have t0 : w3.cell? ⟨rb, 0, none⟩ = some (.int .i64 0) := h0.c 0 _ rfl
  have z0 : w3.frozen? ⟨rb, 0, none⟩ = false := h0.fz 0
  obtain ⟨Y2, hY2⟩ : ∃ Y, Y1.setCell ⟨rb, 1, none⟩ (.int .u64 (kc : Int)) = Y := ⟨_, rfl⟩
  have h2 : Blk OT rb #[.int .i64 (at_ : Int), .int .u64 (kc : Int), .int .i64 0, .int .i64 0, .int .u32 0, .bool false, .slice none 0 0, .slice none 0 0] Y2 := by rw [← hY2]; exact h1.set_ 1 _ _ rfl
  have t1 : Y1.cell? ⟨rb, 1, none⟩ = some (.int .u64 0) := h1.c 1 _ rfl
  have z1 : Y1.frozen? ⟨rb, 1, none⟩ = false := h1.fz 1
  obtain ⟨Y3, hY3⟩ : ∃ Y, Y2.setCell ⟨rb, 2, none⟩ (.int .i64 (kk : Int)) = Y := ⟨_, rfl⟩
  have h3 : Blk OT rb #[.int .i64 (at_ : Int), .int .u64 (kc : Int), .int .i64 (kk : Int), .int .i64 0, .int .u32 0, .bool false, .slice none 0 0, .slice none 0 0] Y3 := by rw [← hY3]; exact h2.set_ 2 _ _ rfl
  have t2 : Y2.cell? ⟨rb, 2, none⟩ = some (.int .i64 0) := h2.c 2 _ rfl
  have z2 : Y2.frozen? ⟨rb, 2, none⟩ = false := h2.fz 2
  obtain ⟨Y4, hY4⟩ : ∃ Y, Y3.setCell ⟨rb, 3, none⟩ (.int .i64 (kz : Int)) = Y := ⟨_, rfl⟩
  have h4 : Blk OT rb #[.int .i64 (at_ : Int), .int .u64 (kc : Int), .int .i64 (kk : Int), .int .i64 (kz : Int), .int .u32 0, .bool false, .slice none 0 0, .slice none 0 0] Y4 := by rw [← hY4]; exact h3.set_ 3 _ _ rfl
  have t3 : Y3.cell? ⟨rb, 3, none⟩ = some (.int .i64 0) := h3.c 3 _ rfl
  have z3 : Y3.frozen? ⟨rb, 3, none⟩ = false := h3.fz 3
  obtain ⟨Y5, hY5⟩ : ∃ Y, Y4.setCell ⟨rb, 4, none⟩ (.int .u32 (kh : Int)) = Y := ⟨_, rfl⟩
  have h5 : Blk OT rb #[.int .i64 (at_ : Int), .int .u64 (kc : Int), .int .i64 (kk : Int), .int .i64 (kz : Int), .int .u32 (kh : Int), .bool false, .slice none 0 0, .slice none 0 0] Y5 := by rw [← hY5]; exact h4.set_ 4 _ _ rfl
  have t4 : Y4.cell? ⟨rb, 4, none⟩ = some (.int .u32 0) := h4.c 4 _ rfl
  have z4 : Y4.frozen? ⟨rb, 4, none⟩ = false := h4.fz 4
  obtain ⟨Y6, hY6⟩ : ∃ Y, Y5.setCell ⟨rb, 5, none⟩ (.bool km) = Y := ⟨_, rfl⟩
  have h6 : Blk OT rb #[.int .i64 (at_ : Int), .int .u64 (kc : Int), .int .i64 (kk : Int), .int .i64 (kz : Int), .int .u32 (kh : Int), .bool km, .slice none 0 0, .slice none 0 0] Y6 := by rw [← hY6]; exact h5.set_ 5 _ _ rfl
  have t5 : Y5.cell? ⟨rb, 5, none⟩ = some (.bool false) := h5.c 5 _ rfl
  have z5 : Y5.frozen? ⟨rb, 5, none⟩ = false := h5.fz 5
  obtain ⟨Y7, hY7⟩ : ∃ Y, Y6.setCell ⟨rb, 6, none⟩ (.slice wa wn wc) = Y := ⟨_, rfl⟩
  have h7 : Blk OT rb #[.int .i64 (at_ : Int), .int .u64 (kc : Int), .int .i64 (kk : Int), .int .i64 (kz : Int), .int .u32 (kh : Int), .bool km, .slice wa wn wc, .slice none 0 0] Y7 := by rw [← hY7]; exact h6.set_ 6 _ _ rfl
  have t6 : Y6.cell? ⟨rb, 6, none⟩ = some (.slice none 0 0) := h6.c 6 _ rfl
  have z6 : Y6.frozen? ⟨rb, 6, none⟩ = false := h6.fz 6
  obtain ⟨Y8, hY8⟩ : ∃ Y, Y7.setCell ⟨rb, 7, none⟩ (.slice ba bn bc) = Y := ⟨_, rfl⟩
  have h8 : Blk OT rb #[.int .i64 (at_ : Int), .int .u64 (kc : Int), .int .i64 (kk : Int), .int .i64 (kz : Int), .int .u32 (kh : Int), .bool km, .slice wa wn wc, .slice ba bn bc] Y8 := by rw [← hY8]; exact h7.set_ 7 _ _ rfl
  have t7 : Y7.cell? ⟨rb, 7, none⟩ = some (.slice none 0 0) := h7.c 7 _ rfl
  have z7 : Y7.frozen? ⟨rb, 7, none⟩ = false := h7.fz 7
  have f0 : Y8.cell? ⟨rb, 0, none⟩ = some (.int .i64 (at_ : Int)) := h8.c 0 _ rfl
  have f1 : Y8.cell? ⟨rb, 1, none⟩ = some (.int .u64 (kc : Int)) := h8.c 1 _ rfl
  have f2 : Y8.cell? ⟨rb, 2, none⟩ = some (.int .i64 (kk : Int)) := h8.c 2 _ rfl
  have f3 : Y8.cell? ⟨rb, 3, none⟩ = some (.int .i64 (kz : Int)) := h8.c 3 _ rfl
  have f4 : Y8.cell? ⟨rb, 4, none⟩ = some (.int .u32 (kh : Int)) := h8.c 4 _ rfl
  have f5 : Y8.cell? ⟨rb, 5, none⟩ = some (.bool km) := h8.c 5 _ rfl
  have f6 : Y8.cell? ⟨rb, 6, none⟩ = some (.slice wa wn wc) := h8.c 6 _ rfl
  have f7 : Y8.cell? ⟨rb, 7, none⟩ = some (.slice ba bn bc) := h8.c 7 _ rfl
  have hB8 : Below w.heap.size w Y8 := by
    rw [← hY8, ← hY7, ← hY6, ← hY5, ← hY4, ← hY3, ← hY2, ← hY1]
    exact (((((((hB3.setCell HRB.out _).setCell HRB.out _).setCell HRB.out _).setCell HRB.out _).setCell HRB.out _).setCell HRB.out _).setCell HRB.out _).setCell HRB.out _
  have HRES : Hid (FndR S ⟨at_, ⟨kc, kk, kz, kh, km⟩, OW, OB⟩ w (.returned (.tuple #[.agg #[.int .i64 (at_ : Int), .int .u64 (kc : Int), .int .i64 (kk : Int), .int .i64 (kz : Int), .int .u32 (kh : Int), .bool km, .slice wa wn wc, .slice ba bn bc], .bool true])) Y8) := Lib.hid ⟨_, _, rfl, hrw.below hB8, hrb'.below hB8, hB8⟩
  have hp2 : (⟨g, off, none⟩ : Addr).add (k * 8) = ⟨g, p, none⟩ := by rw [← hp]; unfold Addr.add; split <;> simp_all
  clear hb3 hroww hgl ho' hrw hrb' q3 h0 h1 h2 h3 h4 h5 h6 h7 h8 hB3 hB8 HL HL2
  go_wp2_with fail
  refine bodyPost_ret (v := .tuple #[.agg #[.int .i64 (at_ : Int), .int .u64 (kc : Int), .int .i64 (kk : Int), .int .i64 (kz : Int), .int .u32 (kh : Int), .bool km, .slice wa wn wc, .slice ba bn bc], .bool true]) (by simp [results, Try.results54, go_sem, f0, f1, f2, f3, f4, f5, f6, f7]) rfl ?_
  exact HRES.out
end Hp
end Go.Proofs.Ytojblndlchcjeaa
namespace Go.Proofs.Ytojblndlchcjeaa
open Go.RowKit
namespace Hp
open Bs Sm
def WdsR (S : Nat → Prop) (ws : List Nat) (w : World) (e : Ending) (w' : World) : Prop := ∃ v, e = .returned v ∧ Rd S uV w' v ws ∧ Below w.heap.size w w'
set_option maxRecDepth 100000 in
set_option maxHeartbeats 3200000 in
theorem rwds_some (S : Nat → Prop) (N last x k rn rc : Nat) (ra : Option Addr) (lv : Value) (l : List Ob) (o : Ob) (w : World) (hl : Obs S w lv l) (hat : ∀ o ∈ l, o.at_ ≤ 16777216) (hx : x < 18446744073709551616) (hk : idxO l x = some k) (ho : l[k]? = some o) :
    Calls Try.prog 26 #[lkV N lv last (.slice ra rn rc), .int .u64 (x : Int)] w (WdsR S o.words w) := by
  have HF := Lib.hid (fun v (h : Obs S v lv l) => rfnd_some S N last x k rn rc ra lv l o v h hat hx hk ho)
  have HL := Lib.hid hl
  obtain ⟨a, cap, rfl, -, -⟩ := hl.form
  obtain ⟨m, hm⟩ : ∃ m, l.length = m := ⟨_, rfl⟩
  rw [hm] at HF HL ⊢
  obtain ⟨W1, hal1⟩ : ∃ W, w.alloc (.cells #[.int .i64 (N : Int), .slice a m cap, .int .u32 (last : Int), .slice ra rn rc] LKT) = W := ⟨_, rfl⟩
  have b1 : Below w.heap.size w W1 := by rw [← hal1]; exact alloc_bel w _
  have q1 : Blk LKT w.heap.size #[.int .i64 (N : Int), .slice a m cap, .int .u32 (last : Int), .slice ra rn rc] W1 := by rw [← hal1]; exact Blk.made w
  have c0 : W1.cell? ⟨w.heap.size, 0, none⟩ = some (.int .i64 (N : Int)) := q1.c 0 _ rfl
  have c1 : W1.cell? ⟨w.heap.size, 1, none⟩ = some (.slice a m cap) := q1.c 1 _ rfl
  have c2 : W1.cell? ⟨w.heap.size, 2, none⟩ = some (.int .u32 (last : Int)) := q1.c 2 _ rfl
  have c3 : W1.cell? ⟨w.heap.size, 3, none⟩ = some (.slice ra rn rc) := q1.c 3 _ rfl
  have HL1 := Lib.hid (HL.out.bel b1)
  have HB1 := Lib.hid b1
  obtain ⟨OW, hOW⟩ : ∃ x, o.words = x := ⟨_, rfl⟩
  have HOW := Lib.hid hOW
  rw [hOW]
  unfold lkV at HF ⊢
  clear hl hat hx hk ho hm b1 q1 hOW
  go_enter Try.func26, Try.ntmps26
  go_wp2_with fail
  refine (HF.out W1 HL1.out).mono ?_; rintro e w2 ⟨wv, bv, rfl, hrw, hrb, hb2⟩
  obtain ⟨wa, wc, rfl, -, -⟩ := hrw.form
  obtain ⟨ba, bc, rfl, -, -⟩ := hrb.form
  rw [HOW.out] at hrw ⊢
  obtain ⟨wn, hwn⟩ : ∃ m, OW.length = m := ⟨_, rfl⟩
  obtain ⟨bn, hbn⟩ : ∃ m, o.bytes.length = m := ⟨_, rfl⟩
  rw [hwn] at hrw ⊢
  rw [hbn]
  obtain ⟨at_, ⟨kc, kk, kz, kh, km⟩, OW', OB⟩ := o
  unfold obV uV
  dsimp only
  obtain ⟨W3, hal3⟩ : ∃ W, w2.alloc (.cells #[.int .i64 (at_ : Int), .int .u64 (kc : Int), .int .i64 (kk : Int), .int .i64 (kz : Int), .int .u32 (kh : Int), .bool km, .slice wa wn wc, .slice ba bn bc] OT) = W := ⟨_, rfl⟩
  have b3 : Below w2.heap.size w2 W3 := by rw [← hal3]; exact alloc_bel w2 _
  have q3 : Blk OT w2.heap.size #[.int .i64 (at_ : Int), .int .u64 (kc : Int), .int .i64 (kk : Int), .int .i64 (kz : Int), .int .u32 (kh : Int), .bool km, .slice wa wn wc, .slice ba bn bc] W3 := by rw [← hal3]; exact Blk.made w2
  have d6 : W3.cell? ⟨w2.heap.size, 6, none⟩ = some (.slice wa wn wc) := q3.c 6 _ rfl
  have HRES : Hid (WdsR S OW w (.returned (.slice wa wn wc)) W3) := Lib.hid ⟨_, rfl, hrw.below b3, (HB1.out.trans (hb2.mono HB1.out.size)).trans (b3.mono (Nat.le_trans HB1.out.size hb2.size))⟩
  clear hrw hrb hb2 hwn hbn b3 q3 HOW
  go_wp2_with fail
  go_ret
  exact HRES.out
end Hp
end Go.Proofs.Ytojblndlchcjeaa
namespace Go.Proofs.Ytojblndlchcjeaa
open Go.RowKit
namespace Hp
open Bs Sm
def LkR (S : Nat → Prop) (N last : Nat) (lv : Value) (ws : List Nat) (w : World) (e : Ending) (w' : World) : Prop := ∃ a c, e = .returned (lkV N lv last (.slice a ws.length c)) ∧ Rd S uV w' (.slice a ws.length c) ws ∧ Below w.heap.size w w'
set_option maxRecDepth 100000 in
set_option maxHeartbeats 3200000 in
theorem rlook_any (S : Nat → Prop) (N last x k : Nat) (lv : Value) (l : List Ob) (o : Ob) (w : World) (hl : Obs S w lv l) (hat : ∀ o ∈ l, o.at_ ≤ 16777216) (hx : x < 18446744073709551616) (hk : idxO l x = some k) (ho : l[k]? = some o) :
    Calls Try.prog 7 #[rhV N lv last, .int .u64 (x : Int)] w (LkR S N last lv o.words w) := by
  have HF := Lib.hid (fun v (h : Obs S v lv l) => rfind_any S N last x lv l v h hat hx)
  have hidx : idxI l x = (k : Int) := by unfold idxI; rw [hk]
  rw [hidx] at HF
  have HL := Lib.hid hl
  obtain ⟨a, cap, rfl, -, -⟩ := hl.form
  obtain ⟨m, hm⟩ : ∃ m, l.length = m := ⟨_, rfl⟩
  rw [hm] at HF HL ⊢
  have hkl := (List.getElem?_eq_some_iff.1 ho).1
  have hkm : k < m := by omega
  have hkm2 : (k : Int) < (m : Int) := by omega
  have hk0 : (0 : Int) ≤ (k : Int) := by omega
  obtain ⟨g, off, o', wv, bv, rfl, ho', -, hgl, hroww, hrw, hrb'⟩ := HL.out.nth k hkm
  have e : o' = o := by rw [ho'] at ho; exact Option.some.inj ho
  subst e
  obtain ⟨wa, wc, rfl, -, -⟩ := hrw.form
  obtain ⟨wn, hwn⟩ : ∃ m, o'.words.length = m := ⟨_, rfl⟩
  obtain ⟨OW, hOW⟩ : ∃ x, o'.words = x := ⟨_, rfl⟩
  obtain ⟨p, hp⟩ : ∃ p, off + k * 8 = p := ⟨_, rfl⟩
  obtain ⟨p6, hp6⟩ : ∃ q, p + 6 = q := ⟨_, rfl⟩
  have r6 : w.cell? ⟨g, p6, none⟩ = some (.slice wa wn wc) := by
    have h := hroww.2.2.2.2.2.2.1
    rw [hp, hp6] at h
    rw [← hwn]
    exact h
  rw [hOW] at hrw hwn ⊢
  rw [hwn] at hrw
  obtain ⟨W1, hal1⟩ : ∃ W, w.alloc (.cells #[.int .i64 (N : Int), .slice (some ⟨g, off, none⟩) m cap, .int .u32 (last : Int)] RHT) = W := ⟨_, rfl⟩
  obtain ⟨W2, hal2⟩ : ∃ W, W1.alloc (.cells #[.int .i64 0, .slice none 0 0, .int .u32 0, .slice none 0 0] LKT) = W := ⟨_, rfl⟩
  have b1 : Below w.heap.size w W1 := by rw [← hal1]; exact alloc_bel w _
  have b2 : Below W1.heap.size W1 W2 := by rw [← hal2]; exact alloc_bel W1 _
  have q1 : Blk RHT w.heap.size #[.int .i64 (N : Int), .slice (some ⟨g, off, none⟩) m cap, .int .u32 (last : Int)] W1 := by rw [← hal1]; exact Blk.made w
  have q2 : Blk LKT W1.heap.size #[.int .i64 0, .slice none 0 0, .int .u32 0, .slice none 0 0] W2 := by rw [← hal2]; exact Blk.made W1
  have q12 := q1.below b2 q1.lt
  have hb2 := b1.trans (b2.mono b1.size)
  have HSX : Hid (∀ v, Below W2.heap.size W2 v → v.cell? ⟨w.heap.size, 0, none⟩ = some (.int .i64 (N : Int)) ∧ v.cell? ⟨w.heap.size, 1, none⟩ = some (.slice (some ⟨g, off, none⟩) m cap) ∧ v.cell? ⟨w.heap.size, 2, none⟩ = some (.int .u32 (last : Int)) ∧ v.cell? ⟨g, p6, none⟩ = some (.slice wa wn wc)) := Lib.hid (fun v h => by
    have q := q12.below h q12.lt
    exact ⟨q.c 0 _ rfl, q.c 1 _ rfl, q.c 2 _ rfl, (World.cell?_of_block ((hb2.trans (h.mono hb2.size)).block g hgl)).trans r6⟩)
  obtain ⟨rb, hrb⟩ : ∃ b, W1.heap.size = b := ⟨_, rfl⟩
  rw [hrb] at q2
  have HQ2 := Lib.hid q2
  have HB2 := Lib.hid hb2
  have HRB := Lib.hid (show w.heap.size ≤ rb by rw [← hrb]; exact b1.size)
  have HL2 := Lib.hid ((HL.out.bel b1).bel b2)
  have HRW := Lib.hid hrw
  have HWN := Lib.hid hwn
  have hpk : off + (k * 8 + 6) = p6 := by omega
  unfold rhV at HF ⊢
  clear hl hat hx hk ho hidx hkl hm ho' hroww hrb' hOW r6 b1 b2 q1 q2 q12 hb2 hrw hgl hwn
  go_enter Try.func7, Try.ntmps7
  go_wp2_with fail
  refine wp_region_noPanic ?_
  refine Hd.start (fun v => v.cell? ⟨w.heap.size, 0, none⟩ = some (.int .i64 (N : Int)) ∧ v.cell? ⟨w.heap.size, 1, none⟩ = some (.slice (some ⟨g, off, none⟩) m cap) ∧ v.cell? ⟨w.heap.size, 2, none⟩ = some (.int .u32 (last : Int)) ∧ v.cell? ⟨g, p6, none⟩ = some (.slice wa wn wc)) (by kernel_rfl) (HSX.out _ (below_drewN W2 1)) (fun hH0 => ?_)
  refine Hd.tk 0 9 hH0 ?_
  refine Hd.tk 1 2 hH0 ?_
  refine Hd.tk 2 6 hH0 ?_
  refine Hd.tk 3 5 hH0 ?_
  refine Hd.tk 4 5 hH0 ?_
  refine Hd.on 5 (fun K hK => ?_)
  go_simp
  refine (HF.out _ (HL2.out.bel (below_drewN W2 1))).mono ?_; rintro e w3 ⟨rfl, hb3⟩
  have hb23 := (below_drewN W2 1).trans (hb3.mono (below_drewN W2 1).size)
  have hS3 := HSX.out w3 hb23
  have h0 := HQ2.out.below hb23 HQ2.out.lt
  obtain ⟨Y1, hY1⟩ : ∃ Y, w3.setCell ⟨rb, 0, none⟩ (.int .i64 (N : Int)) = Y := ⟨_, rfl⟩
  obtain ⟨Y2, hY2⟩ : ∃ Y, Y1.setCell ⟨rb, 1, none⟩ (.slice (some ⟨g, off, none⟩) m cap) = Y := ⟨_, rfl⟩
  obtain ⟨Y3, hY3⟩ : ∃ Y, Y2.setCell ⟨rb, 2, none⟩ (.int .u32 (last : Int)) = Y := ⟨_, rfl⟩
  obtain ⟨Y4, hY4⟩ : ∃ Y, Y3.setCell ⟨rb, 3, none⟩ (.slice wa wn wc) = Y := ⟨_, rfl⟩
  have h1 : Blk LKT rb #[.int .i64 (N : Int), .slice none 0 0, .int .u32 0, .slice none 0 0] Y1 := by rw [← hY1]; exact h0.set_ 0 _ _ rfl
  have h2 : Blk LKT rb #[.int .i64 (N : Int), .slice (some ⟨g, off, none⟩) m cap, .int .u32 0, .slice none 0 0] Y2 := by rw [← hY2]; exact h1.set_ 1 _ _ rfl
  have h3 : Blk LKT rb #[.int .i64 (N : Int), .slice (some ⟨g, off, none⟩) m cap, .int .u32 (last : Int), .slice none 0 0] Y3 := by rw [← hY3]; exact h2.set_ 2 _ _ rfl
  have h4 : Blk LKT rb #[.int .i64 (N : Int), .slice (some ⟨g, off, none⟩) m cap, .int .u32 (last : Int), .slice wa wn wc] Y4 := by rw [← hY4]; exact h3.set_ 3 _ _ rfl
  have t0 : w3.cell? ⟨rb, 0, none⟩ = some (.int .i64 0) := h0.c 0 _ rfl
  have t1 : Y1.cell? ⟨rb, 1, none⟩ = some (.slice none 0 0) := h1.c 1 _ rfl
  have t2 : Y2.cell? ⟨rb, 2, none⟩ = some (.int .u32 0) := h2.c 2 _ rfl
  have t3 : Y3.cell? ⟨rb, 3, none⟩ = some (.slice none 0 0) := h3.c 3 _ rfl
  have z0 : w3.frozen? ⟨rb, 0, none⟩ = false := h0.fz 0
  have z1 : Y1.frozen? ⟨rb, 1, none⟩ = false := h1.fz 1
  have z2 : Y2.frozen? ⟨rb, 2, none⟩ = false := h2.fz 2
  have z3 : Y3.frozen? ⟨rb, 3, none⟩ = false := h3.fz 3
  have f0 : Y4.cell? ⟨rb, 0, none⟩ = some (.int .i64 (N : Int)) := h4.c 0 _ rfl
  have f1 : Y4.cell? ⟨rb, 1, none⟩ = some (.slice (some ⟨g, off, none⟩) m cap) := h4.c 1 _ rfl
  have f2 : Y4.cell? ⟨rb, 2, none⟩ = some (.int .u32 (last : Int)) := h4.c 2 _ rfl
  have f3 : Y4.cell? ⟨rb, 3, none⟩ = some (.slice wa wn wc) := h4.c 3 _ rfl
  have hB4 : Below w.heap.size w Y4 := by
    rw [← hY4, ← hY3, ← hY2, ← hY1]
    exact ((((HB2.out.trans (hb23.mono HB2.out.size)).setCell HRB.out _).setCell HRB.out _).setCell HRB.out _).setCell HRB.out _
  have HRES : Hid (LkR S N last (.slice (some ⟨g, off, none⟩) m cap) OW w (.returned (.agg #[.int .i64 (N : Int), .slice (some ⟨g, off, none⟩) m cap, .int .u32 (last : Int), .slice wa wn wc])) Y4) := Lib.hid ⟨wa, wc, by rw [HWN.out]; rfl, by rw [HWN.out]; exact HRW.out.below hB4, hB4⟩
  clear hb3 hb23 h0 h1 h2 h3 h4 hB4
  refine hK.out _ _ hS3 (fun hH1 => ?_)
  clear hK K
  try simp only [Act.put, List.setIfInBounds_toArray, List.set_cons_zero, List.set_cons_succ]
  refine Hd.tk 6 7 hH1 ?_
  refine Hd.tk 7 8 hH1 ?_
  refine Hd.tk 8 9 hH1 ?_
  refine Hd.tk 9 10 hH1 ?_
  refine Hd.la 10 (fun K hK => ?_)
  go_simp
  refine hK.out _ _ ?_
  clear hK K
  try simp only [Act.put, List.setIfInBounds_toArray, List.set_cons_zero, List.set_cons_succ]
  simp only [NoPanic]
  go_wp2_with fail
  refine bodyPost_ret (v := .agg #[.int .i64 (N : Int), .slice (some ⟨g, off, none⟩) m cap, .int .u32 (last : Int), .slice wa wn wc]) (by simp [results, Try.results7, go_sem, f0, f1, f2, f3]) rfl ?_
  exact HRES.out
end Hp
end Go.Proofs.Ytojblndlchcjeaa
