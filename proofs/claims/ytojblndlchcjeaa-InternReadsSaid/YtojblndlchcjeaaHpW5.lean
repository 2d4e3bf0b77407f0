/- Chapters 08 and 17, the walk, 5: heap's find, Get, Byte. -/
import Derived.Test.YtojblndlchcjeaaHpW4
set_option linter.unusedVariables false
namespace Go.Proofs.Ytojblndlchcjeaa
open Go.RowKit
namespace Hp
open Bs Sm
/-- The cell of a word or byte of an object, and the error. -/
def findL (l : List Ob) (x : Nat) (i : Int) (raw : Bool) : Int × Int :=
  match findO l x with
  | none => (0, 13)
  | some o => if (o.hd.kind == 2) != raw then (0, 13) else if i < 0 ∨ (o.hd.size : Int) ≤ i then (0, 6) else ((o.at_ : Int) + 2 + (if raw then i / 8 else i), 0)
set_option maxHeartbeats 1600000 in
theorem find_false (B : Bks) (N : Nat) (l : List Ob) (last x : Nat) (i : Int) (w : World) (hm : Mem B N l last w) (hx : x < 18446744073709551616) :
    Calls Try.prog 53 #[.pointer (some ⟨B.h, 0, none⟩), .int .u64 (x : Int), .int .i64 i, .bool false] w (Back (.tuple #[.int .i64 (findL l x i false).1, .int .i64 (findL l x i false).2]) w) := by
  have HA := Lib.hid (hat_any B N l last x w hm hx)
  have HM := Lib.hid hm
  cases hf : findO l x with
  | none =>
    have e : findL l x i false = (0, 13) := by unfold findL; rw [hf]
    rw [e]
    rw [hat_none hm.1 hf] at HA
    obtain ⟨a, ha⟩ : ∃ a, hatV l x = a := ⟨_, rfl⟩
    rw [ha] at HA
    clear hm hx hf e ha
    go_enter Try.func53, Try.ntmps53
    go_wp2_with fail
    refine HA.out.mono ?_; rintro e w1 ⟨rfl, hb1⟩
    have HB := Lib.hid hb1
    clear hb1
    go_wp2_with fail
    go_ret2
    exact ⟨rfl, HB.out⟩
  | some o =>
    obtain ⟨e1, e2⟩ := hat_some hm.1 hf
    rw [e1, e2] at HA
    obtain ⟨k, hk⟩ := List.getElem?_of_mem (find_some' hf).1
    have hlt := place_lt hm.1 hk
    have hN := hm.1.hi
    have hok := (okB_iff _).1 (hm.1.ok o (find_some' hf).1).hd
    have HH := Lib.hid (fun w (hm : Mem B N l last w) => head_at B N l last k o w hm hk)
    obtain ⟨a, ha⟩ : ∃ a, o.at_ = a := ⟨_, rfl⟩
    obtain ⟨⟨hc, ks, kz, kx, km⟩, hH⟩ : ∃ h, o.hd = h := ⟨_, rfl⟩
    rw [ha] at HA HH
    rw [hH] at HH
    unfold hdV uV at HH
    dsimp only at HH
    have hL : findL l x i false = if (ks == 2) != false then (0, 13) else if i < 0 ∨ (kz : Int) ≤ i then (0, 6) else ((a : Int) + 2 + (if false then i / 8 else i), 0) := by unfold findL; rw [hf]; dsimp only; rw [ha, hH]
    have hz : kz ≤ 1048576 := by rw [hH] at hok; exact hok.2.2.1
    have han : (a : Int) ≤ 16777216 := by omega
    rw [hL]
    clear hm hx hf e1 e2 hk hlt hN hok ha hH hL
    by_cases h2 : ks = 2
    · subst h2
      rw [if_pos (by decide)]
      have HH2 : Hid (∀ w, Mem B N l last w → Calls Try.prog 60 #[.pointer (some ⟨B.h, 0, none⟩), .int .i64 (a : Int)] w (Back (.agg #[.int .u64 (hc : Int), .int .i64 2, .int .i64 (kz : Int), .int .u32 (kx : Int), .bool km]) w)) := Lib.hid HH.out
      clear HH
      have HH := HH2
      go_enter Try.func53, Try.ntmps53
      go_wp2_with fail
      refine HA.out.mono ?_; rintro e w1 ⟨rfl, hb1⟩
      have HM1 := Lib.hid (HM.out.bel hb1)
      have HB1 := Lib.hid hb1
      clear hb1
      go_wp2_with fail
      refine (HH.out _ HM1.out).mono ?_; rintro e w2 ⟨rfl, hb2⟩
      obtain ⟨W3, hal3⟩ : ∃ W3, w2.alloc (.cells #[.int .u64 (hc : Int), .int .i64 2, .int .i64 (kz : Int), .int .u32 (kx : Int), .bool km] HDT) = W3 := ⟨_, rfl⟩
      have b3 : Below w2.heap.size w2 W3 := by rw [← hal3]; exact alloc_bel _ _
      have qA : Blk HDT w2.heap.size #[.int .u64 (hc : Int), .int .i64 2, .int .i64 (kz : Int), .int .u32 (kx : Int), .bool km] W3 := by rw [← hal3]; exact Blk.made _
      have g1 := qA.c 1 _ rfl
      have g2 := qA.c 2 _ rfl
      have HBf := Lib.hid (HB1.out.trans ((hb2.trans (b3.mono hb2.size)).mono HB1.out.size))
      clear hb2 b3 qA
      go_wp2_with fail
      go_ret2
      exact ⟨rfl, HBf.out⟩
    have hkb : ((ks : Int) == 2) = false := by simp; omega
    rw [if_neg (by simp [h2])]
    simp only [Bool.false_eq_true, if_false]
    clear h2
    by_cases h3 : i < 0
    · rw [if_pos (.inl h3)]
      have hd : decide (i < 0) = true := decide_eq_true h3
      clear h3
      go_enter Try.func53, Try.ntmps53
      go_wp2_with fail
      refine HA.out.mono ?_; rintro e w1 ⟨rfl, hb1⟩
      have HM1 := Lib.hid (HM.out.bel hb1)
      have HB1 := Lib.hid hb1
      clear hb1
      go_wp2_with fail
      refine (HH.out _ HM1.out).mono ?_; rintro e w2 ⟨rfl, hb2⟩
      obtain ⟨W3, hal3⟩ : ∃ W3, w2.alloc (.cells #[.int .u64 (hc : Int), .int .i64 (ks : Int), .int .i64 (kz : Int), .int .u32 (kx : Int), .bool km] HDT) = W3 := ⟨_, rfl⟩
      have b3 : Below w2.heap.size w2 W3 := by rw [← hal3]; exact alloc_bel _ _
      have qA : Blk HDT w2.heap.size #[.int .u64 (hc : Int), .int .i64 (ks : Int), .int .i64 (kz : Int), .int .u32 (kx : Int), .bool km] W3 := by rw [← hal3]; exact Blk.made _
      have g1 := qA.c 1 _ rfl
      have g2 := qA.c 2 _ rfl
      have HBf := Lib.hid (HB1.out.trans ((hb2.trans (b3.mono hb2.size)).mono HB1.out.size))
      clear hb2 b3 qA
      go_wp2_with fail
      go_ret2
      exact ⟨rfl, HBf.out⟩
    have hd : decide (i < 0) = false := decide_eq_false h3
    by_cases h4 : (kz : Int) ≤ i
    · rw [if_pos (.inr h4)]
      have hd2 : decide ((kz : Int) ≤ i) = true := decide_eq_true h4
      clear h3 h4
      go_enter Try.func53, Try.ntmps53
      go_wp2_with fail
      refine HA.out.mono ?_; rintro e w1 ⟨rfl, hb1⟩
      have HM1 := Lib.hid (HM.out.bel hb1)
      have HB1 := Lib.hid hb1
      clear hb1
      go_wp2_with fail
      refine (HH.out _ HM1.out).mono ?_; rintro e w2 ⟨rfl, hb2⟩
      obtain ⟨W3, hal3⟩ : ∃ W3, w2.alloc (.cells #[.int .u64 (hc : Int), .int .i64 (ks : Int), .int .i64 (kz : Int), .int .u32 (kx : Int), .bool km] HDT) = W3 := ⟨_, rfl⟩
      have b3 : Below w2.heap.size w2 W3 := by rw [← hal3]; exact alloc_bel _ _
      have qA : Blk HDT w2.heap.size #[.int .u64 (hc : Int), .int .i64 (ks : Int), .int .i64 (kz : Int), .int .u32 (kx : Int), .bool km] W3 := by rw [← hal3]; exact Blk.made _
      have g1 := qA.c 1 _ rfl
      have g2 := qA.c 2 _ rfl
      have HBf := Lib.hid (HB1.out.trans ((hb2.trans (b3.mono hb2.size)).mono HB1.out.size))
      clear hb2 b3 qA
      go_wp2_with fail
      go_ret2
      exact ⟨rfl, HBf.out⟩
    rw [if_neg (by omega)]
    have hd2 : decide ((kz : Int) ≤ i) = false := decide_eq_false h4
    have hi0 : 0 ≤ i := by omega
    have hi1 : i ≤ 1048576 := by omega
    clear h3 h4
    go_enter Try.func53, Try.ntmps53
    go_wp2_with fail
    refine HA.out.mono ?_; rintro e w1 ⟨rfl, hb1⟩
    have HM1 := Lib.hid (HM.out.bel hb1)
    have HB1 := Lib.hid hb1
    clear hb1
    go_wp2_with fail
    refine (HH.out _ HM1.out).mono ?_; rintro e w2 ⟨rfl, hb2⟩
    obtain ⟨W3, hal3⟩ : ∃ W3, w2.alloc (.cells #[.int .u64 (hc : Int), .int .i64 (ks : Int), .int .i64 (kz : Int), .int .u32 (kx : Int), .bool km] HDT) = W3 := ⟨_, rfl⟩
    have b3 : Below w2.heap.size w2 W3 := by rw [← hal3]; exact alloc_bel _ _
    have qA : Blk HDT w2.heap.size #[.int .u64 (hc : Int), .int .i64 (ks : Int), .int .i64 (kz : Int), .int .u32 (kx : Int), .bool km] W3 := by rw [← hal3]; exact Blk.made _
    have g1 := qA.c 1 _ rfl
    have g2 := qA.c 2 _ rfl
    have HBf := Lib.hid (HB1.out.trans ((hb2.trans (b3.mono hb2.size)).mono HB1.out.size))
    clear hb2 b3 qA
    go_wp2_with fail
    go_ret2
    exact ⟨rfl, HBf.out⟩
set_option maxHeartbeats 1600000 in
theorem find_true (B : Bks) (N : Nat) (l : List Ob) (last x : Nat) (i : Int) (w : World) (hm : Mem B N l last w) (hx : x < 18446744073709551616) :
    Calls Try.prog 53 #[.pointer (some ⟨B.h, 0, none⟩), .int .u64 (x : Int), .int .i64 i, .bool true] w (Back (.tuple #[.int .i64 (findL l x i true).1, .int .i64 (findL l x i true).2]) w) := by
  have HA := Lib.hid (hat_any B N l last x w hm hx)
  have HM := Lib.hid hm
  cases hf : findO l x with
  | none =>
    have e : findL l x i true = (0, 13) := by unfold findL; rw [hf]
    rw [e]
    rw [hat_none hm.1 hf] at HA
    obtain ⟨a, ha⟩ : ∃ a, hatV l x = a := ⟨_, rfl⟩
    rw [ha] at HA
    clear hm hx hf e ha
    go_enter Try.func53, Try.ntmps53
    go_wp2_with fail
    refine HA.out.mono ?_; rintro e w1 ⟨rfl, hb1⟩
    have HB := Lib.hid hb1
    clear hb1
    go_wp2_with fail
    go_ret2
    exact ⟨rfl, HB.out⟩
  | some o =>
    obtain ⟨e1, e2⟩ := hat_some hm.1 hf
    rw [e1, e2] at HA
    obtain ⟨k, hk⟩ := List.getElem?_of_mem (find_some' hf).1
    have hlt := place_lt hm.1 hk
    have hN := hm.1.hi
    have hok := (okB_iff _).1 (hm.1.ok o (find_some' hf).1).hd
    have HH := Lib.hid (fun w (hm : Mem B N l last w) => head_at B N l last k o w hm hk)
    obtain ⟨a, ha⟩ : ∃ a, o.at_ = a := ⟨_, rfl⟩
    obtain ⟨⟨hc, ks, kz, kx, km⟩, hH⟩ : ∃ h, o.hd = h := ⟨_, rfl⟩
    rw [ha] at HA HH
    rw [hH] at HH
    unfold hdV uV at HH
    dsimp only at HH
    have hL : findL l x i true = if (ks == 2) != true then (0, 13) else if i < 0 ∨ (kz : Int) ≤ i then (0, 6) else ((a : Int) + 2 + (if true then i / 8 else i), 0) := by unfold findL; rw [hf]; dsimp only; rw [ha, hH]
    have hz : kz ≤ 1048576 := by rw [hH] at hok; exact hok.2.2.1
    have han : (a : Int) ≤ 16777216 := by omega
    rw [hL]
    clear hm hx hf e1 e2 hk hlt hN hok ha hH hL
    by_cases h2 : ks = 2
    rotate_left
    · have hkb : ((ks : Int) == 2) = false := by simp; omega
      rw [if_pos (by simp [h2])]
      clear h2
      go_enter Try.func53, Try.ntmps53
      go_wp2_with fail
      refine HA.out.mono ?_; rintro e w1 ⟨rfl, hb1⟩
      have HM1 := Lib.hid (HM.out.bel hb1)
      have HB1 := Lib.hid hb1
      clear hb1
      go_wp2_with fail
      refine (HH.out _ HM1.out).mono ?_; rintro e w2 ⟨rfl, hb2⟩
      obtain ⟨W3, hal3⟩ : ∃ W3, w2.alloc (.cells #[.int .u64 (hc : Int), .int .i64 (ks : Int), .int .i64 (kz : Int), .int .u32 (kx : Int), .bool km] HDT) = W3 := ⟨_, rfl⟩
      have b3 : Below w2.heap.size w2 W3 := by rw [← hal3]; exact alloc_bel _ _
      have qA : Blk HDT w2.heap.size #[.int .u64 (hc : Int), .int .i64 (ks : Int), .int .i64 (kz : Int), .int .u32 (kx : Int), .bool km] W3 := by rw [← hal3]; exact Blk.made _
      have g1 := qA.c 1 _ rfl
      have g2 := qA.c 2 _ rfl
      have HBf := Lib.hid (HB1.out.trans ((hb2.trans (b3.mono hb2.size)).mono HB1.out.size))
      clear hb2 b3 qA
      go_wp2_with fail
      go_ret2
      exact ⟨rfl, HBf.out⟩
    subst h2
    rw [if_neg (by decide)]
    simp only [if_true]
    have HH2 : Hid (∀ w, Mem B N l last w → Calls Try.prog 60 #[.pointer (some ⟨B.h, 0, none⟩), .int .i64 (a : Int)] w (Back (.agg #[.int .u64 (hc : Int), .int .i64 2, .int .i64 (kz : Int), .int .u32 (kx : Int), .bool km]) w)) := Lib.hid HH.out
    clear HH
    have HH := HH2
    by_cases h3 : i < 0
    · rw [if_pos (.inl h3)]
      have hd : decide (i < 0) = true := decide_eq_true h3
      clear h3
      go_enter Try.func53, Try.ntmps53
      go_wp2_with fail
      refine HA.out.mono ?_; rintro e w1 ⟨rfl, hb1⟩
      have HM1 := Lib.hid (HM.out.bel hb1)
      have HB1 := Lib.hid hb1
      clear hb1
      go_wp2_with fail
      refine (HH.out _ HM1.out).mono ?_; rintro e w2 ⟨rfl, hb2⟩
      obtain ⟨W3, hal3⟩ : ∃ W3, w2.alloc (.cells #[.int .u64 (hc : Int), .int .i64 2, .int .i64 (kz : Int), .int .u32 (kx : Int), .bool km] HDT) = W3 := ⟨_, rfl⟩
      have b3 : Below w2.heap.size w2 W3 := by rw [← hal3]; exact alloc_bel _ _
      have qA : Blk HDT w2.heap.size #[.int .u64 (hc : Int), .int .i64 2, .int .i64 (kz : Int), .int .u32 (kx : Int), .bool km] W3 := by rw [← hal3]; exact Blk.made _
      have g1 := qA.c 1 _ rfl
      have g2 := qA.c 2 _ rfl
      have HBf := Lib.hid (HB1.out.trans ((hb2.trans (b3.mono hb2.size)).mono HB1.out.size))
      clear hb2 b3 qA
      go_wp2_with fail
      go_ret2
      exact ⟨rfl, HBf.out⟩
    have hd : decide (i < 0) = false := decide_eq_false h3
    by_cases h4 : (kz : Int) ≤ i
    · rw [if_pos (.inr h4)]
      have hd2 : decide ((kz : Int) ≤ i) = true := decide_eq_true h4
      clear h3 h4
      go_enter Try.func53, Try.ntmps53
      go_wp2_with fail
      refine HA.out.mono ?_; rintro e w1 ⟨rfl, hb1⟩
      have HM1 := Lib.hid (HM.out.bel hb1)
      have HB1 := Lib.hid hb1
      clear hb1
      go_wp2_with fail
      refine (HH.out _ HM1.out).mono ?_; rintro e w2 ⟨rfl, hb2⟩
      obtain ⟨W3, hal3⟩ : ∃ W3, w2.alloc (.cells #[.int .u64 (hc : Int), .int .i64 2, .int .i64 (kz : Int), .int .u32 (kx : Int), .bool km] HDT) = W3 := ⟨_, rfl⟩
      have b3 : Below w2.heap.size w2 W3 := by rw [← hal3]; exact alloc_bel _ _
      have qA : Blk HDT w2.heap.size #[.int .u64 (hc : Int), .int .i64 2, .int .i64 (kz : Int), .int .u32 (kx : Int), .bool km] W3 := by rw [← hal3]; exact Blk.made _
      have g1 := qA.c 1 _ rfl
      have g2 := qA.c 2 _ rfl
      have HBf := Lib.hid (HB1.out.trans ((hb2.trans (b3.mono hb2.size)).mono HB1.out.size))
      clear hb2 b3 qA
      go_wp2_with fail
      go_ret2
      exact ⟨rfl, HBf.out⟩
    rw [if_neg (by omega)]
    have hd2 : decide ((kz : Int) ≤ i) = false := decide_eq_false h4
    have hi0 : 0 ≤ i := by omega
    have hi1 : i ≤ 1048576 := by omega
    clear h3 h4
    go_enter Try.func53, Try.ntmps53
    go_wp2_with fail
    refine HA.out.mono ?_; rintro e w1 ⟨rfl, hb1⟩
    have HM1 := Lib.hid (HM.out.bel hb1)
    have HB1 := Lib.hid hb1
    clear hb1
    go_wp2_with fail
    refine (HH.out _ HM1.out).mono ?_; rintro e w2 ⟨rfl, hb2⟩
    obtain ⟨W3, hal3⟩ : ∃ W3, w2.alloc (.cells #[.int .u64 (hc : Int), .int .i64 2, .int .i64 (kz : Int), .int .u32 (kx : Int), .bool km] HDT) = W3 := ⟨_, rfl⟩
    have b3 : Below w2.heap.size w2 W3 := by rw [← hal3]; exact alloc_bel _ _
    have qA : Blk HDT w2.heap.size #[.int .u64 (hc : Int), .int .i64 2, .int .i64 (kz : Int), .int .u32 (kx : Int), .bool km] W3 := by rw [← hal3]; exact Blk.made _
    have g1 := qA.c 1 _ rfl
    have g2 := qA.c 2 _ rfl
    have HBf := Lib.hid (HB1.out.trans ((hb2.trans (b3.mono hb2.size)).mono HB1.out.size))
    clear hb2 b3 qA
    go_wp2_with fail
    go_ret2
    exact ⟨rfl, HBf.out⟩
theorem cast_dm (u m : Nat) : ((u / 2 ^ m % 256 : Nat) : Int) = (u : Int) / 2 ^ m % 256 := by simp
/-- A word of an object, and the error. -/
def getL (l : List Ob) (x : Nat) (i : Int) : Nat × Int :=
  match findO l x with
  | none => (0, 13)
  | some o => if o.hd.kind = 2 then (0, 13) else if i < 0 ∨ (o.hd.size : Int) ≤ i then (0, 6) else (o.words.getD i.toNat 0, 0)
/-- A byte of an object, and the error. -/
def byteL (l : List Ob) (x : Nat) (i : Int) : Nat × Int :=
  match findO l x with
  | none => (0, 13)
  | some o => if o.hd.kind ≠ 2 then (0, 13) else if i < 0 ∨ (o.hd.size : Int) ≤ i then (0, 6) else ((o.bytes.getD i.toNat 0).toNat, 0)
theorem find_get {l : List Ob} {x : Nat} {i : Int} {N last : Nat} (hf : Fine N l last) :
    (findL l x i false).2 = (getL l x i).2 ∧ ((findL l x i false).2 ≠ 0 → (getL l x i).1 = 0) ∧ ((findL l x i false).2 = 0 → 0 ≤ (findL l x i false).1 ∧ (findL l x i false).1 < N ∧ (cellsN N l)[(findL l x i false).1.toNat]? = some (getL l x i).1) := by
  unfold findL getL
  cases h : findO l x with
  | none => exact ⟨rfl, fun _ => rfl, fun h => by simp at h⟩
  | some o =>
    obtain ⟨hmem, -⟩ := find_some' h
    obtain ⟨k, hk⟩ := List.getElem?_of_mem hmem
    dsimp only
    by_cases h2 : o.hd.kind = 2
    · rw [if_pos (show ((o.hd.kind == 2) != false) = true by simp [h2]), if_pos h2]
      exact ⟨rfl, fun _ => rfl, fun h => by simp at h⟩
    rw [if_neg (show ¬ ((o.hd.kind == 2) != false) = true by simp [h2]), if_neg h2]
    by_cases h3 : i < 0 ∨ (o.hd.size : Int) ≤ i
    · rw [if_pos h3, if_pos h3]
      exact ⟨rfl, fun _ => rfl, fun h => by simp at h⟩
    rw [if_neg h3, if_neg h3]
    rw [if_neg (show ¬ (false = true) by decide)]
    refine ⟨rfl, fun h => absurd rfl h, fun _ => ?_⟩
    have hok := hf.ok o hmem
    have hlt := place_lt hf hk
    have hc : cellsL o.hd = o.hd.size := by unfold cellsL; rw [if_neg h2]
    obtain ⟨-, -, hb⟩ := cells_at hf.ch hf.ok hk (List.replicate (N - endL 2 l) 0)
    have hw : o.words[i.toNat]? = some (o.words.getD i.toNat 0) := by
      have := (hok.words h2).1
      rw [List.getD_eq_getElem?_getD, List.getElem?_eq_getElem (by omega)]; rfl
    have := hb i.toNat _ (by unfold bodyW; rw [if_neg h2]; exact hw)
    refine ⟨by omega, by omega, ?_⟩
    rw [show ((o.at_ : Int) + 2 + i).toNat = o.at_ + 2 + i.toNat by omega]
    exact this
theorem find_byte {l : List Ob} {x : Nat} {i : Int} {N last : Nat} (hf : Fine N l last) :
    (findL l x i true).2 = (byteL l x i).2 ∧ ((findL l x i true).2 ≠ 0 → (byteL l x i).1 = 0) ∧ ((findL l x i true).2 = 0 → 0 ≤ i ∧ 0 ≤ (findL l x i true).1 ∧ (findL l x i true).1 < N ∧ ∃ u, u < 18446744073709551616 ∧ (cellsN N l)[(findL l x i true).1.toNat]? = some u ∧ u / 2 ^ (8 * (i.toNat % 8)) % 256 = (byteL l x i).1) := by
  unfold findL byteL
  cases h : findO l x with
  | none => exact ⟨rfl, fun _ => rfl, fun h => by simp at h⟩
  | some o =>
    obtain ⟨hmem, -⟩ := find_some' h
    obtain ⟨k, hk⟩ := List.getElem?_of_mem hmem
    dsimp only
    by_cases h2 : o.hd.kind = 2
    rotate_left
    · rw [if_pos (show ((o.hd.kind == 2) != true) = true by simp [h2]), if_pos h2]
      exact ⟨rfl, fun _ => rfl, fun h => by simp at h⟩
    rw [if_neg (show ¬ ((o.hd.kind == 2) != true) = true by simp [h2]), if_neg (show ¬ o.hd.kind ≠ 2 by simp [h2])]
    by_cases h3 : i < 0 ∨ (o.hd.size : Int) ≤ i
    · rw [if_pos h3, if_pos h3]
      exact ⟨rfl, fun _ => rfl, fun h => by simp at h⟩
    rw [if_neg h3, if_neg h3]
    rw [if_pos (show true = true from rfl)]
    refine ⟨rfl, fun h => absurd rfl h, fun _ => ?_⟩
    have hok := hf.ok o hmem
    have hlt := place_lt hf hk
    have hc : cellsL o.hd = (o.hd.size + 7) / 8 := by unfold cellsL; rw [if_pos h2]
    obtain ⟨-, -, hb⟩ := cells_at hf.ch hf.ok hk (List.replicate (N - endL 2 l) 0)
    have hl := (hok.bytes h2).1
    have hw : o.bytes[i.toNat]? = some (o.bytes.getD i.toNat 0) := by
      rw [List.getD_eq_getElem?_getD, List.getElem?_eq_getElem (by omega)]; rfl
    obtain ⟨u, hu1, hu2⟩ := body_byte hok h2 i.toNat _ hw
    have hcell := hb _ _ hu1
    refine ⟨by omega, by omega, by omega, u, ?_, ?_, ?_⟩
    · have hwl : u = w8 (o.bytes.drop (8 * (i.toNat / 8))) := by
        have := byte_word hok h2 (j := i.toNat) (by omega)
        rw [hu1] at this; cases this; rfl
      rw [hwl]; exact w8_lt _
    · rw [show ((o.at_ : Int) + 2 + i / 8).toNat = o.at_ + 2 + i.toNat / 8 by omega]
      exact hcell
    · rw [← hu2, Nat.pow_mul]
set_option maxHeartbeats 800000 in
theorem get_any (B : Bks) (N : Nat) (l : List Ob) (last x : Nat) (i : Int) (w : World) (hm : Mem B N l last w) (hx : x < 18446744073709551616) :
    Calls Try.prog 25 #[.pointer (some ⟨B.h, 0, none⟩), .int .u64 (x : Int), .int .i64 i] w (Back (.tuple #[uV (getL l x i).1, .int .i64 (getL l x i).2]) w) := by
  have HF := Lib.hid (find_false B N l last x i w hm hx)
  obtain ⟨e1, e2, e3⟩ := find_get (x := x) (i := i) hm.1
  have HM := Lib.hid hm
  have hlen := hm.1.len
  by_cases h0 : (findL l x i false).2 = 0
  · obtain ⟨g1, g2, g3⟩ := e3 h0
    rw [← e1]
    rw [h0] at HF ⊢
    obtain ⟨u, hu⟩ : ∃ u, (getL l x i).1 = u := ⟨_, rfl⟩
    obtain ⟨p, hp⟩ : ∃ p : Nat, (findL l x i false).1 = (p : Int) := ⟨(findL l x i false).1.toNat, by omega⟩
    rw [hp] at HF g2 g3
    rw [hu] at g3 ⊢
    rw [Int.toNat_natCast] at g3
    have HG := Lib.hid g3
    have HL := Lib.hid hlen
    unfold uV
    clear hm hx e1 e2 e3 h0 g1 g3 hu hp hlen
    go_enter Try.func25, Try.ntmps25
    go_wp2_with fail
    refine HF.out.mono ?_; rintro e w1 ⟨rfl, hb1⟩
    obtain ⟨hf, ws, hS, hR⟩ := HM.out.bel hb1
    have c0 := hR.hp.c 0 _ rfl
    rw [HL.out] at c0
    have cr := hR.rc.c p _ (row_get HG.out)
    unfold uV at cr
    have HB := Lib.hid hb1
    clear hb1 hf hS hR
    go_wp2_with fail
    go_ret2
    exact ⟨rfl, HB.out⟩
  · rw [e2 h0, ← e1]
    obtain ⟨r, hr⟩ : ∃ r, (findL l x i false).2 = r := ⟨_, rfl⟩
    obtain ⟨p, hp⟩ : ∃ p, (findL l x i false).1 = p := ⟨_, rfl⟩
    rw [hr] at HF h0 ⊢
    rw [hp] at HF
    have hne : (r == 0) = false := by simpa using h0
    have hne2 : (r != 0) = true := by simpa using h0
    unfold uV
    clear hm hx e1 e2 e3 h0 hr hp hlen
    go_enter Try.func25, Try.ntmps25
    go_wp2_with fail
    refine HF.out.mono ?_; rintro e w1 ⟨rfl, hb1⟩
    have HB := Lib.hid hb1
    clear hb1
    go_wp2_with fail
    go_ret2
    exact ⟨rfl, HB.out⟩
set_option maxHeartbeats 800000 in
theorem byte_any (B : Bks) (N : Nat) (l : List Ob) (last x : Nat) (i : Int) (w : World) (hm : Mem B N l last w) (hx : x < 18446744073709551616) :
    Calls Try.prog 73 #[.pointer (some ⟨B.h, 0, none⟩), .int .u64 (x : Int), .int .i64 i] w (Back (.tuple #[.int .u8 ((byteL l x i).1 : Nat), .int .i64 (byteL l x i).2]) w) := by
  have HF := Lib.hid (find_true B N l last x i w hm hx)
  obtain ⟨e1, e2, e3⟩ := find_byte (x := x) (i := i) hm.1
  have HM := Lib.hid hm
  have hlen := hm.1.len
  by_cases h0 : (findL l x i true).2 = 0
  · obtain ⟨hi0, g1, g2, u, hu1, g3, hu2⟩ := e3 h0
    rw [← e1]
    rw [h0] at HF ⊢
    rw [← hu2]
    obtain ⟨p, hp⟩ : ∃ p : Nat, (findL l x i true).1 = (p : Int) := ⟨(findL l x i true).1.toNat, by omega⟩
    rw [hp] at HF g2 g3
    rw [Int.toNat_natCast] at g3
    obtain ⟨j, rfl⟩ : ∃ j : Nat, i = (j : Int) := ⟨i.toNat, by omega⟩
    have HG := Lib.hid g3
    have HL := Lib.hid hlen
    clear hm hx e1 e2 e3 h0 g1 g3 hu2 hp hlen hi0
    go_enter Try.func73, Try.ntmps73
    go_wp2_with fail
    refine HF.out.mono ?_; rintro e w1 ⟨rfl, hb1⟩
    obtain ⟨hf, ws, hS, hR⟩ := HM.out.bel hb1
    have c0 := hR.hp.c 0 _ rfl
    rw [HL.out] at c0
    have cr := hR.rc.c p _ (row_get HG.out)
    unfold uV at cr
    have HB := Lib.hid hb1
    have HU := Lib.hid hu1
    clear hb1 hf hS hR hu1
    go_wp2_with fail
    go_ret2
    exact ⟨ret2 (vint (by rw [Int.toNat_natCast, cast_dm])) rfl, HB.out⟩
  · rw [e2 h0, ← e1]
    obtain ⟨r, hr⟩ : ∃ r, (findL l x i true).2 = r := ⟨_, rfl⟩
    obtain ⟨p, hp⟩ : ∃ p, (findL l x i true).1 = p := ⟨_, rfl⟩
    rw [hr] at HF h0 ⊢
    rw [hp] at HF
    have hne : (r == 0) = false := by simpa using h0
    have hne2 : (r != 0) = true := by simpa using h0
    clear hm hx e1 e2 e3 h0 hr hp hlen
    go_enter Try.func73, Try.ntmps73
    go_wp2_with fail
    refine HF.out.mono ?_; rintro e w1 ⟨rfl, hb1⟩
    have HB := Lib.hid hb1
    clear hb1
    go_wp2_with fail
    go_ret2
    exact ⟨rfl, HB.out⟩
end Hp
end Go.Proofs.Ytojblndlchcjeaa
