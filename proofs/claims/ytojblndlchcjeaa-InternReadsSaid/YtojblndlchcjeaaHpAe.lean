/- Chapter 17, the walk: numbers of words; the reader's text and class. · Chapter 17, the walk: the reader's class. · Chapter 17, the walk: intern's reader, one step of read (wip/gen/gen_hpqc.py prints this). · Chapter 17, the walk: intern's reader, one step of array (wip/gen/gen_hpqd.py prints this). · Chapter 17, the walk: intern's reader tied to itself; intern.Read (wip/gen/gen_hpqe.py prints this). -/
import Derived.Test.YtojblndlchcjeaaHpAb
import Derived.Test.YtojblndlchcjeaaHpW8
import Derived.Test.YtojblndlchcjeaaHpRe1
import Derived.Test.YtojblndlchcjeaaHpAg
import Derived.Deep.CutBlock
import Derived.Test.YtojblndlchcjeaaHpApp
set_option linter.unusedVariables false
namespace Go.Proofs.Ytojblndlchcjeaa
open Go.RowKit
namespace Hp
open Bs Sm
abbrev RDT : Nat := 86
theorem valW_vw (n : Nat) (h : n < 18446744073709551616) : vw (n : Int) = valW n := by
  unfold vw valW wrap64
  split <;> omega
set_option maxHeartbeats 400000 in
theorem sval_yes (n : Nat) (w : World) (h2 : n < 18446744073709551616) (h : n % 2 = 1) :
    Calls Try.prog 55 #[.int .u64 (n : Int)] w (Done (.tuple #[.int .i64 (valW n), .int .i64 0]) w) := by
  have HV := Lib.hid (valW_vw n h2)
  have HI := Lib.hid (isw_any n w h2)
  have hb : (n % 2 == 1) = true := by simp [h]
  rw [hb] at HI
  have h1 : (0 : Int) ≤ (n : Int) := by omega
  have h3 : (n : Int) ≤ 18446744073709551615 := by omega
  clear h h2 hb
  go_enter Try.func55, Try.ntmps55
  go_wp2_with fail
  refine HI.out.mono ?_; rintro e w' ⟨rfl, rfl⟩
  go_wp2_with fail
  go_ret2
  exact ⟨ret2 (vint HV.out) rfl, rfl⟩
set_option maxHeartbeats 400000 in
theorem sval_no (n : Nat) (w : World) (h2 : n < 18446744073709551616) (h : ¬ n % 2 = 1) :
    Calls Try.prog 55 #[.int .u64 (n : Int)] w (Done (.tuple #[.int .i64 0, .int .i64 13]) w) := by
  have HI := Lib.hid (isw_any n w h2)
  have hb : (n % 2 == 1) = false := by simp; omega
  rw [hb] at HI
  clear h h2 hb
  go_enter Try.func55, Try.ntmps55
  go_wp2_with fail
  refine HI.out.mono ?_; rintro e w' ⟨rfl, rfl⟩
  go_wp2_with fail
  go_ret2
  exact ⟨rfl, rfl⟩
set_option maxHeartbeats 400000 in
theorem rval_any (n : Nat) (w : World) (h2 : n < 18446744073709551616) : Calls Try.prog 30 #[.int .u64 (n : Int)] w (Done (.int .i64 (valW n)) w) := by
  have hv := rvalue (n : Int) (by omega) (by omega)
  rw [valW_vw n h2] at hv
  have H := Lib.hid hv; clear hv
  have h1 : (0 : Int) ≤ (n : Int) := by omega
  have h3 : (n : Int) ≤ 18446744073709551615 := by omega
  clear h2
  by_cases h : 4611686018427387904 ≤ (n : Int) / 2
  · go_enter Try.func30, Try.ntmps30
    go_wp2
    go_ret
    exact ⟨ret1 (vint (by rw [← H.out, if_pos h])), rfl⟩
  · go_enter Try.func30, Try.ntmps30
    go_wp2
    go_ret
    exact ⟨ret1 (vint (by rw [← H.out, if_neg (by omega)])), rfl⟩
/-- The reader, by value. -/
def rdV (B : Bks) (root : Nat) : Value := .agg #[.pointer (some ⟨B.h, 0, none⟩), .int .u64 (root : Int)]
set_option maxHeartbeats 800000 in
theorem rtext_any (B : Bks) (N : Nat) (l : List Ob) (last root x : Nat) (w : World) (hm : Mem B N l last w) (hx : x < 18446744073709551616) :
    Calls Try.prog 56 #[rdV B root, .int .u64 (x : Int)] w (Back (.string ⟨(bytesL l x).1.toArray⟩) w) := by
  unfold rdV
  obtain ⟨W1, hal1⟩ : ∃ W, w.alloc (.cells #[.pointer (some ⟨B.h, 0, none⟩), .int .u64 (root : Int)] RDT) = W := ⟨_, rfl⟩
  have b1 : Below w.heap.size w W1 := by rw [← hal1]; exact alloc_bel w _
  have q1 : Blk RDT w.heap.size #[.pointer (some ⟨B.h, 0, none⟩), .int .u64 (root : Int)] W1 := by rw [← hal1]; exact Blk.made w
  have c0 : W1.cell? ⟨w.heap.size, 0, none⟩ = some (.pointer (some ⟨B.h, 0, none⟩)) := q1.c 0 _ rfl
  have HBY := Lib.hid (bytes_any B N l last x W1 (hm.bel b1) hx)
  have HB1 := Lib.hid b1
  obtain ⟨bb, hbb⟩ : ∃ b, (bytesL l x).1 = b := ⟨_, rfl⟩
  obtain ⟨be, hbe⟩ : ∃ b, (bytesL l x).2 = b := ⟨_, rfl⟩
  rw [hbb, hbe] at HBY
  rw [hbb]
  clear hm hx b1 q1 hbb hbe
  go_enter Try.func56, Try.ntmps56
  go_wp2_with fail
  refine HBY.out.mono ?_; rintro e w2 ⟨v, rfl, hown, hb2⟩
  have hcv : (convert 48 9 v).run Try.prog w2 = .ok (.string ⟨bb.toArray⟩) w2 := own_text _ _ U8 (by kernel_rfl) (by kernel_rfl) (by kernel_rfl) hown
  have HB2 := Lib.hid (HB1.out.trans (hb2.mono HB1.out.size))
  clear hown hb2
  go_wp2_with fail
  go_ret
  exact ⟨rfl, HB2.out⟩
end Hp
end Go.Proofs.Ytojblndlchcjeaa
namespace Go.Proofs.Ytojblndlchcjeaa
open Go.RowKit
namespace Hp
open Bs Sm
def CR (r : Option Bts) (w : World) (e : Ending) (w' : World) : Prop :=
  ∃ (s : ByteArray) (b : Bool), e = .returned (.tuple #[.string s, .bool b]) ∧ (match r with | some nm => b = true ∧ s = ⟨nm.toArray⟩ | none => b = false) ∧ Below w.heap.size w w'
theorem clsPg_eq (L : Look) (glob : Bts → Nat) (x : Nat) (o : Ob) : clsPg L glob x o = if o.hd.kind = 0 ∧ o.hd.size = 5 then (if glob (bytesL L.l (o.words.getD 3 0)).1 ≠ 0 ∧ glob (bytesL L.l (o.words.getD 3 0)).1 = x then some (bytesL L.l (o.words.getD 3 0)).1 else none) else none := by
  cases hf : findO L.l (o.words.getD 3 0) with
  | none => simp only [clsPg, bytesL, hf]
  | some q => by_cases h : q.hd.kind = 2 <;> simp only [clsPg, bytesL, hf, h, ne_eq, not_true_eq_false, not_false_eq_true, if_true, if_false]
set_option maxRecDepth 100000 in
set_option maxHeartbeats 1600000 in
theorem class_any (B : Bks) (N : Nat) (l : List Ob) (last root x : Nat) (o : Ob) (glob : Bts → Nat) (L : Look) (w : World) (hLl : L.l = l) (hm : Mem B N l last w) (hx : x < 18446744073709551616) (ho : findO l x = some o)
    (GL : ∀ (b : Bts) (v : World), Mem B N l last v → Calls Try.prog 9 #[.pointer (some ⟨B.h, 0, none⟩), .int .u64 (root : Int), .string ⟨b.toArray⟩] v (Back (.tuple #[.int .u64 (glob b : Int), .bool (decide (glob b ≠ 0))]) v)) :
    Calls Try.prog 58 #[rdV B root, .int .u64 (x : Int)] w (CR (clsPg L glob x o) w) := by
  have HTX : Hid (∀ (y : Nat) (v : World), y < 18446744073709551616 → Mem B N l last v → Calls Try.prog 56 #[rdV B root, .int .u64 (y : Int)] v (Back (.string ⟨(bytesL l y).1.toArray⟩) v)) := Lib.hid (fun y v hy h => rtext_any B N l last root y v h hy)
  unfold rdV at HTX ⊢
  obtain ⟨W1, hal1⟩ : ∃ W, w.alloc (.cells #[.pointer (some ⟨B.h, 0, none⟩), .int .u64 (root : Int)] RDT) = W := ⟨_, rfl⟩
  have b1 : Below w.heap.size w W1 := by rw [← hal1]; exact alloc_bel w _
  have q1 : Blk RDT w.heap.size #[.pointer (some ⟨B.h, 0, none⟩), .int .u64 (root : Int)] W1 := by rw [← hal1]; exact Blk.made w
  have c0 : W1.cell? ⟨w.heap.size, 0, none⟩ = some (.pointer (some ⟨B.h, 0, none⟩)) := q1.c 0 _ rfl
  have HHD := Lib.hid (Head_some B N l last x o W1 (hm.bel b1) hx ho)
  have HB1 := Lib.hid b1
  have HQ1 := Lib.hid q1
  have HM1 := Lib.hid (hm.bel b1)
  have HGT := Lib.hid (fun v (h : Mem B N l last v) => get_any B N l last x 3 v h hx)
  have HGL := Lib.hid GL
  have HYL : Hid ((getL l x 3).1 < 18446744073709551616) := Lib.hid (get_lt hm.1 x 3)
  have HG3 : Hid (o.hd.kind = 0 → o.hd.size = 5 → getL l x 3 = (o.words.getD 3 0, 0)) := Lib.hid (fun h1 h2 => by
    unfold getL
    rw [ho]
    dsimp only
    rw [if_neg (by omega), if_neg (by omega)]
    rfl)
  rw [clsPg_eq, hLl]
  obtain ⟨at_, ⟨kc, kk, kz, kh, km⟩, OW, OB⟩ := o
  unfold hdV at HHD
  unfold uV at HHD HGT
  dsimp only at HHD HG3 ⊢
  clear hm hx ho GL b1 q1 hLl
  obtain ⟨W3, hW3⟩ : ∃ f : World → World, ∀ v, f v = v.alloc (.cells #[.int .u64 (kc : Int), .int .i64 (kk : Int), .int .i64 (kz : Int), .int .u32 (kh : Int), .bool km] HDT) := ⟨_, fun _ => rfl⟩
  by_cases h1 : kk = 0
  · by_cases h2 : kz = 5
    · rw [if_pos ⟨h1, h2⟩]
      have HG := Lib.hid (HG3.out h1 h2)
      have hk1 : ((kk : Int) != 0) = false := by simp [h1]
      have hk2 : ((kz : Int) != 5) = false := by simp [h2]
      have hgy : (getL l x 3).1 = OW.getD 3 0 := by rw [HG.out]
      obtain ⟨y, hy⟩ : ∃ y, OW.getD 3 0 = y := ⟨_, rfl⟩
      rw [hy] at hgy ⊢
      have HG2 : Hid (∀ v, Mem B N l last v → Calls Try.prog 25 #[.pointer (some ⟨B.h, 0, none⟩), .int .u64 (x : Int), .int .i64 3] v (Back (.tuple #[.int .u64 (y : Int), .int .i64 0]) v)) := Lib.hid (fun v h => by
        have h2 := HGT.out v h
        rw [hgy, HG.out] at h2
        exact h2)
      rw [hgy] at HYL
      have HTY := Lib.hid (fun v (h : Mem B N l last v) => HTX.out y v HYL.out h)
      obtain ⟨nm, hnm⟩ : ∃ b, (bytesL l y).1 = b := ⟨_, rfl⟩
      rw [hnm] at HTY ⊢
      have HGN := Lib.hid (HGL.out nm)
      obtain ⟨G, hG⟩ : ∃ g, glob nm = g := ⟨_, rfl⟩
      rw [hG] at HGN ⊢
      obtain ⟨IS, hIS⟩ : ∃ b, decide (G ≠ 0) = b := ⟨_, rfl⟩
      rw [hIS] at HGN
      have HIS := Lib.hid hIS
      obtain ⟨R, hR⟩ : ∃ R, (if G ≠ 0 ∧ G = x then some nm else none) = R := ⟨_, rfl⟩
      rw [hR]
      have HR := Lib.hid hR
      clear hR h1 h2 hgy hy HG HGT HGL HTX HG3 hnm hG hIS hW3
      go_enter Try.func58, Try.ntmps58
      go_wp2_with fail
      refine HHD.out.mono ?_; rintro e w2 ⟨rfl, hb2⟩
      obtain ⟨W3, hal3⟩ : ∃ W, w2.alloc (.cells #[.int .u64 (kc : Int), .int .i64 (kk : Int), .int .i64 (kz : Int), .int .u32 (kh : Int), .bool km] HDT) = W := ⟨_, rfl⟩
      have b3 : Below w2.heap.size w2 W3 := by rw [← hal3]; exact alloc_bel w2 _
      have q3 : Blk HDT w2.heap.size #[.int .u64 (kc : Int), .int .i64 (kk : Int), .int .i64 (kz : Int), .int .u32 (kh : Int), .bool km] W3 := by rw [← hal3]; exact Blk.made w2
      have d1 : W3.cell? ⟨w2.heap.size, 1, none⟩ = some (.int .i64 (kk : Int)) := q3.c 1 _ rfl
      have d2 : W3.cell? ⟨w2.heap.size, 2, none⟩ = some (.int .i64 (kz : Int)) := q3.c 2 _ rfl
      have hb13 := hb2.trans (b3.mono hb2.size)
      have HB3 := Lib.hid (HB1.out.trans (hb13.mono HB1.out.size))
      have HM3 := Lib.hid (HM1.out.bel hb13)
      have qq := HQ1.out.below hb13 HQ1.out.lt
      have e0 : W3.cell? ⟨w.heap.size, 0, none⟩ = some (.pointer (some ⟨B.h, 0, none⟩)) := qq.c 0 _ rfl
      have e1 : W3.cell? ⟨w.heap.size, 1, none⟩ = some (.int .u64 (root : Int)) := qq.c 1 _ rfl
      have HQ3 := Lib.hid qq
      clear hb2 b3 q3 hb13 qq c0
      go_wp2_with fail
      refine (HG2.out W3 HM3.out).mono ?_; rintro e w4 ⟨rfl, hb4⟩
      have HB4 := Lib.hid (HB3.out.trans (hb4.mono HB3.out.size))
      have HM4 := Lib.hid (HM3.out.bel hb4)
      have qq := HQ3.out.below hb4 HQ3.out.lt
      have f0 : w4.cell? ⟨w.heap.size, 0, none⟩ = some (.pointer (some ⟨B.h, 0, none⟩)) := qq.c 0 _ rfl
      have f1 : w4.cell? ⟨w.heap.size, 1, none⟩ = some (.int .u64 (root : Int)) := qq.c 1 _ rfl
      have HQ4 := Lib.hid qq
      clear hb4 qq e0 e1 d1 d2
      go_wp2_with fail
      refine (HTY.out w4 HM4.out).mono ?_; rintro e w5 ⟨rfl, hb5⟩
      have HB5 := Lib.hid (HB4.out.trans (hb5.mono HB4.out.size))
      have HM5 := Lib.hid (HM4.out.bel hb5)
      have qq := HQ4.out.below hb5 HQ4.out.lt
      have g0 : w5.cell? ⟨w.heap.size, 0, none⟩ = some (.pointer (some ⟨B.h, 0, none⟩)) := qq.c 0 _ rfl
      have g1 : w5.cell? ⟨w.heap.size, 1, none⟩ = some (.int .u64 (root : Int)) := qq.c 1 _ rfl
      clear hb5 qq f0 f1
      go_wp2_with fail
      refine (HGN.out w5 HM5.out).mono ?_; rintro e w6 ⟨rfl, hb6⟩
      have HB6 := Lib.hid (HB5.out.trans (hb6.mono HB5.out.size))
      clear hb6 g0 g1
      by_cases hg0 : G = 0
      · obtain rfl : IS = false := by rw [← HIS.out]; simp [hg0]
        clear hg0
        go_wp2_with fail
        go_ret2
        exact ⟨_, _, rfl, by rw [← HR.out, if_neg (fun h => by have := HIS.out; simp [h.1] at this)], HB6.out⟩
      · obtain rfl : IS = true := by rw [← HIS.out]; simp [hg0]
        by_cases hgx : G = x
        · have hgb : ((G : Int) == (x : Int)) = true := by simp [hgx]
          have HRR : Hid (R = some nm) := Lib.hid (by rw [← HR.out, if_pos ⟨hg0, hgx⟩])
          clear hg0 hgx
          go_wp2_with fail
          go_ret2
          exact ⟨_, _, rfl, by rw [HRR.out]; exact ⟨rfl, rfl⟩, HB6.out⟩
        · have hgb : ((G : Int) == (x : Int)) = false := by simp; omega
          have HRR : Hid (R = none) := Lib.hid (by rw [← HR.out, if_neg (fun h => hgx h.2)])
          clear hg0 hgx
          go_wp2_with fail
          go_ret2
          exact ⟨_, _, rfl, by rw [HRR.out], HB6.out⟩
    · rw [if_neg (fun h => h2 h.2)]
      have hk1 : ((kk : Int) != 0) = false := by simp [h1]
      have hk2 : ((kz : Int) != 5) = true := by simp; omega
      clear h1 h2 HGT HGL HTX HG3 hW3
      go_enter Try.func58, Try.ntmps58
      go_wp2_with fail
      refine HHD.out.mono ?_; rintro e w2 ⟨rfl, hb2⟩
      obtain ⟨W3, hal3⟩ : ∃ W, w2.alloc (.cells #[.int .u64 (kc : Int), .int .i64 (kk : Int), .int .i64 (kz : Int), .int .u32 (kh : Int), .bool km] HDT) = W := ⟨_, rfl⟩
      have b3 : Below w2.heap.size w2 W3 := by rw [← hal3]; exact alloc_bel w2 _
      have q3 : Blk HDT w2.heap.size #[.int .u64 (kc : Int), .int .i64 (kk : Int), .int .i64 (kz : Int), .int .u32 (kh : Int), .bool km] W3 := by rw [← hal3]; exact Blk.made w2
      have d1 : W3.cell? ⟨w2.heap.size, 1, none⟩ = some (.int .i64 (kk : Int)) := q3.c 1 _ rfl
      have d2 : W3.cell? ⟨w2.heap.size, 2, none⟩ = some (.int .i64 (kz : Int)) := q3.c 2 _ rfl
      have HB3 := Lib.hid (HB1.out.trans ((hb2.trans (b3.mono hb2.size)).mono HB1.out.size))
      clear hb2 b3 q3 c0
      go_wp2_with fail
      go_ret2
      exact ⟨_, _, rfl, rfl, HB3.out⟩
  · rw [if_neg (fun h => h1 h.1)]
    have hk1 : ((kk : Int) != 0) = true := by simp; omega
    clear h1 HGT HGL HTX HG3 hW3
    go_enter Try.func58, Try.ntmps58
    go_wp2_with fail
    refine HHD.out.mono ?_; rintro e w2 ⟨rfl, hb2⟩
    obtain ⟨W3, hal3⟩ : ∃ W, w2.alloc (.cells #[.int .u64 (kc : Int), .int .i64 (kk : Int), .int .i64 (kz : Int), .int .u32 (kh : Int), .bool km] HDT) = W := ⟨_, rfl⟩
    have b3 : Below w2.heap.size w2 W3 := by rw [← hal3]; exact alloc_bel w2 _
    have q3 : Blk HDT w2.heap.size #[.int .u64 (kc : Int), .int .i64 (kk : Int), .int .i64 (kz : Int), .int .u32 (kh : Int), .bool km] W3 := by rw [← hal3]; exact Blk.made w2
    have d1 : W3.cell? ⟨w2.heap.size, 1, none⟩ = some (.int .i64 (kk : Int)) := q3.c 1 _ rfl
    have d2 : W3.cell? ⟨w2.heap.size, 2, none⟩ = some (.int .i64 (kz : Int)) := q3.c 2 _ rfl
    have HB3 := Lib.hid (HB1.out.trans ((hb2.trans (b3.mono hb2.size)).mono HB1.out.size))
    clear hb2 b3 q3 c0
    go_wp2_with fail
    go_ret2
    exact ⟨_, _, rfl, rfl, HB3.out⟩
end Hp
end Go.Proofs.Ytojblndlchcjeaa
namespace Go.Proofs.Ytojblndlchcjeaa
open Go.RowKit
namespace Hp
open Bs Sm
section
variable {T k B : Nat} {a0 a1 a2 a3 a4 a5 v0 v1 v2 v3 v4 v5 : Value} {S : Nat → Prop} {w w0 : World}
theorem blk_set6 (h : Blk T k #[a0, a1, a2, a3, a4, a5] w) (v0 v1 v2 v3 v4 v5 : Value) : Blk T k #[v0, v1, v2, v3, v4, v5] ((((((w.setCell ⟨k, 0, none⟩ v0).setCell ⟨k, 1, none⟩ v1).setCell ⟨k, 2, none⟩ v2).setCell ⟨k, 3, none⟩ v3).setCell ⟨k, 4, none⟩ v4).setCell ⟨k, 5, none⟩ v5) :=
  ((((((h.set_ 0 v0 _ rfl).set_ 1 v1 _ rfl).set_ 2 v2 _ rfl).set_ 3 v3 _ rfl).set_ 4 v4 _ rfl).set_ 5 v5 _ rfl)
theorem bel_set6 (h : Below B w0 w) (hk : B ≤ k) (v0 v1 v2 v3 v4 v5 : Value) : Below B w0 ((((((w.setCell ⟨k, 0, none⟩ v0).setCell ⟨k, 1, none⟩ v1).setCell ⟨k, 2, none⟩ v2).setCell ⟨k, 3, none⟩ v3).setCell ⟨k, 4, none⟩ v4).setCell ⟨k, 5, none⟩ v5) :=
  (((((h.setCell hk _).setCell hk _).setCell hk _).setCell hk _).setCell hk _).setCell hk _
theorem kp_set6 (hS : ¬ S k) (v0 v1 v2 v3 v4 v5 : Value) : Kp S w ((((((w.setCell ⟨k, 0, none⟩ v0).setCell ⟨k, 1, none⟩ v1).setCell ⟨k, 2, none⟩ v2).setCell ⟨k, 3, none⟩ v3).setCell ⟨k, 4, none⟩ v4).setCell ⟨k, 5, none⟩ v5) := ⟨by simp [World.setCell], fun b hb _ => by
  have hne : b ≠ k := fun e => hS (e ▸ hb)
  rw [Below.heap_setCell _ ⟨k, 5, none⟩ _ b hne, Below.heap_setCell _ ⟨k, 4, none⟩ _ b hne, Below.heap_setCell _ ⟨k, 3, none⟩ _ b hne, Below.heap_setCell _ ⟨k, 2, none⟩ _ b hne, Below.heap_setCell _ ⟨k, 1, none⟩ _ b hne, Below.heap_setCell _ ⟨k, 0, none⟩ _ b hne]⟩
end
/-- No item. -/
def itZ : Value := .agg #[.int .i64 0, .string ⟨#[]⟩, .int .i64 0, .int .i64 0, .int .i64 0, .slice none 0 0]
/-- A literal that was read, or the error. -/
def RdR (R : Except Int It) (w : World) (e : Ending) (w' : World) : Prop := Below w.heap.size w w' ∧ (match R with
  | .error er => er ≠ 0 ∧ e = .returned (.tuple #[itZ, .int .i64 er])
  | .ok x => ∃ ka kc, e = .returned (.tuple #[itV x (.slice ka x.kids.length kc), .int .i64 0]) ∧ Its (fun b => w.heap.size ≤ b) w' (.slice ka x.kids.length kc) x.kids)
theorem RdR.pass {R : Except Int It} {w w' u Wf : World} {e : Ending} (h : RdR R w e w') (hk : Kp (fun b => w.heap.size ≤ b) w' Wf) (hu : u.heap.size ≤ w.heap.size) (hb : Below u.heap.size u Wf) : RdR R u e Wf := by
  obtain ⟨-, h⟩ := h
  refine ⟨hb, ?_⟩
  cases R with
  | error er => exact h
  | ok x =>
    obtain ⟨ka, kc, h1, h2⟩ := h
    exact ⟨ka, kc, h1, (h2.kp hk).mono (fun b hb _ => Nat.le_trans hu hb)⟩
theorem RdR.form {R : Except Int It} {w w' : World} {e : Ending} (h : RdR R w e w') : ∃ (k : Int) (s : ByteArray) (n sl wd : Int) (ka : Option Addr) (kn kc : Nat) (er : Int), e = .returned (.tuple #[.agg #[.int .i64 k, .string s, .int .i64 n, .int .i64 sl, .int .i64 wd, .slice ka kn kc], .int .i64 er]) := by
  obtain ⟨-, h⟩ := h
  cases R with
  | error er => exact ⟨0, ⟨#[]⟩, 0, 0, 0, none, 0, 0, er, h.2⟩
  | ok x =>
    obtain ⟨ka, kc, h1, -⟩ := h
    exact ⟨x.kind, ⟨x.name.toArray⟩, x.num, x.slot, x.width, ka, x.kids.length, kc, 0, h1⟩
/-- What the reader wants of memory. -/
structure RdC (B : Bks) (N : Nat) (l : List Ob) (last root : Nat) (L : Look) (glob : Bts → Nat) : Prop where
  hl : L.l = l
  rx : root < 18446744073709551616
  rt_ : ∀ i : Nat, i < 24 → getL l root (i : Int) = (rt L i, 0)
  gl : ∀ (b : Bts) (v : World), Mem B N l last v → Calls Try.prog 9 #[.pointer (some ⟨B.h, 0, none⟩), .int .u64 (root : Int), .string ⟨b.toArray⟩] v (Back (.tuple #[.int .u64 (glob b : Int), .bool (decide (glob b ≠ 0))]) v)
  arr : ∀ o ∈ l, o.hd.cls = rt L 14 → o.hd.kind ≠ 2
def arrW : Except Int (List It) → Except Int It
  | .error e => .error e
  | .ok r => .ok (itm 4 0 [] r)
/-- An array's answer. -/
def arrG (L : Look) (cl : Nat → Ob → Option Bts) (f deep : Nat) (ws : List Nat) : Except Int It :=
  if 40 < deep then .error 10 else arrW (allE (fun x => readG L 13 10 cl f x (deep + 1)) ws)
theorem readG_eq (L : Look) (cl : Nat → Ob → Option Bts) (f w deep : Nat) : readG L 13 10 cl (f + 1) w deep =
    if w % 2 = 1 then .ok (itm 1 (valW w) [] [])
    else if w = rt L 0 then .ok (itm 5 0 [] [])
    else if w = rt L 1 then .ok (itm 6 0 [] [])
    else if w = rt L 2 then .ok (itm 7 0 [] [])
    else match findO L.l w with
      | none => .error 13
      | some o =>
        if o.hd.cls = rt L 12 then .ok (itm 2 0 o.bytes [])
        else if o.hd.cls = rt L 13 then .ok (itm 3 0 o.bytes [])
        else if o.hd.cls = rt L 14 then arrG L cl f deep o.words
        else match cl w o with
          | some b => .ok (itm 9 0 b [])
          | none => .error 13 := by
  rw [readG]; rfl
theorem bytes_ob {l : List Ob} {x : Nat} {o : Ob} (ho : findO l x = some o) (hok : OkO o) : (bytesL l x).1 = o.bytes := by
  unfold bytesL
  rw [ho]
  dsimp only
  by_cases h : o.hd.kind = 2
  · rw [if_neg (by simp [h])]
  · rw [if_pos h, (hok.words h).2.1]
theorem rt_case {L : Look} {x k : Nat} {X : Except Int It} (hk : k < 3) (hx : x = rt L k) (hno : ∀ j, j < k → x ≠ rt L j) :
    (if x = rt L 0 then .ok (itm 5 0 [] []) else if x = rt L 1 then .ok (itm 6 0 [] []) else if x = rt L 2 then .ok (itm 7 0 [] []) else X) = (.ok (itm (5 + k) 0 [] []) : Except Int It) := by
  have hc : k = 0 ∨ k = 1 ∨ k = 2 := by omega
  rcases hc with rfl | rfl | rfl
  · rw [if_pos hx]
  · rw [if_neg (hno 0 (by omega)), if_pos hx]
  · rw [if_neg (hno 0 (by omega)), if_neg (hno 1 (by omega)), if_pos hx]
set_option maxRecDepth 100000 in
set_option maxHeartbeats 3200000 in
theorem read_step (B : Bks) (N : Nat) (l : List Ob) (last root : Nat) (L : Look) (glob : Bts → Nat) (C : RdC B N l last root L glob) (f deep : Nat) (hd : deep ≤ 41)
    (ARR : ∀ (x : Nat) (o : Ob) (w : World), Mem B N l last w → x < 18446744073709551616 → findO l x = some o → o.hd.kind ≠ 2 → Calls Try.prog 57 #[rdV B root, .int .u64 (x : Int), .int .i64 (o.hd.size : Int), .int .i64 (deep : Int)] w (RdR (arrG L (clsPg L glob) f deep o.words) w))
    (x : Nat) (w : World) (hm : Mem B N l last w) (hx : x < 18446744073709551616) :
    Calls Try.prog 28 #[rdV B root, .int .u64 (x : Int), .int .i64 (deep : Int)] w (RdR (readG L 13 10 (clsPg L glob) (f + 1) x deep) w) := by
  rw [readG_eq]
  have HSP : Hid (∀ (i : Nat) (v : World), i < 24 → Mem B N l last v → Calls Try.prog 23 #[.pointer (some ⟨B.h, 0, none⟩), .int .u64 (root : Int), .int .i64 (i : Int)] v (Back (.int .u64 (rt L i : Int)) v)) := Lib.hid (fun i v hi h => by
    have := special_any B N l last root (i : Int) v h C.rx
    rw [C.rt_ i hi] at this
    exact this)
  have HTX : Hid (∀ v, Mem B N l last v → Calls Try.prog 56 #[rdV B root, .int .u64 (x : Int)] v (Back (.string ⟨(bytesL l x).1.toArray⟩) v)) := Lib.hid (fun v h => rtext_any B N l last root x v h hx)
  have HCL : Hid (∀ o v, findO l x = some o → Mem B N l last v → Calls Try.prog 58 #[rdV B root, .int .u64 (x : Int)] v (CR (clsPg L glob x o) v)) := Lib.hid (fun o v ho h => class_any B N l last root x o glob L v C.hl h hx ho C.gl)
  have HARR : Hid (∀ o v, findO l x = some o → o.hd.kind ≠ 2 → Mem B N l last v → Calls Try.prog 57 #[rdV B root, .int .u64 (x : Int), .int .i64 (o.hd.size : Int), .int .i64 (deep : Int)] v (RdR (arrG L (clsPg L glob) f deep o.words) v)) := Lib.hid (fun o v ho hk h => ARR x o v h hx ho hk)
  have HOKO := Lib.hid hm.1.ok
  have HCA := Lib.hid C.arr
  have HLL := Lib.hid C.hl
  unfold rdV at HTX HCL HARR ⊢
  obtain ⟨W1, hal1⟩ : ∃ W, w.alloc (.cells #[.pointer (some ⟨B.h, 0, none⟩), .int .u64 (root : Int)] RDT) = W := ⟨_, rfl⟩
  have b1 : Below w.heap.size w W1 := by rw [← hal1]; exact alloc_bel w _
  have q1 : Blk RDT w.heap.size #[.pointer (some ⟨B.h, 0, none⟩), .int .u64 (root : Int)] W1 := by rw [← hal1]; exact Blk.made w
  obtain ⟨W2, hal2⟩ : ∃ W, W1.alloc (.cells #[.int .i64 0, .string ⟨#[]⟩, .int .i64 0, .int .i64 0, .int .i64 0, .slice none 0 0] IT) = W := ⟨_, rfl⟩
  have b2 : Below W1.heap.size W1 W2 := by rw [← hal2]; exact alloc_bel W1 _
  have q2 : Blk IT W1.heap.size #[.int .i64 0, .string ⟨#[]⟩, .int .i64 0, .int .i64 0, .int .i64 0, .slice none 0 0] W2 := by rw [← hal2]; exact Blk.made W1
  have q12 := q1.below b2 q1.lt
  have hrblt := q1.lt
  obtain ⟨rb, hrb⟩ : ∃ b, W1.heap.size = b := ⟨_, rfl⟩
  rw [hrb] at q2 hrblt
  have HRB := Lib.hid (show w.heap.size ≤ rb by omega)
  have HQ2 := Lib.hid q2
  have HR2 := Lib.hid q12
  have HB2 := Lib.hid (b1.trans (b2.mono b1.size))
  have HM2 := Lib.hid ((hm.bel b1).bel b2)
  have c0 : W2.cell? ⟨w.heap.size, 0, none⟩ = some (.pointer (some ⟨B.h, 0, none⟩)) := q12.c 0 _ rfl
  have c1 : W2.cell? ⟨w.heap.size, 1, none⟩ = some (.int .u64 (root : Int)) := q12.c 1 _ rfl
  clear b1 q1 b2 q2 q12 ARR C hm
  by_cases hodd : x % 2 = 1
  · rw [if_pos hodd]
    have HSV := Lib.hid (sval_yes x W2 hx hodd)
    obtain ⟨V, hV⟩ : ∃ V, valW x = V := ⟨_, rfl⟩
    rw [hV] at HSV ⊢
    clear hodd hx hV HSP HTX HCL HARR HCA
    go_enter Try.func28, Try.ntmps28
    go_wp2_with fail
    refine HSV.out.mono ?_; rintro e w3 ⟨rfl, rfl⟩
    have g0_ := HQ2.out.c 0 _ rfl
    have g1_ := HQ2.out.c 1 _ rfl
    have g2_ := HQ2.out.c 2 _ rfl
    have g3_ := HQ2.out.c 3 _ rfl
    have g4_ := HQ2.out.c 4 _ rfl
    have g5_ := HQ2.out.c 5 _ rfl
    have fz_ := HQ2.out.fz
    go_wp2_with fail
    obtain ⟨Wf, hWf⟩ : ∃ W, (((((W2.setCell ⟨rb, 0, none⟩ (.int .i64 1)).setCell ⟨rb, 1, none⟩ (.string ⟨#[]⟩)).setCell ⟨rb, 2, none⟩ (.int .i64 V)).setCell ⟨rb, 3, none⟩ (.int .i64 0)).setCell ⟨rb, 4, none⟩ (.int .i64 0)).setCell ⟨rb, 5, none⟩ (.slice none 0 0) = W := ⟨_, rfl⟩
    rw [hWf]
    have q_ : Blk IT rb #[.int .i64 1, .string ⟨#[]⟩, .int .i64 V, .int .i64 0, .int .i64 0, .slice none 0 0] Wf := by rw [← hWf]; exact blk_set6 HQ2.out _ _ _ _ _ _
    have hbf_ : Below w.heap.size w Wf := by rw [← hWf]; exact bel_set6 HB2.out HRB.out _ _ _ _ _ _
    have r0_ := q_.c 0 _ rfl
    have r1_ := q_.c 1 _ rfl
    have r2_ := q_.c 2 _ rfl
    have r3_ := q_.c 3 _ rfl
    have r4_ := q_.c 4 _ rfl
    have r5_ := q_.c 5 _ rfl
    refine bodyPost_ret (v := .tuple #[.agg #[.int .i64 1, .string ⟨#[]⟩, .int .i64 V, .int .i64 0, .int .i64 0, .slice none 0 0], .int .i64 0]) (by simp [results, Try.results28, go_sem, r0_, r1_, r2_, r3_, r4_, r5_]) rfl ?_
    exact ⟨hbf_, none, 0, rfl, Its.nil _ _⟩
  rw [if_neg hodd]
  have HSV := Lib.hid (sval_no x W2 hx hodd)
  clear hodd
  obtain ⟨R, hR⟩ : ∃ R : Except Int It, (if x = rt L 0 then .ok (itm 5 0 [] [])
    else if x = rt L 1 then .ok (itm 6 0 [] [])
    else if x = rt L 2 then .ok (itm 7 0 [] [])
    else match findO L.l x with
      | none => .error 13
      | some o =>
        if o.hd.cls = rt L 12 then .ok (itm 2 0 o.bytes [])
        else if o.hd.cls = rt L 13 then .ok (itm 3 0 o.bytes [])
        else if o.hd.cls = rt L 14 then arrG L (clsPg L glob) f deep o.words
        else match clsPg L glob x o with
          | some b => .ok (itm 9 0 b [])
          | none => .error 13) = R := ⟨_, rfl⟩
  rw [hR]
  have HR := Lib.hid hR
  clear hR
  go_enter Try.func28, Try.ntmps28
  go_wp2_with fail
  refine HSV.out.mono ?_; rintro e w3 ⟨rfl, rfl⟩
  go_wp2_with fail
  go_loopw [24, 10] (fun y _ wr => ∃ k : Nat, y = .int .i64 (k : Int) ∧ k ≤ 3 ∧ (∀ j, j < k → x ≠ rt L j) ∧ Hid (Below W2.heap.size W2 wr)) (fun y _ _ => 3 - (intOf y).toNat)
  case atStart => exact ⟨0, rfl, by omega, fun j hj => by omega, Lib.hid (Below.refl _ _)⟩
  case round =>
    obtain ⟨k, rfl, hk, hno, HI⟩ := hrel
    have HQr := Lib.hid (HQ2.out.below HI.out HQ2.out.lt)
    have HRr := Lib.hid (HR2.out.below HI.out HR2.out.lt)
    have HBr := Lib.hid (HB2.out.trans (HI.out.mono HB2.out.size))
    have HMr := Lib.hid (HM2.out.bel HI.out)
    have HNO := Lib.hid hno
    clear hno c0 c1
    have c0 : wr.cell? ⟨w.heap.size, 0, none⟩ = some (.pointer (some ⟨B.h, 0, none⟩)) := HRr.out.c 0 _ rfl
    have c1 : wr.cell? ⟨w.heap.size, 1, none⟩ = some (.int .u64 (root : Int)) := HRr.out.c 1 _ rfl
    by_cases hk3 : k < 3
    · have hkd : decide ((k : Int) < 3) = true := by simp; omega
      have hkw : IntKind.i64.wrap ((k : Int) + 1) = (k : Int) + 1 := IntWalk.i64_in _ (by omega)
      have hkz : IntKind.i64.wrap (0 + (k : Int)) = (k : Int) := by rw [Int.zero_add]; exact IntWalk.i64_in _ (by omega)
      have hk5 : IntKind.i64.wrap (5 + (k : Int)) = 5 + (k : Int) := IntWalk.i64_in _ (by omega)
      have HSPk := Lib.hid (HSP.out k wr (by omega) HMr.out)
      obtain ⟨rk, hrk⟩ : ∃ r, rt L k = r := ⟨_, rfl⟩
      rw [hrk] at HSPk
      have HRK := Lib.hid hrk
      clear hrk
      go_wp2_with fail
      refine HSPk.out.mono ?_; rintro e w4 ⟨rfl, hb4⟩
      have HQ4 := Lib.hid (HQr.out.below hb4 HQr.out.lt)
      have HB4 := Lib.hid (HBr.out.trans (hb4.mono HBr.out.size))
      have HI4 := Lib.hid (HI.out.trans (hb4.mono HI.out.size))
      clear hb4 c0 c1
      by_cases hxk : x = rk
      · have hbq : ((x : Int) == (rk : Int)) = true := by simp [hxk]
        have HRR : Hid (R = .ok (itm (5 + k) 0 [] [])) := Lib.hid (by
          rw [← HR.out]
          exact rt_case hk3 (hxk.trans HRK.out.symm) HNO.out)
        clear hxk
        have g0_ := HQ4.out.c 0 _ rfl
        have g1_ := HQ4.out.c 1 _ rfl
        have g2_ := HQ4.out.c 2 _ rfl
        have g3_ := HQ4.out.c 3 _ rfl
        have g4_ := HQ4.out.c 4 _ rfl
        have g5_ := HQ4.out.c 5 _ rfl
        have fz_ := HQ4.out.fz
        go_wp2_with fail
        obtain ⟨Wf, hWf⟩ : ∃ W, (((((w4.setCell ⟨rb, 0, none⟩ (.int .i64 (5 + (k : Int)))).setCell ⟨rb, 1, none⟩ (.string ⟨#[]⟩)).setCell ⟨rb, 2, none⟩ (.int .i64 0)).setCell ⟨rb, 3, none⟩ (.int .i64 0)).setCell ⟨rb, 4, none⟩ (.int .i64 0)).setCell ⟨rb, 5, none⟩ (.slice none 0 0) = W := ⟨_, rfl⟩
        rw [hWf]
        have q_ : Blk IT rb #[.int .i64 (5 + (k : Int)), .string ⟨#[]⟩, .int .i64 0, .int .i64 0, .int .i64 0, .slice none 0 0] Wf := by rw [← hWf]; exact blk_set6 HQ4.out _ _ _ _ _ _
        have hbf_ : Below w.heap.size w Wf := by rw [← hWf]; exact bel_set6 HB4.out HRB.out _ _ _ _ _ _
        have r0_ := q_.c 0 _ rfl
        have r1_ := q_.c 1 _ rfl
        have r2_ := q_.c 2 _ rfl
        have r3_ := q_.c 3 _ rfl
        have r4_ := q_.c 4 _ rfl
        have r5_ := q_.c 5 _ rfl
        refine bodyPost_ret (v := .tuple #[.agg #[.int .i64 (5 + (k : Int)), .string ⟨#[]⟩, .int .i64 0, .int .i64 0, .int .i64 0, .slice none 0 0], .int .i64 0]) (by simp [results, Try.results28, go_sem, r0_, r1_, r2_, r3_, r4_, r5_]) rfl ?_
        exact by rw [HRR.out]; exact ⟨hbf_, none, 0, by congr 1, Its.nil _ _⟩
      · have hbq : ((x : Int) == (rk : Int)) = false := by simp; omega
        go_wp2_with fail
        exact ⟨⟨k + 1, by simp, by omega, fun j hj => by
          rcases Nat.lt_or_ge j k with h | h
          · exact HNO.out j h
          · obtain rfl : j = k := by omega
            rw [HRK.out]; exact hxk, HI4⟩, by simp only [intOf]; omega⟩
    · obtain rfl : k = 3 := by omega
      have HRN : Hid (R = (match findO L.l x with
        | none => .error 13
        | some o =>
          if o.hd.cls = rt L 12 then .ok (itm 2 0 o.bytes [])
          else if o.hd.cls = rt L 13 then .ok (itm 3 0 o.bytes [])
          else if o.hd.cls = rt L 14 then arrG L (clsPg L glob) f deep o.words
          else match clsPg L glob x o with
            | some b => .ok (itm 9 0 b [])
            | none => .error 13)) := Lib.hid (by
        rw [← HR.out, if_neg (HNO.out 0 (by omega)), if_neg (HNO.out 1 (by omega)), if_neg (HNO.out 2 (by omega))])
      have hkd : decide (((3 : Nat) : Int) < 3) = false := by decide
      cases hfo : findO l x with
      | none =>
        have HHD := Lib.hid (Head_none B N l last x wr HMr.out hx hfo)
        have HRR : Hid (R = .error 13) := Lib.hid (by rw [HRN.out, HLL.out, hfo])
        clear hfo hx
        unfold hdZ at HHD
        go_wp2_with fail
        refine HHD.out.mono ?_; rintro e w4 ⟨rfl, hb4⟩
        obtain ⟨W5, hal5⟩ : ∃ W, w4.alloc (.cells #[.int .u64 0, .int .i64 0, .int .i64 0, .int .u32 0, .bool false] HDT) = W := ⟨_, rfl⟩
        have b5 : Below w4.heap.size w4 W5 := by rw [← hal5]; exact alloc_bel w4 _
        have hb45 := hb4.trans (b5.mono hb4.size)
        have HQ5 := Lib.hid (HQr.out.below hb45 HQr.out.lt)
        have HB5 := Lib.hid (HBr.out.trans (hb45.mono HBr.out.size))
        have HAL5 := Lib.hid hal5
        clear hal5 b5 hb45 hb4 c0 c1
        go_upto_region 11 with fail
        have hal5 := HAL5.out
        rw [hal5]
        clear hal5 HAL5
        have g0_ := HQ5.out.c 0 _ rfl
        have g1_ := HQ5.out.c 1 _ rfl
        have g2_ := HQ5.out.c 2 _ rfl
        have g3_ := HQ5.out.c 3 _ rfl
        have g4_ := HQ5.out.c 4 _ rfl
        have g5_ := HQ5.out.c 5 _ rfl
        have fz_ := HQ5.out.fz
        go_wp2_with fail
        obtain ⟨Wf, hWf⟩ : ∃ W, (((((W5.setCell ⟨rb, 0, none⟩ (.int .i64 0)).setCell ⟨rb, 1, none⟩ (.string ⟨#[]⟩)).setCell ⟨rb, 2, none⟩ (.int .i64 0)).setCell ⟨rb, 3, none⟩ (.int .i64 0)).setCell ⟨rb, 4, none⟩ (.int .i64 0)).setCell ⟨rb, 5, none⟩ (.slice none 0 0) = W := ⟨_, rfl⟩
        rw [hWf]
        have q_ : Blk IT rb #[.int .i64 0, .string ⟨#[]⟩, .int .i64 0, .int .i64 0, .int .i64 0, .slice none 0 0] Wf := by rw [← hWf]; exact blk_set6 HQ5.out _ _ _ _ _ _
        have hbf_ : Below w.heap.size w Wf := by rw [← hWf]; exact bel_set6 HB5.out HRB.out _ _ _ _ _ _
        have r0_ := q_.c 0 _ rfl
        have r1_ := q_.c 1 _ rfl
        have r2_ := q_.c 2 _ rfl
        have r3_ := q_.c 3 _ rfl
        have r4_ := q_.c 4 _ rfl
        have r5_ := q_.c 5 _ rfl
        refine bodyPost_ret (v := .tuple #[.agg #[.int .i64 0, .string ⟨#[]⟩, .int .i64 0, .int .i64 0, .int .i64 0, .slice none 0 0], .int .i64 13]) (by simp [results, Try.results28, go_sem, r0_, r1_, r2_, r3_, r4_, r5_]) rfl ?_
        exact by rw [HRR.out]; exact ⟨hbf_, by decide, rfl⟩
      | some o =>
        have HHD := Lib.hid (Head_some B N l last x o wr HMr.out hx hfo)
        have HRM : Hid (R = (if o.hd.cls = rt L 12 then .ok (itm 2 0 (bytesL l x).1 [])
          else if o.hd.cls = rt L 13 then .ok (itm 3 0 (bytesL l x).1 [])
          else if o.hd.cls = rt L 14 then arrG L (clsPg L glob) f deep o.words
          else match clsPg L glob x o with
            | some b => .ok (itm 9 0 b [])
            | none => .error 13)) := Lib.hid (by
          rw [HRN.out, HLL.out, hfo, bytes_ob hfo (HOKO.out o (find_some hfo).1)])
        have HARo := Lib.hid (fun v hk h => HARR.out o v hfo hk h)
        have HCLo := Lib.hid (fun v h => HCL.out o v hfo h)
        have HKo : Hid (o.hd.cls = rt L 14 → o.hd.kind ≠ 2) := Lib.hid (fun h => HCA.out o (find_some hfo).1 h)
        obtain ⟨TB, hTB⟩ : ∃ b, (bytesL l x).1 = b := ⟨_, rfl⟩
        rw [hTB] at HRM HTX
        obtain ⟨CG, hCG⟩ : ∃ b, clsPg L glob x o = b := ⟨_, rfl⟩
        rw [hCG] at HRM HCLo
        obtain ⟨AG, hAG⟩ : ∃ b, arrG L (clsPg L glob) f deep o.words = b := ⟨_, rfl⟩
        rw [hAG] at HRM HARo
        obtain ⟨at_, ⟨kc, kk, kz, kh, km⟩, OW, OB⟩ := o
        unfold hdV uV at HHD
        dsimp only at HHD HRM HARo HKo
        clear hTB hCG hAG hfo hx HARR HCL HRN HR HOKO HCA HLL HNO
        go_wp2_with fail
        refine HHD.out.mono ?_; rintro e w4 ⟨rfl, hb4⟩
        obtain ⟨W5, hal5⟩ : ∃ W, w4.alloc (.cells #[.int .u64 (kc : Int), .int .i64 (kk : Int), .int .i64 (kz : Int), .int .u32 (kh : Int), .bool km] HDT) = W := ⟨_, rfl⟩
        have b5 : Below w4.heap.size w4 W5 := by rw [← hal5]; exact alloc_bel w4 _
        have q5 : Blk HDT w4.heap.size #[.int .u64 (kc : Int), .int .i64 (kk : Int), .int .i64 (kz : Int), .int .u32 (kh : Int), .bool km] W5 := by rw [← hal5]; exact Blk.made w4
        have hb45 := hb4.trans (b5.mono hb4.size)
        have HALL : Hid (∀ v, Below W5.heap.size W5 v → v.cell? ⟨w.heap.size, 0, none⟩ = some (.pointer (some ⟨B.h, 0, none⟩)) ∧ v.cell? ⟨w.heap.size, 1, none⟩ = some (.int .u64 (root : Int)) ∧ v.cell? ⟨w4.heap.size, 0, none⟩ = some (.int .u64 (kc : Int)) ∧ v.cell? ⟨w4.heap.size, 2, none⟩ = some (.int .i64 (kz : Int)) ∧
            Blk IT rb #[.int .i64 0, .string ⟨#[]⟩, .int .i64 0, .int .i64 0, .int .i64 0, .slice none 0 0] v ∧ Below w.heap.size w v ∧ Mem B N l last v) := Lib.hid (fun v hv => by
          have hv2 := hb45.trans (hv.mono hb45.size)
          have h1 := HRr.out.below hv2 HRr.out.lt
          have h2 := q5.below hv q5.lt
          exact ⟨h1.c 0 _ rfl, h1.c 1 _ rfl, h2.c 0 _ rfl, h2.c 2 _ rfl, HQr.out.below hv2 HQr.out.lt, HBr.out.trans (hv2.mono HBr.out.size), HMr.out.bel hv2⟩)
        have hrb5 : rb < W5.heap.size := (HQr.out.below hb45 HQr.out.lt).lt
        obtain ⟨c0', c1', d0, d2, q5', hb5', hm5'⟩ := HALL.out W5 (Below.refl _ _)
        have HM5 := Lib.hid hm5'
        have HRB5 := Lib.hid hrb5
        have HW5 : Hid (w.heap.size ≤ W5.heap.size) := Lib.hid hb5'.size
        clear b5 q5 hb45 hb4 c0 c1 q5' hb5' hm5' HQr HRr HBr HMr hrb5 HQ2 HR2 HB2 HM2 HHD
        have HS12 := Lib.hid (HSP.out 12 W5 (by omega) HM5.out)
        obtain ⟨r12, hr12⟩ : ∃ r, rt L 12 = r := ⟨_, rfl⟩
        obtain ⟨r13, hr13⟩ : ∃ r, rt L 13 = r := ⟨_, rfl⟩
        obtain ⟨r14, hr14⟩ : ∃ r, rt L 14 = r := ⟨_, rfl⟩
        rw [hr12] at HS12 HRM
        rw [hr13, hr14] at HRM
        rw [hr14] at HKo
        have HR13 := Lib.hid hr13
        have HR14 := Lib.hid hr14
        clear hr12 hr13 hr14
        go_wp2_with fail
        refine HS12.out.mono ?_; rintro e w6 ⟨rfl, hb6⟩
        obtain ⟨c0, c1, e0, e2, q6, hb06, hm6⟩ := HALL.out w6 hb6
        have HQ6 := Lib.hid q6
        have HB6 := Lib.hid hb06
        have HM6 := Lib.hid hm6
        have HI6 := Lib.hid hb6
        clear c0' c1' d0 d2 q6 hb06 hm6 hb6
        by_cases h12 : kc = r12
        · have hbq : ((kc : Int) == (r12 : Int)) = true := by simp [h12]
          have HRR : Hid (R = .ok (itm 2 0 TB [])) := Lib.hid (by rw [HRM.out, if_pos h12])
          have HTX6 := Lib.hid (HTX.out w6 HM6.out)
          clear h12
          go_wp2_with fail
          refine HTX6.out.mono ?_; rintro e w7 ⟨rfl, hb7⟩
          have HQ7 := Lib.hid (HQ6.out.below hb7 HQ6.out.lt)
          have HB7 := Lib.hid (HB6.out.trans (hb7.mono HB6.out.size))
          clear hb7 c0 c1 e0 e2
          have g0_ := HQ7.out.c 0 _ rfl
          have g1_ := HQ7.out.c 1 _ rfl
          have g2_ := HQ7.out.c 2 _ rfl
          have g3_ := HQ7.out.c 3 _ rfl
          have g4_ := HQ7.out.c 4 _ rfl
          have g5_ := HQ7.out.c 5 _ rfl
          have fz_ := HQ7.out.fz
          go_wp2_with fail
          obtain ⟨Wf, hWf⟩ : ∃ W, (((((w7.setCell ⟨rb, 0, none⟩ (.int .i64 2)).setCell ⟨rb, 1, none⟩ (.string ⟨TB.toArray⟩)).setCell ⟨rb, 2, none⟩ (.int .i64 0)).setCell ⟨rb, 3, none⟩ (.int .i64 0)).setCell ⟨rb, 4, none⟩ (.int .i64 0)).setCell ⟨rb, 5, none⟩ (.slice none 0 0) = W := ⟨_, rfl⟩
          rw [hWf]
          have q_ : Blk IT rb #[.int .i64 2, .string ⟨TB.toArray⟩, .int .i64 0, .int .i64 0, .int .i64 0, .slice none 0 0] Wf := by rw [← hWf]; exact blk_set6 HQ7.out _ _ _ _ _ _
          have hbf_ : Below w.heap.size w Wf := by rw [← hWf]; exact bel_set6 HB7.out HRB.out _ _ _ _ _ _
          have r0_ := q_.c 0 _ rfl
          have r1_ := q_.c 1 _ rfl
          have r2_ := q_.c 2 _ rfl
          have r3_ := q_.c 3 _ rfl
          have r4_ := q_.c 4 _ rfl
          have r5_ := q_.c 5 _ rfl
          refine bodyPost_ret (v := .tuple #[.agg #[.int .i64 2, .string ⟨TB.toArray⟩, .int .i64 0, .int .i64 0, .int .i64 0, .slice none 0 0], .int .i64 0]) (by simp [results, Try.results28, go_sem, r0_, r1_, r2_, r3_, r4_, r5_]) rfl ?_
          exact by rw [HRR.out]; exact ⟨hbf_, none, 0, rfl, Its.nil _ _⟩
        have hbq : ((kc : Int) == (r12 : Int)) = false := by simp; omega
        replace HRM := Lib.hid (HRM.out.trans (if_neg h12))
        clear h12
        have HS13 := Lib.hid (HSP.out 13 w6 (by omega) HM6.out)
        rw [HR13.out] at HS13
        go_wp2_with fail
        refine HS13.out.mono ?_; rintro e w7 ⟨rfl, hb7⟩
        have hb57 := HI6.out.trans (hb7.mono HI6.out.size)
        obtain ⟨k0, k1, l0, l2, q7, hb07, hm7⟩ := HALL.out w7 hb57
        have HQ7 := Lib.hid q7
        have HB7 := Lib.hid hb07
        have HM7 := Lib.hid hm7
        have HI7 := Lib.hid hb57
        clear c0 c1 e0 e2 q7 hb07 hm7 hb57 hb7 hbq
        by_cases h13 : kc = r13
        · have hbq : ((kc : Int) == (r13 : Int)) = true := by simp [h13]
          have HRR : Hid (R = .ok (itm 3 0 TB [])) := Lib.hid (by rw [HRM.out, if_pos h13])
          have HTX7 := Lib.hid (HTX.out w7 HM7.out)
          clear h13
          go_wp2_with fail
          refine HTX7.out.mono ?_; rintro e w8 ⟨rfl, hb8⟩
          have HQ8 := Lib.hid (HQ7.out.below hb8 HQ7.out.lt)
          have HB8 := Lib.hid (HB7.out.trans (hb8.mono HB7.out.size))
          clear hb8 k0 k1 l0 l2
          have g0_ := HQ8.out.c 0 _ rfl
          have g1_ := HQ8.out.c 1 _ rfl
          have g2_ := HQ8.out.c 2 _ rfl
          have g3_ := HQ8.out.c 3 _ rfl
          have g4_ := HQ8.out.c 4 _ rfl
          have g5_ := HQ8.out.c 5 _ rfl
          have fz_ := HQ8.out.fz
          go_wp2_with fail
          obtain ⟨Wf, hWf⟩ : ∃ W, (((((w8.setCell ⟨rb, 0, none⟩ (.int .i64 3)).setCell ⟨rb, 1, none⟩ (.string ⟨TB.toArray⟩)).setCell ⟨rb, 2, none⟩ (.int .i64 0)).setCell ⟨rb, 3, none⟩ (.int .i64 0)).setCell ⟨rb, 4, none⟩ (.int .i64 0)).setCell ⟨rb, 5, none⟩ (.slice none 0 0) = W := ⟨_, rfl⟩
          rw [hWf]
          have q_ : Blk IT rb #[.int .i64 3, .string ⟨TB.toArray⟩, .int .i64 0, .int .i64 0, .int .i64 0, .slice none 0 0] Wf := by rw [← hWf]; exact blk_set6 HQ8.out _ _ _ _ _ _
          have hbf_ : Below w.heap.size w Wf := by rw [← hWf]; exact bel_set6 HB8.out HRB.out _ _ _ _ _ _
          have r0_ := q_.c 0 _ rfl
          have r1_ := q_.c 1 _ rfl
          have r2_ := q_.c 2 _ rfl
          have r3_ := q_.c 3 _ rfl
          have r4_ := q_.c 4 _ rfl
          have r5_ := q_.c 5 _ rfl
          refine bodyPost_ret (v := .tuple #[.agg #[.int .i64 3, .string ⟨TB.toArray⟩, .int .i64 0, .int .i64 0, .int .i64 0, .slice none 0 0], .int .i64 0]) (by simp [results, Try.results28, go_sem, r0_, r1_, r2_, r3_, r4_, r5_]) rfl ?_
          exact by rw [HRR.out]; exact ⟨hbf_, none, 0, rfl, Its.nil _ _⟩
        have hbq : ((kc : Int) == (r13 : Int)) = false := by simp; omega
        replace HRM := Lib.hid (HRM.out.trans (if_neg h13))
        clear h13
        have HS14 := Lib.hid (HSP.out 14 w7 (by omega) HM7.out)
        rw [HR14.out] at HS14
        go_wp2_with fail
        refine HS14.out.mono ?_; rintro e w8 ⟨rfl, hb8⟩
        have hb58 := HI7.out.trans (hb8.mono HI7.out.size)
        obtain ⟨c0, c1, e0, e2, q8, hb08, hm8⟩ := HALL.out w8 hb58
        have HQ8 := Lib.hid q8
        have HB8 := Lib.hid hb08
        have HM8 := Lib.hid hm8
        have HI8 := Lib.hid hb58
        clear k0 k1 l0 l2 q8 hb08 hm8 hb58 hb8 hbq
        by_cases h14 : kc = r14
        · have hbq : ((kc : Int) == (r14 : Int)) = true := by simp [h14]
          have HRR : Hid (R = AG) := Lib.hid (by rw [HRM.out, if_pos h14])
          have HAR8 := Lib.hid (HARo.out w8 (HKo.out h14) HM8.out)
          clear h14
          go_wp2_with fail
          refine HAR8.out.mono ?_; intro e w9 hr9
          obtain ⟨ik, is, inn, isl, iwd, ika, ikn, ikc, ier, rfl⟩ := hr9.form
          have hb9 : Below w8.heap.size w8 w9 := hr9.1
          have HQ9 := Lib.hid (HQ8.out.below hb9 HQ8.out.lt)
          have HB9 := Lib.hid (HB8.out.trans (hb9.mono HB8.out.size))
          have HR9 := Lib.hid hr9
          have HL9 : Hid (rb < w8.heap.size) := Lib.hid (by have := HI8.out.size; have := HRB5.out; omega)
          have HL8 : Hid (w.heap.size ≤ w8.heap.size) := Lib.hid HB8.out.size
          clear hb9 hr9 c0 c1 e0 e2
          have g0_ := HQ9.out.c 0 _ rfl
          have g1_ := HQ9.out.c 1 _ rfl
          have g2_ := HQ9.out.c 2 _ rfl
          have g3_ := HQ9.out.c 3 _ rfl
          have g4_ := HQ9.out.c 4 _ rfl
          have g5_ := HQ9.out.c 5 _ rfl
          have fz_ := HQ9.out.fz
          go_wp2_with fail
          obtain ⟨Wf, hWf⟩ : ∃ W, (((((w9.setCell ⟨rb, 0, none⟩ (.int .i64 ik)).setCell ⟨rb, 1, none⟩ (.string is)).setCell ⟨rb, 2, none⟩ (.int .i64 inn)).setCell ⟨rb, 3, none⟩ (.int .i64 isl)).setCell ⟨rb, 4, none⟩ (.int .i64 iwd)).setCell ⟨rb, 5, none⟩ (.slice ika ikn ikc) = W := ⟨_, rfl⟩
          rw [hWf]
          have q_ : Blk IT rb #[.int .i64 ik, .string is, .int .i64 inn, .int .i64 isl, .int .i64 iwd, .slice ika ikn ikc] Wf := by rw [← hWf]; exact blk_set6 HQ9.out _ _ _ _ _ _
          have hbf_ : Below w.heap.size w Wf := by rw [← hWf]; exact bel_set6 HB9.out HRB.out _ _ _ _ _ _
          have r0_ := q_.c 0 _ rfl
          have r1_ := q_.c 1 _ rfl
          have r2_ := q_.c 2 _ rfl
          have r3_ := q_.c 3 _ rfl
          have r4_ := q_.c 4 _ rfl
          have r5_ := q_.c 5 _ rfl
          refine bodyPost_ret (v := .tuple #[.agg #[.int .i64 ik, .string is, .int .i64 inn, .int .i64 isl, .int .i64 iwd, .slice ika ikn ikc], .int .i64 ier]) (by simp [results, Try.results28, go_sem, r0_, r1_, r2_, r3_, r4_, r5_]) rfl ?_
          exact by rw [HRR.out]; exact HR9.out.pass (by rw [← hWf]; exact kp_set6 (by have := HL9.out; show ¬ (w8.heap.size ≤ rb); omega) _ _ _ _ _ _) HL8.out hbf_
        have hbq : ((kc : Int) == (r14 : Int)) = false := by simp; omega
        replace HRM := Lib.hid (HRM.out.trans (if_neg h14))
        clear h14
        have HC8 := Lib.hid (HCLo.out w8 HM8.out)
        go_wp2_with fail
        refine HC8.out.mono ?_; rintro e w9 ⟨s9, b9, rfl, hs9, hb9⟩
        have HQ9 := Lib.hid (HQ8.out.below hb9 HQ8.out.lt)
        have HB9 := Lib.hid (HB8.out.trans (hb9.mono HB8.out.size))
        clear hb9 c0 c1 e0 e2 hbq
        cases CG with
        | some nm =>
          obtain ⟨rfl, rfl⟩ := hs9
          have HRR : Hid (R = .ok (itm 9 0 nm [])) := Lib.hid HRM.out
          have g0_ := HQ9.out.c 0 _ rfl
          have g1_ := HQ9.out.c 1 _ rfl
          have g2_ := HQ9.out.c 2 _ rfl
          have g3_ := HQ9.out.c 3 _ rfl
          have g4_ := HQ9.out.c 4 _ rfl
          have g5_ := HQ9.out.c 5 _ rfl
          have fz_ := HQ9.out.fz
          go_wp2_with fail
          obtain ⟨Wf, hWf⟩ : ∃ W, (((((w9.setCell ⟨rb, 0, none⟩ (.int .i64 9)).setCell ⟨rb, 1, none⟩ (.string ⟨nm.toArray⟩)).setCell ⟨rb, 2, none⟩ (.int .i64 0)).setCell ⟨rb, 3, none⟩ (.int .i64 0)).setCell ⟨rb, 4, none⟩ (.int .i64 0)).setCell ⟨rb, 5, none⟩ (.slice none 0 0) = W := ⟨_, rfl⟩
          rw [hWf]
          have q_ : Blk IT rb #[.int .i64 9, .string ⟨nm.toArray⟩, .int .i64 0, .int .i64 0, .int .i64 0, .slice none 0 0] Wf := by rw [← hWf]; exact blk_set6 HQ9.out _ _ _ _ _ _
          have hbf_ : Below w.heap.size w Wf := by rw [← hWf]; exact bel_set6 HB9.out HRB.out _ _ _ _ _ _
          have r0_ := q_.c 0 _ rfl
          have r1_ := q_.c 1 _ rfl
          have r2_ := q_.c 2 _ rfl
          have r3_ := q_.c 3 _ rfl
          have r4_ := q_.c 4 _ rfl
          have r5_ := q_.c 5 _ rfl
          refine bodyPost_ret (v := .tuple #[.agg #[.int .i64 9, .string ⟨nm.toArray⟩, .int .i64 0, .int .i64 0, .int .i64 0, .slice none 0 0], .int .i64 0]) (by simp [results, Try.results28, go_sem, r0_, r1_, r2_, r3_, r4_, r5_]) rfl ?_
          exact by rw [HRR.out]; exact ⟨hbf_, none, 0, rfl, Its.nil _ _⟩
        | none =>
          have hb9 : b9 = false := hs9
          subst hb9
          have HRR : Hid (R = .error 13) := Lib.hid HRM.out
          have g0_ := HQ9.out.c 0 _ rfl
          have g1_ := HQ9.out.c 1 _ rfl
          have g2_ := HQ9.out.c 2 _ rfl
          have g3_ := HQ9.out.c 3 _ rfl
          have g4_ := HQ9.out.c 4 _ rfl
          have g5_ := HQ9.out.c 5 _ rfl
          have fz_ := HQ9.out.fz
          go_wp2_with fail
          obtain ⟨Wf, hWf⟩ : ∃ W, (((((w9.setCell ⟨rb, 0, none⟩ (.int .i64 0)).setCell ⟨rb, 1, none⟩ (.string ⟨#[]⟩)).setCell ⟨rb, 2, none⟩ (.int .i64 0)).setCell ⟨rb, 3, none⟩ (.int .i64 0)).setCell ⟨rb, 4, none⟩ (.int .i64 0)).setCell ⟨rb, 5, none⟩ (.slice none 0 0) = W := ⟨_, rfl⟩
          rw [hWf]
          have q_ : Blk IT rb #[.int .i64 0, .string ⟨#[]⟩, .int .i64 0, .int .i64 0, .int .i64 0, .slice none 0 0] Wf := by rw [← hWf]; exact blk_set6 HQ9.out _ _ _ _ _ _
          have hbf_ : Below w.heap.size w Wf := by rw [← hWf]; exact bel_set6 HB9.out HRB.out _ _ _ _ _ _
          have r0_ := q_.c 0 _ rfl
          have r1_ := q_.c 1 _ rfl
          have r2_ := q_.c 2 _ rfl
          have r3_ := q_.c 3 _ rfl
          have r4_ := q_.c 4 _ rfl
          have r5_ := q_.c 5 _ rfl
          refine bodyPost_ret (v := .tuple #[.agg #[.int .i64 0, .string ⟨#[]⟩, .int .i64 0, .int .i64 0, .int .i64 0, .slice none 0 0], .int .i64 13]) (by simp [results, Try.results28, go_sem, r0_, r1_, r2_, r3_, r4_, r5_]) rfl ?_
          exact by rw [HRR.out]; exact ⟨hbf_, by decide, rfl⟩
end Hp
end Go.Proofs.Ytojblndlchcjeaa
namespace Go.Proofs.Ytojblndlchcjeaa
open Go.RowKit
namespace Hp
open Bs Sm
theorem allE_snoc {α β : Type} {f : α → Except Int β} : ∀ {l : List α} {r : List β} {x : α} {y : β}, allE f l = .ok r → f x = .ok y → allE f (l ++ [x]) = .ok (r ++ [y])
  | [], r, x, y, h, hx => by cases h; simp [allE, hx]
  | a :: l, r, x, y, h, hx => by
    unfold allE at h
    cases ha : f a with
    | error e => rw [ha] at h; cases h
    | ok b =>
      rw [ha] at h
      simp only at h
      cases hl : allE f l with
      | error e => rw [hl] at h; cases h
      | ok r' =>
        rw [hl] at h
        cases h
        have ih := allE_snoc hl hx
        show allE f (a :: (l ++ [x])) = _
        unfold allE
        rw [ha, ih]
        rfl
theorem allE_err {α β : Type} {f : α → Except Int β} : ∀ {l : List α} {r : List β} {x : α} {e : Int} (m : List α), allE f l = .ok r → f x = .error e → allE f (l ++ x :: m) = .error e
  | [], r, x, e, m, h, hx => by
    show allE f (x :: m) = _
    unfold allE
    rw [hx]
  | a :: l, r, x, e, m, h, hx => by
    unfold allE at h
    cases ha : f a with
    | error e => rw [ha] at h; cases h
    | ok b =>
      rw [ha] at h
      simp only at h
      cases hl : allE f l with
      | error e => rw [hl] at h; cases h
      | ok r' =>
        rw [hl] at h
        cases h
        have ih := allE_err m hl hx
        show allE f (a :: (l ++ x :: m)) = _
        unfold allE
        rw [ha, ih]
theorem take_cons {α : Type} {l : List α} {k : Nat} {x : α} (h : l[k]? = some x) : l = l.take k ++ x :: l.drop (k + 1) := by
  obtain ⟨h1, h2⟩ := List.getElem?_eq_some_iff.1 h
  rw [← h2, List.getElem_cons_drop, List.take_append_drop]
theorem take_sn {α : Type} {l : List α} {k : Nat} {x : α} (h : l[k]? = some x) : l.take (k + 1) = l.take k ++ [x] := by
  obtain ⟨h1, h2⟩ := List.getElem?_eq_some_iff.1 h
  rw [List.take_succ_eq_append_getElem h1, h2]
/-- What the array's loop keeps. -/
structure ArI (B : Bks) (N : Nat) (l : List Ob) (last root rb nb Bn : Nat) (kv : Value) (r : List It) (w wr : World) : Prop where
  bel : Below w.heap.size w wr
  rd : Blk RDT w.heap.size #[.pointer (some ⟨B.h, 0, none⟩), .int .u64 (root : Int)] wr
  res : Blk IT rb #[.int .i64 0, .string ⟨#[]⟩, .int .i64 0, .int .i64 0, .int .i64 0, .slice none 0 0] wr
  out : Blk IT nb #[.int .i64 4, .string ⟨#[]⟩, .int .i64 0, .int .i64 0, .int .i64 0, kv] wr
  row : OwnI IT Bn (fun b => Bn ≤ b) wr kv r
  big : Bn ≤ wr.heap.size
theorem ArI.bl {B : Bks} {N : Nat} {l : List Ob} {last root rb nb Bn : Nat} {kv : Value} {r : List It} {w wr w' : World} (h : ArI B N l last root rb nb Bn kv r w wr) (hb : Below wr.heap.size wr w') : ArI B N l last root rb nb Bn kv r w w' :=
  ⟨h.bel.trans (hb.mono h.bel.size), h.rd.below hb h.rd.lt, h.res.below hb h.res.lt, h.out.below hb h.out.lt, h.row.bel hb, Nat.le_trans h.big hb.size⟩
set_option maxRecDepth 100000 in
set_option maxHeartbeats 3200000 in
theorem array_step (B : Bks) (N : Nat) (l : List Ob) (last root : Nat) (L : Look) (glob : Bts → Nat) (f deep : Nat) (hd : deep ≤ 41)
    (READ : deep ≤ 40 → ∀ (x : Nat) (w : World), Mem B N l last w → x < 18446744073709551616 → Calls Try.prog 28 #[rdV B root, .int .u64 (x : Int), .int .i64 ((deep + 1 : Nat) : Int)] w (RdR (readG L 13 10 (clsPg L glob) f x (deep + 1)) w))
    (x : Nat) (o : Ob) (w : World) (hm : Mem B N l last w) (hx : x < 18446744073709551616) (ho : findO l x = some o) (hk : o.hd.kind ≠ 2) :
    Calls Try.prog 57 #[rdV B root, .int .u64 (x : Int), .int .i64 (o.hd.size : Int), .int .i64 (deep : Int)] w (RdR (arrG L (clsPg L glob) f deep o.words) w) := by
  have hok := hm.1.ok o (find_some ho).1
  have hwl := (hok.words hk).1
  have hwlt := (hok.words hk).2.2
  have hsz := ((okB_iff _).1 hok.hd).2.2.1
  have HGT : Hid (∀ (i v : Nat) (w' : World), o.words[i]? = some v → Mem B N l last w' → Calls Try.prog 25 #[.pointer (some ⟨B.h, 0, none⟩), .int .u64 (x : Int), .int .i64 (i : Int)] w' (Back (.tuple #[.int .u64 (v : Int), .int .i64 0]) w')) := Lib.hid (fun i v w' hi h => by
    have hg : getL l x (i : Int) = (v, 0) := by
      have hlt := (List.getElem?_eq_some_iff.1 hi).1
      unfold getL
      rw [ho]
      dsimp only
      rw [if_neg hk, if_neg (by omega), Int.toNat_natCast, List.getD_eq_getElem?_getD, hi]
      rfl
    have := get_any B N l last x (i : Int) w' h hx
    rw [hg] at this
    exact this)
  obtain ⟨ws, hws⟩ : ∃ ws, o.words = ws := ⟨_, rfl⟩
  obtain ⟨z, hz⟩ : ∃ z, o.hd.size = z := ⟨_, rfl⟩
  rw [hws] at HGT hwl hwlt ⊢
  rw [hz] at hwl hsz ⊢
  have HWL := Lib.hid hwl
  have HWT := Lib.hid hwlt
  have HRDX := Lib.hid READ
  have hz2 : (z : Int) ≤ 1048576 := by omega
  have HM := Lib.hid hm
  unfold rdV at HRDX ⊢
  obtain ⟨W1, hal1⟩ : ∃ W, w.alloc (.cells #[.pointer (some ⟨B.h, 0, none⟩), .int .u64 (root : Int)] RDT) = W := ⟨_, rfl⟩
  have b1 : Below w.heap.size w W1 := by rw [← hal1]; exact alloc_bel w _
  have q1 : Blk RDT w.heap.size #[.pointer (some ⟨B.h, 0, none⟩), .int .u64 (root : Int)] W1 := by rw [← hal1]; exact Blk.made w
  obtain ⟨W2, hal2⟩ : ∃ W, W1.alloc (.cells #[.int .i64 0, .string ⟨#[]⟩, .int .i64 0, .int .i64 0, .int .i64 0, .slice none 0 0] IT) = W := ⟨_, rfl⟩
  have b2 : Below W1.heap.size W1 W2 := by rw [← hal2]; exact alloc_bel W1 _
  have q2 : Blk IT W1.heap.size #[.int .i64 0, .string ⟨#[]⟩, .int .i64 0, .int .i64 0, .int .i64 0, .slice none 0 0] W2 := by rw [← hal2]; exact Blk.made W1
  have q12 := q1.below b2 q1.lt
  have hrblt := q1.lt
  obtain ⟨rb, hrb⟩ : ∃ b, W1.heap.size = b := ⟨_, rfl⟩
  rw [hrb] at q2 hrblt
  have HRB := Lib.hid (show w.heap.size ≤ rb by omega)
  have HQ2 := Lib.hid q2
  have HR2 := Lib.hid q12
  have HB2 := Lib.hid (b1.trans (b2.mono b1.size))
  clear b1 q1 b2 q2 q12 hm hx hwl hok hk ho READ hwlt hws hz hsz
  unfold arrG
  by_cases hdp : 40 < deep
  · rw [if_pos hdp]
    have hdd : decide ((40 : Int) < (deep : Int)) = true := by simp; omega
    clear hdp HRDX HGT HWL HWT HM HR2
    go_enter Try.func57, Try.ntmps57
    have g0_ := HQ2.out.c 0 _ rfl
    have g1_ := HQ2.out.c 1 _ rfl
    have g2_ := HQ2.out.c 2 _ rfl
    have g3_ := HQ2.out.c 3 _ rfl
    have g4_ := HQ2.out.c 4 _ rfl
    have g5_ := HQ2.out.c 5 _ rfl
    have fz_ := HQ2.out.fz
    go_wp2_with fail
    obtain ⟨Wf, hWf⟩ : ∃ W, (((((W2.setCell ⟨rb, 0, none⟩ (.int .i64 0)).setCell ⟨rb, 1, none⟩ (.string ⟨#[]⟩)).setCell ⟨rb, 2, none⟩ (.int .i64 0)).setCell ⟨rb, 3, none⟩ (.int .i64 0)).setCell ⟨rb, 4, none⟩ (.int .i64 0)).setCell ⟨rb, 5, none⟩ (.slice none 0 0) = W := ⟨_, rfl⟩
    rw [hWf]
    have q_ : Blk IT rb #[.int .i64 0, .string ⟨#[]⟩, .int .i64 0, .int .i64 0, .int .i64 0, .slice none 0 0] Wf := by rw [← hWf]; exact blk_set6 HQ2.out _ _ _ _ _ _
    have hbf_ : Below w.heap.size w Wf := by rw [← hWf]; exact bel_set6 HB2.out HRB.out _ _ _ _ _ _
    have r0_ := q_.c 0 _ rfl
    have r1_ := q_.c 1 _ rfl
    have r2_ := q_.c 2 _ rfl
    have r3_ := q_.c 3 _ rfl
    have r4_ := q_.c 4 _ rfl
    have r5_ := q_.c 5 _ rfl
    refine bodyPost_ret (v := .tuple #[.agg #[.int .i64 0, .string ⟨#[]⟩, .int .i64 0, .int .i64 0, .int .i64 0, .slice none 0 0], .int .i64 10]) (by simp [results, Try.results57, go_sem, r0_, r1_, r2_, r3_, r4_, r5_]) rfl ?_
    exact ⟨hbf_, by decide, rfl⟩
  rw [if_neg hdp]
  have hdd : decide ((40 : Int) < (deep : Int)) = false := by simp; omega
  have hdw : IntKind.i64.wrap ((deep : Int) + 1) = ((deep + 1 : Nat) : Int) := by rw [IntWalk.i64_in _ (by omega)]; push_cast; rfl
  have HRX := Lib.hid (HRDX.out (by omega))
  obtain ⟨d1, hd1⟩ : ∃ d, deep + 1 = d := ⟨_, rfl⟩
  rw [hd1] at HRX hdw ⊢
  obtain ⟨R, hR⟩ : ∃ R : Except Int It, arrW (allE (fun x => readG L 13 10 (clsPg L glob) f x d1) ws) = R := ⟨_, rfl⟩
  rw [hR]
  have HR := Lib.hid hR
  obtain ⟨F, hF⟩ : ∃ F : Nat → Except Int It, (fun x => readG L 13 10 (clsPg L glob) f x d1) = F := ⟨_, rfl⟩
  have HRX2 : Hid (∀ (x : Nat) (w : World), Mem B N l last w → x < 18446744073709551616 → Calls Try.prog 28 #[.agg #[.pointer (some ⟨B.h, 0, none⟩), .int .u64 (root : Int)], .int .u64 (x : Int), .int .i64 (d1 : Int)] w (RdR (F x) w)) := Lib.hid (by rw [← hF]; exact HRX.out)
  rw [hF] at HR
  obtain ⟨W3, hal3⟩ : ∃ W, W2.alloc (.cells #[.int .i64 4, .string ⟨#[]⟩, .int .i64 0, .int .i64 0, .int .i64 0, .slice none 0 0] IT) = W := ⟨_, rfl⟩
  have b3 : Below W2.heap.size W2 W3 := by rw [← hal3]; exact alloc_bel W2 _
  have q3 : Blk IT W2.heap.size #[.int .i64 4, .string ⟨#[]⟩, .int .i64 0, .int .i64 0, .int .i64 0, .slice none 0 0] W3 := by rw [← hal3]; exact Blk.made W2
  obtain ⟨nb, hnb⟩ : ∃ b, W2.heap.size = b := ⟨_, rfl⟩
  have hqrb := HQ2.out.lt
  have hqr2 := HR2.out.lt
  have HI3 : Hid (ArI B N l last root rb nb W3.heap.size (.slice none 0 0) [] w W3) := Lib.hid ⟨HB2.out.trans (b3.mono HB2.out.size), HR2.out.below b3 HR2.out.lt, HQ2.out.below b3 HQ2.out.lt, by rw [← hnb]; exact q3, OwnI.nil _ _ _ _, Nat.le_refl _⟩
  have HNB : Hid (rb < nb ∧ w.heap.size < nb ∧ nb < W3.heap.size) := Lib.hid (by have := q3.lt; omega)
  have HAL3 := Lib.hid hal3
  clear b3 q3 hR hF hqrb hqr2 hal3 HRX HRDX hdp
  go_enter Try.func57, Try.ntmps57
  go_upto_region 4 with fail
  have hal3 := HAL3.out
  rw [hal3]
  try rw [hnb]
  clear hal3 HAL3
  go_wp2_with fail
  obtain ⟨Bn, hBn⟩ : ∃ b, W3.heap.size = b := ⟨_, rfl⟩
  rw [hBn] at HI3 HNB
  go_loopw [21, 11, 12, 13, 14, 15] (fun y _ _ _ _ _ wr => ∃ k : Nat, y = .int .i64 (k : Int) ∧ k ≤ z ∧ Hid (∃ kv r, ArI B N l last root rb nb Bn kv r w wr ∧ r.length = k ∧ allE F (ws.take k) = .ok r)) (fun y _ _ _ _ _ _ => z - (intOf y).toNat)
  case atStart => exact ⟨0, rfl, Nat.zero_le _, Lib.hid ⟨_, _, HI3.out, rfl, rfl⟩⟩
  case round =>
    obtain ⟨k, rfl, hkz, HE⟩ := hrel
    obtain ⟨kv, r, hI, hrl, hal⟩ := HE.out
    have HIr := Lib.hid hI
    have HRL := Lib.hid hrl
    have HALE := Lib.hid hal
    clear HE hI hrl hal
    have c0 : wr.cell? ⟨w.heap.size, 0, none⟩ = some (.pointer (some ⟨B.h, 0, none⟩)) := HIr.out.rd.c 0 _ rfl
    have HMr := Lib.hid (HM.out.bel HIr.out.bel)
    by_cases hk : k < z
    · have hkd : decide ((k : Int) < (z : Int)) = true := by simpa using hk
      have hkw : IntKind.i64.wrap ((k : Int) + 1) = (k : Int) + 1 := IntWalk.i64_in _ (by omega)
      obtain ⟨y, hy⟩ : ∃ y, ws[k]? = some y := ⟨_, List.getElem?_eq_getElem (by rw [HWL.out]; exact hk)⟩
      have HY := Lib.hid hy
      have HYL : Hid (y < 18446744073709551616) := Lib.hid (HWT.out y (List.mem_of_getElem? hy))
      have HGk := Lib.hid (HGT.out k y wr hy HMr.out)
      clear hy
      go_wp2_with fail
      refine HGk.out.mono ?_; rintro e w4 ⟨rfl, hb4⟩
      have HI4 := Lib.hid (HIr.out.bl hb4)
      have HM4 := Lib.hid (HMr.out.bel hb4)
      clear hb4 c0
      have e0 : w4.cell? ⟨w.heap.size, 0, none⟩ = some (.pointer (some ⟨B.h, 0, none⟩)) := HI4.out.rd.c 0 _ rfl
      have e1 : w4.cell? ⟨w.heap.size, 1, none⟩ = some (.int .u64 (root : Int)) := HI4.out.rd.c 1 _ rfl
      have HRk := Lib.hid (HRX2.out y w4 HM4.out HYL.out)
      go_wp2_with fail
      refine HRk.out.mono ?_; intro e w5 hr5
      have hb5 : Below w4.heap.size w4 w5 := hr5.1
      have HI5 := Lib.hid (HI4.out.bl hb5)
      have HB45 := Lib.hid hb5
      obtain ⟨-, hr5⟩ := hr5
      clear e0 e1 hb5
      cases hFy : F y with
      | error er =>
        rw [hFy] at hr5
        obtain ⟨hne, rfl⟩ := hr5
        have hneb : (er != 0) = true := by simpa using hne
        have HRR : Hid (R = .error er) := Lib.hid (by rw [← HR.out, take_cons HY.out, allE_err _ HALE.out hFy]; rfl)
        have HNE := Lib.hid hne
        unfold itZ
        obtain ⟨W6, hal6⟩ : ∃ W, w5.alloc (.cells #[.int .i64 0, .string ⟨#[]⟩, .int .i64 0, .int .i64 0, .int .i64 0, .slice none 0 0] IT) = W := ⟨_, rfl⟩
        have b6 : Below w5.heap.size w5 W6 := by rw [← hal6]; exact alloc_bel w5 _
        have HI6 := Lib.hid (HI5.out.bl b6)
        have HAL6 := Lib.hid hal6
        have HQ6 := Lib.hid HI6.out.res
        have HB6 := Lib.hid HI6.out.bel
        clear hal6 b6 hne hFy
        go_upto_region 9 with fail
        have hal6 := HAL6.out
        rw [hal6]
        clear hal6 HAL6
        have g0_ := HQ6.out.c 0 _ rfl
        have g1_ := HQ6.out.c 1 _ rfl
        have g2_ := HQ6.out.c 2 _ rfl
        have g3_ := HQ6.out.c 3 _ rfl
        have g4_ := HQ6.out.c 4 _ rfl
        have g5_ := HQ6.out.c 5 _ rfl
        have fz_ := HQ6.out.fz
        go_wp2_with fail
        obtain ⟨Wf, hWf⟩ : ∃ W, (((((W6.setCell ⟨rb, 0, none⟩ (.int .i64 0)).setCell ⟨rb, 1, none⟩ (.string ⟨#[]⟩)).setCell ⟨rb, 2, none⟩ (.int .i64 0)).setCell ⟨rb, 3, none⟩ (.int .i64 0)).setCell ⟨rb, 4, none⟩ (.int .i64 0)).setCell ⟨rb, 5, none⟩ (.slice none 0 0) = W := ⟨_, rfl⟩
        rw [hWf]
        have q_ : Blk IT rb #[.int .i64 0, .string ⟨#[]⟩, .int .i64 0, .int .i64 0, .int .i64 0, .slice none 0 0] Wf := by rw [← hWf]; exact blk_set6 HQ6.out _ _ _ _ _ _
        have hbf_ : Below w.heap.size w Wf := by rw [← hWf]; exact bel_set6 HB6.out HRB.out _ _ _ _ _ _
        have r0_ := q_.c 0 _ rfl
        have r1_ := q_.c 1 _ rfl
        have r2_ := q_.c 2 _ rfl
        have r3_ := q_.c 3 _ rfl
        have r4_ := q_.c 4 _ rfl
        have r5_ := q_.c 5 _ rfl
        refine bodyPost_ret (v := .tuple #[.agg #[.int .i64 0, .string ⟨#[]⟩, .int .i64 0, .int .i64 0, .int .i64 0, .slice none 0 0], .int .i64 er]) (by simp [results, Try.results57, go_sem, r0_, r1_, r2_, r3_, r4_, r5_]) rfl ?_
        exact by rw [HRR.out]; exact ⟨hbf_, HNE.out, rfl⟩
      | ok xi =>
        rw [hFy] at hr5
        obtain ⟨ka, kc, rfl, hits⟩ := hr5
        have HITS := Lib.hid hits
        have HALS := Lib.hid (allE_snoc HALE.out hFy)
        unfold itV
        obtain ⟨kl, hkl⟩ : ∃ n, xi.kids.length = n := ⟨_, rfl⟩
        rw [hkl] at HITS ⊢
        obtain ⟨W6, hal6⟩ : ∃ W, w5.alloc (.cells #[.int .i64 xi.kind, .string ⟨xi.name.toArray⟩, .int .i64 xi.num, .int .i64 xi.slot, .int .i64 xi.width, .slice ka kl kc] IT) = W := ⟨_, rfl⟩
        have b6 : Below w5.heap.size w5 W6 := by rw [← hal6]; exact alloc_bel w5 _
        have q6 : Blk IT w5.heap.size #[.int .i64 xi.kind, .string ⟨xi.name.toArray⟩, .int .i64 xi.num, .int .i64 xi.slot, .int .i64 xi.width, .slice ka kl kc] W6 := by rw [← hal6]; exact Blk.made w5
        have HI6 := Lib.hid (HI5.out.bl b6)
        have HQ6 := Lib.hid q6
        have HIT6 := Lib.hid (HITS.out.bel b6)
        clear hFy hits b6 q6
        have g0 : W6.cell? ⟨w5.heap.size, 0, none⟩ = some (.int .i64 xi.kind) := HQ6.out.c 0 _ rfl
        have g1 : W6.cell? ⟨w5.heap.size, 1, none⟩ = some (.string ⟨xi.name.toArray⟩) := HQ6.out.c 1 _ rfl
        have g2 : W6.cell? ⟨w5.heap.size, 2, none⟩ = some (.int .i64 xi.num) := HQ6.out.c 2 _ rfl
        have g3 : W6.cell? ⟨w5.heap.size, 3, none⟩ = some (.int .i64 xi.slot) := HQ6.out.c 3 _ rfl
        have g4 : W6.cell? ⟨w5.heap.size, 4, none⟩ = some (.int .i64 xi.width) := HQ6.out.c 4 _ rfl
        have g5 : W6.cell? ⟨w5.heap.size, 5, none⟩ = some (.slice ka kl kc) := HQ6.out.c 5 _ rfl
        have n5 : W6.cell? ⟨nb, 5, none⟩ = some kv := HI6.out.out.c 5 _ rfl
        obtain ⟨ya, yc, rfl⟩ : ∃ ya yc, kv = .slice ya k yc := by
          obtain ⟨a, c, e, -, -⟩ := HI6.out.row.its.form
          exact ⟨a, c, by rw [e, HRL.out]⟩
        obtain ⟨W7, hal7⟩ : ∃ W, W6.alloc (.cells #[.int .i64 xi.kind, .string ⟨xi.name.toArray⟩, .int .i64 xi.num, .int .i64 xi.slot, .int .i64 xi.width, .slice ka kl kc] IT) = W := ⟨_, rfl⟩
        have b7 : Below W6.heap.size W6 W7 := by rw [← hal7]; exact alloc_bel W6 _
        have HI7 := Lib.hid (HI6.out.bl b7)
        have HIT7 := Lib.hid (HIT6.out.bel b7)
        obtain ⟨vl, hvl, hrow, hsub⟩ := HI7.out.row
        have hvll : vl.length = k := by have h := congrArg List.length hvl; rw [List.length_map, HRL.out] at h; exact h
        rw [hvll] at hrow
        obtain ⟨i0, hi0, hz0, hz1, hz2⟩ := info_parts (show (Try.prog.info? IT).map (fun i => (i.zero, i.size, i.bytes)) = some (some (.agg #[.int .i64 0, .string ⟨#[]⟩, .int .i64 0, .int .i64 0, .int .i64 0, .slice none 0 0]), 6, 72) by kernel_rfl)
        have hcl := cells6 W6 IT (.int .i64 xi.kind) (.string ⟨xi.name.toArray⟩) (.int .i64 xi.num) (.int .i64 xi.slot) (.int .i64 xi.width) (.slice ka kl kc)
        rw [hal7] at hcl
        obtain ⟨g, cap, w8, hrun, hown8, hg8, hat8, hlt8⟩ := run_append_lies (P := Try.prog) (w := W7) 51 51 Bn IT i0 (.agg #[.int .i64 0, .string ⟨#[]⟩, .int .i64 0, .int .i64 0, .int .i64 0, .slice none 0 0]) 6 72 (by kernel_rfl) hi0 hz0 hz1 hz2 rfl (by decide) (.slice ya k yc) k (flatI vl) hrow ⟨W6.heap.size, 0, none⟩ 1 1
          [.int .i64 xi.kind, .string ⟨xi.name.toArray⟩, .int .i64 xi.num, .int .i64 xi.slot, .int .i64 xi.width, .slice ka kl kc] rfl hcl (fun u hu => by simp at hu; rcases hu with rfl | rfl | rfl | rfl | rfl | rfl <;> rfl) (by decide) (by unfold maxLen; omega) (by omega) HI7.out.big W7.heap.size rfl
        have h45 := HB45.out.size
        have hs45 : w4.heap.size ≤ W7.heap.size := Nat.le_trans (Nat.le_trans (Nat.le_trans h45 (by rw [← hal6]; exact (alloc_bel w5 _).size)) b7.size) (Nat.le_refl _)
        have hbn4 := HI4.out.big
        have hown5 : ∀ b, (Value.slice ya k yc).ownBlock = some b → Bn ≤ b ∧ b < w4.heap.size := fun b hb => HI4.out.row.lt b hb
        have hm7 : ∀ b, w4.heap.size ≤ b → (Bn ≤ b ∧ (Value.slice ya k yc).ownBlock ≠ some b) := fun b hb => ⟨by omega, fun h => by have := hown5 b h; omega⟩
        have hsn := ownI_snoc (n := k) (S := fun b => Bn ≤ b) (x := xi) (kv := .slice ka kl kc) hvll.symm hg8.size hsub (HIT7.out.mono (fun b hb _ => hm7 b hb)) hown8 hg8 hat8
        rw [hvl] at hsn
        have hI7 := HI7.out
        have hnbs := HNB.out
        have hro : ∀ {T : Nat} {kk : Nat} {cs : Array Value}, Blk T kk cs W7 → kk < Bn → Blk T kk cs w8 := fun {T kk cs} h hlt => (hg8.block kk h.lt (fun e => by have := hown5 kk e.symm; omega)).trans h
        have hbel8 : Below w.heap.size w w8 := hI7.bel.grown hg8 hI7.bel.size (fun b hb => by have := hown5 b hb; have := HRB.out; omega)
        have hr8 := hro hI7.rd (by omega)
        have hs8 := hro hI7.res (by omega)
        have ho8 := hro hI7.out (by omega)
        have hbig8 : Bn ≤ w8.heap.size := Nat.le_trans hI7.big hg8.size
        have HRUN := Lib.hid hrun
        have z5 : w8.cell? ⟨nb, 5, none⟩ = some (.slice ya k yc) := ho8.c 5 _ rfl
        have zf : w8.frozen? ⟨nb, 5, none⟩ = false := ho8.fz 5
        obtain ⟨w9, hw9⟩ : ∃ W, w8.setCell ⟨nb, 5, none⟩ (.slice (some ⟨g, 0, none⟩) (k + 1) cap) = W := ⟨_, rfl⟩
        have HI9 : Hid (ArI B N l last root rb nb Bn (.slice (some ⟨g, 0, none⟩) (k + 1) cap) (r ++ [xi]) w w9) := Lib.hid (by
          rw [← hw9]
          refine ⟨hbel8.setCell (by show w.heap.size ≤ nb; omega) _, hr8.far (p := ⟨nb, 5, none⟩) (by show w.heap.size ≠ nb; omega) _, hs8.far (p := ⟨nb, 5, none⟩) (by show rb ≠ nb; omega) _, ho8.set_ 5 _ _ rfl, ?_, by simpa [World.setCell] using hbig8⟩
          refine hsn.kp (by simp [World.setCell]) (fun b hb hx => Below.heap_setCell w8 ⟨nb, 5, none⟩ _ b (fun e => ?_))
          have e : b = nb := e
          rcases hx with hx | hx
          · omega
          · have := (hsn.lt b hx).1; omega)
        clear hcl b7 hrow hsub hvl hvll hown8 hg8 hat8 hlt8 h45 hs45 hbn4 hown5 hm7 hsn hI7 hnbs hro hbel8 hr8 hs8 ho8 hbig8 hrun hz0 hz1 hz2 hi0
        go_wp2_with (at_builtin; refine wpList_app rfl _ _ _ rfl _ _ _ _ rfl rfl HRUN.out ?_)
        exact ⟨⟨k + 1, by simp, by omega, Lib.hid ⟨_, _, HI9.out, by rw [List.length_append, HRL.out]; rfl, by rw [take_sn HY.out]; exact HALS.out⟩⟩, by simp only [intOf]; omega⟩
    · obtain rfl : k = z := by omega
      have hkd : decide ((k : Int) < (k : Int)) = false := by simp
      obtain ⟨ya, yc, rfl⟩ : ∃ ya yc, kv = .slice ya k yc := by
        obtain ⟨a, c, e, -, -⟩ := HIr.out.row.its.form
        exact ⟨a, c, by rw [e, HRL.out]⟩
      have HRR : Hid (R = .ok (itm 4 0 [] r)) := Lib.hid (by
        have h := HALE.out
        rw [List.take_of_length_le (by rw [HWL.out]; exact Nat.le_refl _)] at h
        rw [← HR.out, h]; rfl)
      have HQr := Lib.hid HIr.out.res
      have HBr := Lib.hid HIr.out.bel
      have m0 : wr.cell? ⟨nb, 0, none⟩ = some (.int .i64 4) := HIr.out.out.c 0 _ rfl
      have m1 : wr.cell? ⟨nb, 1, none⟩ = some (.string ⟨#[]⟩) := HIr.out.out.c 1 _ rfl
      have m2 : wr.cell? ⟨nb, 2, none⟩ = some (.int .i64 0) := HIr.out.out.c 2 _ rfl
      have m3 : wr.cell? ⟨nb, 3, none⟩ = some (.int .i64 0) := HIr.out.out.c 3 _ rfl
      have m4 : wr.cell? ⟨nb, 4, none⟩ = some (.int .i64 0) := HIr.out.out.c 4 _ rfl
      have m5 : wr.cell? ⟨nb, 5, none⟩ = some (.slice ya k yc) := HIr.out.out.c 5 _ rfl
      have HITS : Hid (∀ Wf, Kp (fun b => Bn ≤ b) wr Wf → Its (fun b => w.heap.size ≤ b) Wf (.slice ya k yc) r) := Lib.hid (fun Wf hkp => by
        have hlt := HIr.out.row.lt
        have hnbs := HNB.out
        have h1 := HIr.out.row.its.mono (S' := fun b => Bn ≤ b) (fun b hb _ => by
          rcases hb with hb | hb
          · exact hb
          · exact (hlt b hb).1)
        exact (h1.kp hkp).mono (fun b hb _ => by have hb : Bn ≤ b := hb; omega))
      clear hkz c0
      have g0_ := HQr.out.c 0 _ rfl
      have g1_ := HQr.out.c 1 _ rfl
      have g2_ := HQr.out.c 2 _ rfl
      have g3_ := HQr.out.c 3 _ rfl
      have g4_ := HQr.out.c 4 _ rfl
      have g5_ := HQr.out.c 5 _ rfl
      have fz_ := HQr.out.fz
      go_wp2_with fail
      obtain ⟨Wf, hWf⟩ : ∃ W, (((((wr.setCell ⟨rb, 0, none⟩ (.int .i64 4)).setCell ⟨rb, 1, none⟩ (.string ⟨#[]⟩)).setCell ⟨rb, 2, none⟩ (.int .i64 0)).setCell ⟨rb, 3, none⟩ (.int .i64 0)).setCell ⟨rb, 4, none⟩ (.int .i64 0)).setCell ⟨rb, 5, none⟩ (.slice ya k yc) = W := ⟨_, rfl⟩
      rw [hWf]
      have q_ : Blk IT rb #[.int .i64 4, .string ⟨#[]⟩, .int .i64 0, .int .i64 0, .int .i64 0, .slice ya k yc] Wf := by rw [← hWf]; exact blk_set6 HQr.out _ _ _ _ _ _
      have hbf_ : Below w.heap.size w Wf := by rw [← hWf]; exact bel_set6 HBr.out HRB.out _ _ _ _ _ _
      have r0_ := q_.c 0 _ rfl
      have r1_ := q_.c 1 _ rfl
      have r2_ := q_.c 2 _ rfl
      have r3_ := q_.c 3 _ rfl
      have r4_ := q_.c 4 _ rfl
      have r5_ := q_.c 5 _ rfl
      refine bodyPost_ret (v := .tuple #[.agg #[.int .i64 4, .string ⟨#[]⟩, .int .i64 0, .int .i64 0, .int .i64 0, .slice ya k yc], .int .i64 0]) (by simp [results, Try.results57, go_sem, r0_, r1_, r2_, r3_, r4_, r5_]) rfl ?_
      exact by rw [HRR.out]; exact ⟨hbf_, ya, yc, by rw [← HRL.out]; rfl, by rw [show (itm 4 0 [] r).kids.length = k from HRL.out]; exact HITS.out Wf (by rw [← hWf]; exact kp_set6 (by have := HNB.out; show ¬ (Bn ≤ rb); omega) _ _ _ _ _ _)⟩
end Hp
end Go.Proofs.Ytojblndlchcjeaa
namespace Go.Proofs.Ytojblndlchcjeaa
open Go.RowKit
namespace Hp
open Bs Sm
theorem read_all (B : Bks) (N : Nat) (l : List Ob) (last root : Nat) (L : Look) (glob : Bts → Nat) (C : RdC B N l last root L glob) : ∀ (f deep : Nat), deep + f = 41 → ∀ (x : Nat) (w : World), Mem B N l last w → x < 18446744073709551616 →
    Calls Try.prog 28 #[rdV B root, .int .u64 (x : Int), .int .i64 (deep : Int)] w (RdR (readG L 13 10 (clsPg L glob) (f + 1) x deep) w)
  | 0, deep, h, x, w, hm, hx => read_step B N l last root L glob C 0 deep (by omega) (fun x o w hm hx ho hk => array_step B N l last root L glob 0 deep (by omega) (fun h2 => by omega) x o w hm hx ho hk) x w hm hx
  | f + 1, deep, h, x, w, hm, hx => read_step B N l last root L glob C (f + 1) deep (by omega) (fun x o w hm hx ho hk => array_step B N l last root L glob (f + 1) deep (by omega) (fun h2 x w hm hx => read_all B N l last root L glob C f (deep + 1) (by omega) x w hm hx) x o w hm hx ho hk) x w hm hx
set_option maxRecDepth 100000 in
set_option maxHeartbeats 1600000 in
theorem Read_any (B : Bks) (N : Nat) (l : List Ob) (last root : Nat) (L : Look) (glob : Bts → Nat) (C : RdC B N l last root L glob) (x : Nat) (w : World) (hm : Mem B N l last w) (hx : x < 18446744073709551616) :
    Calls Try.prog 12 #[.pointer (some ⟨B.h, 0, none⟩), .int .u64 (root : Int), .int .u64 (x : Int)] w (RdR (readG L 13 10 (clsPg L glob) 41 x 1) w) := by
  obtain ⟨W2, hal2⟩ : ∃ W, w.alloc (.cells #[.int .i64 0, .string ⟨#[]⟩, .int .i64 0, .int .i64 0, .int .i64 0, .slice none 0 0] IT) = W := ⟨_, rfl⟩
  have b2 : Below w.heap.size w W2 := by rw [← hal2]; exact alloc_bel w _
  have q2 : Blk IT w.heap.size #[.int .i64 0, .string ⟨#[]⟩, .int .i64 0, .int .i64 0, .int .i64 0, .slice none 0 0] W2 := by rw [← hal2]; exact Blk.made w
  have HRD := Lib.hid (read_all B N l last root L glob C 40 1 rfl x W2 (hm.bel b2) hx)
  obtain ⟨R, hR⟩ : ∃ R, readG L 13 10 (clsPg L glob) 41 x 1 = R := ⟨_, rfl⟩
  have HRD2 : Hid (Calls Try.prog 28 #[.agg #[.pointer (some ⟨B.h, 0, none⟩), .int .u64 (root : Int)], .int .u64 (x : Int), .int .i64 1] W2 (RdR R W2)) := Lib.hid (by rw [← hR]; exact HRD.out)
  rw [hR]
  obtain ⟨rb, hrb⟩ : ∃ b, w.heap.size = b := ⟨_, rfl⟩
  have hlt := q2.lt
  have HRB := Lib.hid (show w.heap.size ≤ rb by omega)
  rw [hrb] at q2
  have HQ2 := Lib.hid q2
  have HB2 := Lib.hid b2
  have HLT : Hid (rb < W2.heap.size) := Lib.hid q2.lt
  clear b2 q2 hm hx C HRD hR hlt
  go_enter Try.func12, Try.ntmps12
  go_wp2_with fail
  refine HRD2.out.mono ?_; intro e w9 hr9
  obtain ⟨ik, is, inn, isl, iwd, ika, ikn, ikc, ier, rfl⟩ := hr9.form
  have hb9 : Below W2.heap.size W2 w9 := hr9.1
  have HQ9 := Lib.hid (HQ2.out.below hb9 HQ2.out.lt)
  have HB9 := Lib.hid (HB2.out.trans (hb9.mono HB2.out.size))
  have HR9 := Lib.hid hr9
  clear hb9 hr9
  have g0_ := HQ9.out.c 0 _ rfl
  have g1_ := HQ9.out.c 1 _ rfl
  have g2_ := HQ9.out.c 2 _ rfl
  have g3_ := HQ9.out.c 3 _ rfl
  have g4_ := HQ9.out.c 4 _ rfl
  have g5_ := HQ9.out.c 5 _ rfl
  have fz_ := HQ9.out.fz
  go_wp2_with fail
  obtain ⟨Wf, hWf⟩ : ∃ W, (((((w9.setCell ⟨rb, 0, none⟩ (.int .i64 ik)).setCell ⟨rb, 1, none⟩ (.string is)).setCell ⟨rb, 2, none⟩ (.int .i64 inn)).setCell ⟨rb, 3, none⟩ (.int .i64 isl)).setCell ⟨rb, 4, none⟩ (.int .i64 iwd)).setCell ⟨rb, 5, none⟩ (.slice ika ikn ikc) = W := ⟨_, rfl⟩
  rw [hWf]
  have q_ : Blk IT rb #[.int .i64 ik, .string is, .int .i64 inn, .int .i64 isl, .int .i64 iwd, .slice ika ikn ikc] Wf := by rw [← hWf]; exact blk_set6 HQ9.out _ _ _ _ _ _
  have hbf_ : Below w.heap.size w Wf := by rw [← hWf]; exact bel_set6 HB9.out HRB.out _ _ _ _ _ _
  have r0_ := q_.c 0 _ rfl
  have r1_ := q_.c 1 _ rfl
  have r2_ := q_.c 2 _ rfl
  have r3_ := q_.c 3 _ rfl
  have r4_ := q_.c 4 _ rfl
  have r5_ := q_.c 5 _ rfl
  refine bodyPost_ret (v := .tuple #[.agg #[.int .i64 ik, .string is, .int .i64 inn, .int .i64 isl, .int .i64 iwd, .slice ika ikn ikc], .int .i64 ier]) (by simp [results, Try.results12, go_sem, r0_, r1_, r2_, r3_, r4_, r5_]) rfl ?_
  exact HR9.out.pass (by rw [← hWf]; exact kp_set6 (by have := HLT.out; show ¬ (W2.heap.size ≤ rb); omega) _ _ _ _ _ _) HB2.out.size hbf_
end Hp
end Go.Proofs.Ytojblndlchcjeaa
