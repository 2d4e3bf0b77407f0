/- Chapters 08 and 17, the walk, 9: NewBits, New. -/
import Derived.Test.YtojblndlchcjeaaHpW4
import Derived.Test.YtojblndlchcjeaaHpBut
set_option linter.unusedVariables false
namespace Go.Proofs.Ytojblndlchcjeaa
open Go.RowKit
namespace Hp
open Bs Sm
theorem ut_info : ∃ i : TypeInfo, Try.prog.info? UT = some i ∧ i.zero = some (.int .u64 0) ∧ i.size = 1 ∧ i.bytes = 8 := by
  obtain ⟨i, h, h1, h2, h3⟩ := info_parts (show (Try.prog.info? UT).map (fun i => (i.zero, i.size, i.bytes)) = some (some (.int .u64 0), 1, 8) by kernel_rfl)
  exact ⟨i, h, h1, h2, h3⟩
theorem wt_info : ∃ i : TypeInfo, Try.prog.info? WT = some i ∧ i.zero = some (.int .u64 0) ∧ i.size = 1 ∧ i.bytes = 8 := by
  obtain ⟨i, h, h1, h2, h3⟩ := info_parts (show (Try.prog.info? WT).map (fun i => (i.zero, i.size, i.bytes)) = some (some (.int .u64 0), 1, 8) by kernel_rfl)
  exact ⟨i, h, h1, h2, h3⟩
theorem rep_row (n : Nat) : Array.replicate n (Value.int .u64 0) = rowA (List.replicate n 0) := by
  unfold rowA
  rw [List.map_replicate]
  simp [uV]
/-- A set of its own. -/
def NewB (n : Nat) (w : World) (e : Ending) (w' : World) : Prop := ∃ s b, e = .returned (.pointer (some ⟨s, 0, none⟩)) ∧ BitsM s b n (List.replicate (nwL n) 0) w' ∧ w.heap.size ≤ s ∧ w.heap.size ≤ b ∧ Below w.heap.size w w'
set_option maxRecDepth 100000 in
set_option maxHeartbeats 1600000 in
theorem newbits_ok (n : Nat) (h0 : 0 < n) (hn : n ≤ 16777216) (w : World) :
    Calls Try.prog 78 #[.int .i64 (n : Int)] w (NewB n w) := by
  obtain ⟨i0, hi0, hz0, hz1, hz2⟩ := ut_info
  have hmk := make_row (P := Try.prog) 34 UT i0 (.int .u64 0) (by kernel_rfl) hi0 hz0 hz1 rfl .i64 .i64 (nwL n) (by rw [hz2]; unfold nwL; omega) (by unfold maxLen nwL; omega)
  have h1 : min (n : Int) 16777216 = (n : Int) := by omega
  have h2 : max (0 : Int) (n : Int) = (n : Int) := by omega
  have h3 : ((n : Int) + 64 - 1) / 64 = ((nwL n : Nat) : Int) := by unfold nwL; omega
  have h3' : ((n : Int) + 63) / 64 = ((nwL n : Nat) : Int) := by unfold nwL; omega
  have hb : (n : Int) ≤ 16777216 := by omega
  clear hn hi0 hz0 hz1 hz2
  go_enter Try.func78, Try.ntmps78
  go_wp2_with fail
  go_ret
  have q1 : Blk UT w.heap.size (rowA (List.replicate (nwL n) 0)) (w.alloc (.cells (Array.replicate (nwL n) (.int .u64 0)) UT)) := by rw [← rep_row]; exact Blk.made _
  have b1 := alloc_bel w (.cells (Array.replicate (nwL n) (.int .u64 0)) UT)
  have b2 := alloc_bel (w.alloc (.cells (Array.replicate (nwL n) (.int .u64 0)) UT)) (.cells #[.int .i64 (n : Int), .slice (some ⟨w.heap.size, 0, none⟩) (nwL n) (nwL n)] BT)
  refine ⟨w.heap.size + 1, w.heap.size, rfl, ⟨?_, q1.below b2 q1.lt⟩, by omega, Nat.le_refl _, b1.trans (b2.mono b1.size)⟩
  have := Blk.made (T := BT) (cs := #[.int .i64 (n : Int), .slice (some ⟨w.heap.size, 0, none⟩) (nwL n) (nwL n)]) (w.alloc (.cells (Array.replicate (nwL n) (.int .u64 0)) UT))
  simpa using this
/-- An empty heap of its own. -/
def NewH (n : Nat) (w : World) (e : Ending) (w' : World) : Prop := ∃ B : Bks, e = .returned (.tuple #[.pointer (some ⟨B.h, 0, none⟩), .int .i64 0]) ∧ Raw B (List.replicate n 0) 2 (List.replicate (nwL n) 0) 0 w' ∧ (w.heap.size ≤ B.h ∧ w.heap.size ≤ B.c ∧ w.heap.size ≤ B.s ∧ w.heap.size ≤ B.b) ∧ Below w.heap.size w w'
set_option maxRecDepth 100000 in
set_option maxHeartbeats 3200000 in
theorem new_ok (n : Nat) (h0 : 16 ≤ n) (hn : n ≤ 16777216) (w : World) :
    Calls Try.prog 71 #[.int .i64 (n : Int)] w (NewH n w) := by
  obtain ⟨i0, hi0, hz0, hz1, hz2⟩ := wt_info
  have hmk := make_row (P := Try.prog) 114 WT i0 (.int .u64 0) (by kernel_rfl) hi0 hz0 hz1 rfl .i64 .i64 n (by rw [hz2]; omega) (by unfold maxLen; omega)
  have HN := Lib.hid (fun w => newbits_ok n (by omega) hn w)
  have HL := Lib.hid h0
  have g1 : decide ((n : Int) < 16) = false := decide_eq_false (by omega)
  have g1' : decide (n < 16) = false := decide_eq_false (by omega)
  have g2 : decide ((16777216 : Int) < (n : Int)) = false := decide_eq_false (by omega)
  have g2' : decide (16777216 < n) = false := decide_eq_false (by omega)
  have hn0 : 0 < n := by omega
  clear hi0 hz0 hz1 hz2 h0 hn
  go_enter Try.func71, Try.ntmps71
  go_wp2_with fail
  refine wp_region_noPanic ?_
  refine Hd.start (fun _ => True) (by kernel_rfl) trivial (fun hH0 => ?_)
  refine Hd.tk 0 1 hH0 ?_
  refine Hd.tk 2 3 hH0 ?_
  refine Hd.two 1 3 (o := ?_) (p := ?_) ?_ ?_ (by kernel_rfl) (fun K hK => ?_) (fun K hK => ?_)
  rotate_left 2
  · simp only [List.getElem?_toArray, List.getElem?_cons_succ, List.getElem?_cons_zero]
    exact rfl
  · simp only [List.getElem?_toArray, List.getElem?_cons_succ, List.getElem?_cons_zero]
    exact rfl
  · go_simp
    refine hK.out _ _ trivial (fun hH1 => ?_)
    clear hK K
    try simp only [Act.put, List.setIfInBounds_toArray, List.set_cons_zero, List.set_cons_succ]
    obtain ⟨W1, hal1⟩ : ∃ W1, (w.alloc (.cells (Array.replicate n (.int .u64 0)) WT)).drew = W1 := ⟨_, rfl⟩
    have b1 : Below w.heap.size w W1 := by rw [← hal1]; exact (alloc_bel w _).drew
    have qA : Blk WT w.heap.size (rowA (List.replicate n 0)) W1 := by rw [← hal1, rep_row]; exact (Blk.made w).drewN 1
    rw [hal1]
    have HB1 := Lib.hid b1
    have QA := Lib.hid qA
    clear b1 qA
    refine Hd.on 3 (fun K hK => ?_)
    go_simp
    refine (HN.out W1).mono ?_; rintro e w2 ⟨s, b, rfl, hm, hs, hb, hb2⟩
    refine hK.out _ _ trivial (fun hH2 => ?_)
    clear hK K
    try simp only [Act.put, List.setIfInBounds_toArray, List.set_cons_zero, List.set_cons_succ]
    refine Hd.tk 4 5 hH2 ?_
    obtain ⟨W3, hal3⟩ : ∃ W3, w2.alloc (.cells #[.slice (some ⟨w.heap.size, 0, none⟩) n n, .int .i64 2, .pointer (some ⟨s, 0, none⟩), .int .u32 0] HT) = W3 := ⟨_, rfl⟩
    have b3 : Below w2.heap.size w2 W3 := by rw [← hal3]; exact alloc_bel _ _
    have qH : Blk HT w2.heap.size #[.slice (some ⟨w.heap.size, 0, none⟩) n n, .int .i64 2, .pointer (some ⟨s, 0, none⟩), .int .u32 0] W3 := by rw [← hal3]; exact Blk.made _
    have HR : Hid (Raw ⟨w2.heap.size, w.heap.size, s, b⟩ (List.replicate n 0) 2 (List.replicate (nwL n) 0) 0 W3) := Lib.hid ⟨by simpa using qH, (QA.out.below hb2 QA.out.lt).below b3 (Nat.lt_of_lt_of_le QA.out.lt hb2.size), by simpa using hm.bel b3⟩
    have HBf := Lib.hid (HB1.out.trans ((hb2.trans (b3.mono hb2.size)).mono HB1.out.size))
    have HSz := Lib.hid (show w.heap.size ≤ w2.heap.size ∧ w.heap.size ≤ s ∧ w.heap.size ≤ b from ⟨Nat.le_trans HB1.out.size hb2.size, Nat.le_trans HB1.out.size hs, Nat.le_trans HB1.out.size hb⟩)
    clear hm hs hb hb2 b3 qH
    refine Hd.on 5 (fun K hK => ?_)
    go_simp
    refine hK.out _ _ trivial (fun hH3 => ?_)
    clear hK K
    try simp only [Act.put, List.setIfInBounds_toArray, List.set_cons_zero, List.set_cons_succ]
    refine Hd.tk 6 7 hH3 ?_
    refine Hd.la 7 (fun K hK => ?_)
    go_simp
    refine hK.out _ _ ?_
    clear hK K
    try simp only [Act.put, List.setIfInBounds_toArray, List.set_cons_zero, List.set_cons_succ]
    simp only [NoPanic]
    go_wp2_with fail
    go_ret2
    exact ⟨_, rfl, HR.out, ⟨HSz.out.1, Nat.le_refl _, HSz.out.2.1, HSz.out.2.2⟩, HBf.out⟩
  · go_simp
    refine (HN.out w.drew).mono ?_; rintro e w2 ⟨s, b, rfl, hm, hs, hb, hb2⟩
    refine hK.out _ _ trivial (fun hH1 => ?_)
    clear hK K
    try simp only [Act.put, List.setIfInBounds_toArray, List.set_cons_zero, List.set_cons_succ]
    obtain ⟨W1, hal1⟩ : ∃ W1, w2.alloc (.cells (Array.replicate n (.int .u64 0)) WT) = W1 := ⟨_, rfl⟩
    have b1 : Below w2.heap.size w2 W1 := by rw [← hal1]; exact alloc_bel _ _
    have qA : Blk WT w2.heap.size (rowA (List.replicate n 0)) W1 := by rw [← hal1, rep_row]; exact Blk.made w2
    have hb02 : Below w.heap.size w w2 := (below_drewN w 1).trans (hb2.mono (below_drewN w 1).size)
    refine Hd.on 1 (fun K hK => ?_)
    go_simp
    refine hK.out _ _ trivial (fun hH2 => ?_)
    clear hK K
    try simp only [Act.put, List.setIfInBounds_toArray, List.set_cons_zero, List.set_cons_succ]
    refine Hd.tk 4 5 hH2 ?_
    obtain ⟨W3, hal3⟩ : ∃ W3, W1.alloc (.cells #[.slice (some ⟨w2.heap.size, 0, none⟩) n n, .int .i64 2, .pointer (some ⟨s, 0, none⟩), .int .u32 0] HT) = W3 := ⟨_, rfl⟩
    have b3 : Below W1.heap.size W1 W3 := by rw [← hal3]; exact alloc_bel _ _
    have qH : Blk HT W1.heap.size #[.slice (some ⟨w2.heap.size, 0, none⟩) n n, .int .i64 2, .pointer (some ⟨s, 0, none⟩), .int .u32 0] W3 := by rw [← hal3]; exact Blk.made _
    have HR : Hid (Raw ⟨W1.heap.size, w2.heap.size, s, b⟩ (List.replicate n 0) 2 (List.replicate (nwL n) 0) 0 W3) := Lib.hid ⟨by simpa using qH, qA.below b3 qA.lt, by simpa using (hm.bel b1).bel b3⟩
    have HBf := Lib.hid (hb02.trans ((b1.trans (b3.mono b1.size)).mono hb02.size))
    have HSz := Lib.hid (show w.heap.size ≤ W1.heap.size ∧ w.heap.size ≤ w2.heap.size ∧ w.heap.size ≤ s ∧ w.heap.size ≤ b from ⟨Nat.le_trans hb02.size b1.size, hb02.size, hs, hb⟩)
    clear hm hs hb hb2 b3 qH b1 qA hb02
    refine Hd.on 5 (fun K hK => ?_)
    go_simp
    refine hK.out _ _ trivial (fun hH3 => ?_)
    clear hK K
    try simp only [Act.put, List.setIfInBounds_toArray, List.set_cons_zero, List.set_cons_succ]
    refine Hd.tk 6 7 hH3 ?_
    refine Hd.la 7 (fun K hK => ?_)
    go_simp
    refine hK.out _ _ ?_
    clear hK K
    try simp only [Act.put, List.setIfInBounds_toArray, List.set_cons_zero, List.set_cons_succ]
    simp only [NoPanic]
    go_wp2_with fail
    go_ret2
    exact ⟨_, rfl, HR.out, ⟨HSz.out.1, HSz.out.2.1, HSz.out.2.2.1, HSz.out.2.2.2⟩, HBf.out⟩
end Hp
end Go.Proofs.Ytojblndlchcjeaa
