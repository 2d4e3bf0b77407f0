/- Chapters 08 and 17, the walk, 11: heap's Free, Load. -/
import Derived.Test.YtojblndlchcjeaaHpWa
import Derived.Test.YtojblndlchcjeaaHpRd
import Derived.Laws.CopyOwn
set_option linter.unusedVariables false
namespace Go.Proofs.Ytojblndlchcjeaa
open Go.RowKit
namespace Hp
open Bs Sm
set_option maxHeartbeats 400000 in
theorem free_any (B : Bks) (N free last : Nat) (cs ws : List Nat) (w : World) (hR : Raw B cs free ws last w) (hl : cs.length = N) (hf : free ≤ N) (hN : N ≤ 16777216) :
    Calls Try.prog 33 #[.pointer (some ⟨B.h, 0, none⟩)] w (Back (.int .i64 ((N - free : Nat) : Int)) w) := by
  have c0 := hR.hp.c 0 _ rfl
  have c1 := hR.hp.c 1 _ rfl
  rw [hl] at c0
  have h1 : IntKind.i64.wrap ((N : Int) - (free : Int)) = ((N - free : Nat) : Int) := by rw [IntKind.wrap_i64]; omega
  have h2 : (free : Int) ≤ (N : Int) := by omega
  have h3 : (N : Int) ≤ 16777216 := by omega
  have HX := Lib.hid (show (N : Int) - (free : Int) = ((N - free : Nat) : Int) by omega)
  obtain ⟨q, hq⟩ : ∃ q, ((N - free : Nat) : Int) = q := ⟨_, rfl⟩
  rw [hq] at h1 HX ⊢
  clear hR hl hf hN hq h2 h3
  go_enter Try.func33, Try.ntmps33
  go_wp2_with fail
  go_quiet (fail)
  go_wp2_with fail
  go_ret
  exact ⟨rfl, below_drewN _ _⟩
theorem mem_free (B : Bks) (N : Nat) (l : List Ob) (last : Nat) (w : World) (hm : Mem B N l last w) :
    Calls Try.prog 33 #[.pointer (some ⟨B.h, 0, none⟩)] w (Back (.int .i64 ((N - endL 2 l : Nat) : Int)) w) := by
  obtain ⟨hf, ws, -, hR⟩ := hm
  exact free_any B N (endL 2 l) last _ ws w hR hf.len hf.fit hf.hi
/-- A heap of its own, as it was told. -/
def NewM (N : Nat) (l : List Ob) (last : Nat) (w : World) (e : Ending) (w' : World) : Prop :=
  ∃ B : Bks, e = .returned (.tuple #[.pointer (some ⟨B.h, 0, none⟩), .int .i64 0]) ∧ Mem B N l last w' ∧ (w.heap.size ≤ B.h ∧ w.heap.size ≤ B.c ∧ w.heap.size ≤ B.s ∧ w.heap.size ≤ B.b) ∧ Below w.heap.size w w'
theorem heapW_pos {l : List Ob} (hok : ∀ o ∈ l, OkO o) (hne : l ≠ []) : 0 < (heapW l).length := by
  cases l with
  | nil => exact absurd rfl hne
  | cons o l =>
    have := heapW_len (o :: l) 2 hok
    have h2 := len_end (o :: l) 2
    rw [List.length_cons] at h2
    omega
set_option maxRecDepth 100000 in
set_option maxHeartbeats 3200000 in
theorem load_ok (N : Nat) (l : List Ob) (v : Value) (S : Nat → Prop) (w : World) (hf : Fine N l 0) (h0 : ∀ o ∈ l, o.hd.hash = 0) (hne : l ≠ []) (hv : Rd S uV w v (heapW l)) :
    Calls Try.prog 48 #[.int .i64 (N : Int), .int .u32 0, v] w (NewM N l 0 w) := by
  have HN := Lib.hid (fun w => new_ok N hf.lo hf.hi w)
  have hlen := heapW_len l 2 hf.ok
  have hpos := heapW_pos hf.ok hne
  have hfit := hf.fit
  have hV := hv
  obtain ⟨av, cap, rfl, hc1, hc2, -, hcell⟩ := hv
  obtain ⟨vb, vo, rfl, -, hvb, -⟩ := hcell hpos
  have HF := Lib.hid hf
  have HH := Lib.hid h0
  obtain ⟨m, hm⟩ : ∃ m, (heapW l).length = m := ⟨_, rfl⟩
  have HML := Lib.hid hm
  rw [hm] at hlen hpos hc1 ⊢
  have HV : Hid (Rd S uV w (.slice (some ⟨vb, vo, none⟩) m cap) (heapW l)) := Lib.hid (by rw [← hm]; exact hV)
  have HE := Lib.hid hlen
  have n1 : (m : Int) + 2 ≤ (N : Int) := by omega
  have hNN := hf.hi
  have n2 : (N : Int) ≤ 16777216 := by omega
  clear hV hcell hf h0 hne hm
  go_enter Try.func48, Try.ntmps48
  go_wp2_with fail
  refine (HN.out w).mono ?_; rintro e w1 ⟨B, rfl, hR, hB, hb1⟩
  have HR := Lib.hid hR
  have HB := Lib.hid hB
  have HB1 := Lib.hid hb1
  have c0 := hR.hp.c 0 _ rfl
  rw [List.length_replicate] at c0
  have hV1 := Lib.hid (HV.out.below hb1)
  clear hb1 hR hB
  go_wp2_with fail
  refine (free_any B N 2 0 _ _ w1 HR.out (by rw [List.length_replicate]) (by omega) hNN).mono ?_; rintro e w2 ⟨rfl, hb2⟩
  have HR2 := Lib.hid (HR.out.bel hb2)
  have HB2 := Lib.hid (HB1.out.trans (hb2.mono HB1.out.size))
  have HV2 := Lib.hid (hV1.out.below hb2)
  have n3 : decide (((N - 2 : Nat) : Int) < (m : Int)) = false := decide_eq_false (by omega)
  have n3' : decide (N - 2 < m) = false := decide_eq_false (by omega)
  have d0 := HR2.out.hp.c 0 _ rfl
  rw [List.length_replicate] at d0
  have hsrc : ∀ j u, ((heapW l).map uV)[j]? = some u → w2.cell? ((⟨vb, vo, none⟩ : Addr).add j) = some u := fun j u hj => by
    rw [List.getElem?_map] at hj
    obtain ⟨x, hx, rfl⟩ := Option.map_eq_some_iff.1 hj
    obtain ⟨a', c', e1, -, -, -, hcc⟩ := HV2.out
    cases e1
    obtain ⟨b', o', e2, -, -, hcc⟩ := hcc (by omega)
    cases e2
    have e : (⟨vb, vo, none⟩ : Addr).add j = ⟨vb, vo + j, none⟩ := by unfold Addr.add; split <;> simp_all
    rw [e]
    exact hcc j x hx
  have hcopy := run_copy_row (P := Try.prog) w2 114 114 3 WT B.c 2 (N - 2) (N - 2) ⟨vb, vo, none⟩ m cap (rowA (List.replicate N 0)) WT ((heapW l).map uV) (by kernel_rfl) (by kernel_rfl) HR2.out.rc (by rw [List.length_map, HML.out]; exact (Nat.min_eq_left (by omega)).symm) hsrc (by rw [List.length_map, HML.out]; unfold rowA; simp; omega) (fun u hu => by obtain ⟨x, -, rfl⟩ := List.mem_map.1 hu; rfl)
  rw [List.length_map, HML.out] at hcopy
  obtain ⟨W3, hW3⟩ : ∃ W3, w2.setRow B.c ((rowA (List.replicate N 0)).toList.take 2 ++ (heapW l).map uV ++ (rowA (List.replicate N 0)).toList.drop (2 + m)).toArray = W3 := ⟨_, rfl⟩
  rw [hW3] at hcopy
  have hrow : ((rowA (List.replicate N 0)).toList.take 2 ++ (heapW l).map uV ++ (rowA (List.replicate N 0)).toList.drop (2 + m)).toArray = rowA (cellsN N l) := by
    unfold rowA cellsN
    congr 1
    have hN2 : N = 2 + (N - 2) := by omega
    simp only [List.map_replicate, List.map_cons, List.map_append, List.take_replicate, List.drop_replicate]
    rw [show min 2 N = 2 by omega, HE.out]; rfl
  have hb3 : But (fun b => b = B.c) w2 W3 := by
    rw [← hW3]
    exact ⟨rfl, rfl, rfl, by simp [World.setRow], fun b hb hx => setRow_other w2 B.c b _ hx⟩
  have q1 : Blk HT B.h #[.slice (some ⟨B.c, 0, none⟩) N N, .int .i64 2, .pointer (some ⟨B.s, 0, none⟩), .int .u32 0] W3 := hb3.blk (by have := HR2.out.hp; rw [List.length_replicate] at this; exact this) (blk_ne HR2.out.hp HR2.out.rc ht_wt)
  have q2 : Blk WT B.c (rowA (cellsN N l)) W3 := by
    rw [← hW3, hrow]
    exact setRow_heap w2 B.c _ _ WT _ HR2.out.rc
  have q3 : BitsM B.s B.b N (List.replicate (nwL N) 0) W3 := by
    have := HR2.out.bs
    rw [List.length_replicate] at this
    exact ⟨hb3.blk this.st (blk_ne this.st HR2.out.rc bt_wt), hb3.blk this.rs (blk_ne HR2.out.rc this.rs wt_ut).symm⟩
  have g0 := q1.c 0 _ rfl
  have fz := q1.fz
  have g1 := q1.c 1 _ rfl
  have g3 := q1.c 3 _ rfl
  have hHB : ∀ b, b = B.c → w.heap.size ≤ b := fun b hb => by rw [hb]; exact HB.out.2.1
  have HB3 := Lib.hid (HB2.out.trans (hb3.bel hHB HB2.out.size))
  have Q1 := Lib.hid q1; have Q2 := Lib.hid q2; have Q3 := Lib.hid q3
  clear hb2 HR hV1 c0 hsrc hrow hb3 q1 q2 q3 hHB hW3
  go_wp2_with fail
  have q4 := (Q1.out.set_ 1 (.int .i64 (2 + (m : Int))) _ rfl).set_ 3 (.int .u32 0) _ rfl
  have hc1 := blk_ne Q1.out Q2.out ht_wt
  have hc2 := blk_ne Q1.out Q3.out.st ht_bt
  have hc3 := blk_ne Q1.out Q3.out.rs ht_ut
  have hR4 : Raw B (cellsN N l) (endL 2 l) (List.replicate (nwL N) 0) 0 ((W3.setCell ⟨B.h, 1, none⟩ (.int .i64 (2 + (m : Int)))).setCell ⟨B.h, 3, none⟩ (.int .u32 0)) := by
    have hl := HF.out.len
    refine ⟨?_, (Q2.out.far hc1.symm _).far hc1.symm _, ?_⟩
    · rw [hl, ← HE.out]
      have e : ((2 + m : Nat) : Int) = 2 + (m : Int) := by omega
      rw [e]
      exact q4
    · rw [hl]
      exact ⟨(Q3.out.st.far hc2.symm _).far hc2.symm _, (Q3.out.rs.far hc3.symm _).far hc3.symm _⟩
  have hb4 : Below w.heap.size w ((W3.setCell ⟨B.h, 1, none⟩ (.int .i64 (2 + (m : Int)))).setCell ⟨B.h, 3, none⟩ (.int .u32 0)) := (HB3.out.setCell HB.out.1 _).setCell HB.out.1 _
  refine (lay_ok B N l 0 _ HF.out HH.out hR4).mono ?_; rintro e w5 ⟨rfl, hm5, hbt⟩
  have HM5 := Lib.hid hm5
  have HB5 : Hid (Below w.heap.size w w5) := Lib.hid (hb4.trans (hbt.bel (fun b hb => by rw [hb]; exact HB.out.2.2.2) hb4.size))
  clear hm5 hbt hb4 hR4 hc1 hc2 hc3 q4 g0 g1 g3 fz d0 hcopy
  go_wp2_with fail
  go_ret2
  exact ⟨B, rfl, HM5.out, HB.out, HB5.out⟩
end Hp
end Go.Proofs.Ytojblndlchcjeaa
