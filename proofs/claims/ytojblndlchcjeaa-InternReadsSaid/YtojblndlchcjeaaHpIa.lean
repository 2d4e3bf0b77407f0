/- Chapter 17, the walk: heap's put. -/
import Derived.Test.YtojblndlchcjeaaHpWb
import Derived.Test.YtojblndlchcjeaaHpAa
set_option linter.unusedVariables false
namespace Go.Proofs.Ytojblndlchcjeaa
open Go.RowKit
namespace Hp
open Bs Sm
abbrev AT2 : Nat := 138
theorem set_two {α : Type} (x y : α) : ∀ (l : List α) (a : Nat), a + 2 ≤ l.length → l.take a ++ [x, y] ++ l.drop (a + 2) = (l.set a x).set (a + 1) y
  | [], a, h => by simp at h
  | [_], a, h => by simp at h
  | u :: v :: l, 0, h => rfl
  | u :: l, a + 1, h => by
    have := set_two x y l a (by simpa using h)
    show u :: (l.take a ++ [x, y] ++ l.drop (a + 2)) = u :: ((l.set a x).set (a + 1) y)
    rw [this]
def PutR (B : Bks) (cs : List Nat) (free : Nat) (ws : List Nat) (last : Nat) (w : World) (e : Ending) (w' : World) : Prop := e = .returned (.tuple #[]) ∧ Raw B cs free ws last w' ∧ But (fun b => b = B.c) w w'
set_option maxRecDepth 100000 in
set_option maxHeartbeats 1600000 in
theorem put_any (B : Bks) (cs : List Nat) (free last a x y : Nat) (ws : List Nat) (w : World) (hR : Raw B cs free ws last w) (ha : a + 2 ≤ cs.length) (hN : cs.length ≤ 16777216) :
    Calls Try.prog 64 #[.pointer (some ⟨B.h, 0, none⟩), .int .i64 (a : Int), .agg #[.int .u64 (x : Int), .int .u64 (y : Int)]] w (PutR B ((cs.set a x).set (a + 1) y) free ws last w) := by
  obtain ⟨N, hl⟩ : ∃ N, cs.length = N := ⟨_, rfl⟩
  rw [hl] at ha hN
  obtain ⟨W1, hal1⟩ : ∃ W, w.alloc (.cells #[.int .u64 (x : Int), .int .u64 (y : Int)] AT2) = W := ⟨_, rfl⟩
  have b1 : Below w.heap.size w W1 := by rw [← hal1]; exact alloc_bel w _
  have q1 : Blk AT2 w.heap.size #[.int .u64 (x : Int), .int .u64 (y : Int)] W1 := by rw [← hal1]; exact Blk.made w
  have hR1 := (hR.bel b1).bel (below_drewN W1 1)
  have q1' := q1.below (below_drewN W1 1) q1.lt
  have hcopy := run_copy_row (P := Try.prog) W1.drew 114 114 3 WT B.c a (N - a) (N - a) ⟨w.heap.size, 0, none⟩ 2 2 (rowA cs) WT [uV x, uV y] (by kernel_rfl) (by kernel_rfl) hR1.rc (by simp only [List.length_cons, List.length_nil]; exact (Nat.min_eq_left (by omega)).symm) (fun j u hj => by
    have e : (⟨w.heap.size, 0, none⟩ : Addr).add j = ⟨w.heap.size, j, none⟩ := by unfold Addr.add; split <;> simp_all
    rw [e]
    exact q1'.c j u (by rw [List.getElem?_toArray]; exact hj)) (by unfold rowA; simp; omega) (fun u hu => by
    simp only [List.mem_cons, List.not_mem_nil, or_false] at hu
    rcases hu with rfl | rfl <;> rfl)
  simp only [List.length_cons, List.length_nil] at hcopy
  obtain ⟨W3, hW3⟩ : ∃ W3, W1.drew.setRow B.c ((rowA cs).toList.take a ++ [uV x, uV y] ++ (rowA cs).toList.drop (a + 2)).toArray = W3 := ⟨_, rfl⟩
  have hcopy' : (Builtin.copy_ #[114, 114] 3 #[.slice (some ⟨B.c, a, none⟩) (N - a) (N - a), .slice (some ⟨w.heap.size, 0, none⟩) 2 2]).run Try.prog W1.drew = .ok (.int .i64 2) W3 := by rw [← hW3]; exact hcopy
  have hrow : ((rowA cs).toList.take a ++ [uV x, uV y] ++ (rowA cs).toList.drop (a + 2)).toArray = rowA ((cs.set a x).set (a + 1) y) := by
    unfold rowA
    congr 1
    show ((cs.map uV).take a ++ [uV x, uV y] ++ (cs.map uV).drop (a + 2)) = _
    rw [set_two _ _ _ _ (by rw [List.length_map]; omega), List.map_set, List.map_set]
  have hb3 : But (fun b => b = B.c) W1.drew W3 := by
    rw [← hW3]
    exact ⟨rfl, rfl, rfl, by simp [World.setRow], fun b hb hx => setRow_other W1.drew B.c b _ hx⟩
  have hlen : ((cs.set a x).set (a + 1) y).length = N := by rw [List.length_set, List.length_set, hl]
  have hR3 : Raw B ((cs.set a x).set (a + 1) y) free ws last W3 := by
    have hp := hR1.hp
    have hbs := hR1.bs
    rw [hl] at hp hbs
    refine ⟨?_, ?_, ?_⟩
    · rw [hlen]; exact hb3.blk hp (blk_ne hR1.hp hR1.rc ht_wt)
    · rw [← hW3, hrow]; exact setRow_heap W1.drew B.c _ _ WT _ hR1.rc
    · rw [hlen]; exact ⟨hb3.blk hbs.st (blk_ne hbs.st hR1.rc bt_wt), hb3.blk hbs.rs (blk_ne hR1.rc hbs.rs wt_ut).symm⟩
  have HRES : Hid (PutR B ((cs.set a x).set (a + 1) y) free ws last w (.returned (.tuple #[])) W3) := Lib.hid ⟨rfl, hR3, (But.of (b1.trans ((below_drewN W1 1).mono b1.size))).trans hb3⟩
  have c0 : W1.drew.cell? ⟨B.h, 0, none⟩ = some (.slice (some ⟨B.c, 0, none⟩) N N) := by have := hR1.hp.c 0 _ rfl; rw [hl] at this; exact this
  have HS := Lib.hid c0
  have hNi : (N : Int) ≤ 16777216 := by omega
  have hai : (a : Int) + 2 ≤ (N : Int) := by omega
  have ha1 : (a : Int) ≤ (N : Int) := by omega
  have ha2 : a ≤ N := by omega
  have ha0 : (0 : Int) ≤ (a : Int) := by omega
  have hne : ¬ N = a := by omega
  have hne2 : (N == a) = false := by simp; omega
  have hne3 : ¬ N - a = 0 := by omega
  clear hR b1 q1 q1' hR1 hcopy hrow hb3 hlen hR3 hl ha hN hW3
  go_enter Try.func64, Try.ntmps64
  go_wp2_with fail
  refine wp_region_noPanic ?_
  refine Hd.start (fun v => v.cell? ⟨B.h, 0, none⟩ = some (.slice (some ⟨B.c, 0, none⟩) N N)) (by kernel_rfl) HS.out (fun hH0 => ?_)
  refine Hd.tk 0 1 hH0 ?_
  refine Hd.tk 1 2 hH0 ?_
  refine Hd.tk 2 3 hH0 ?_
  refine Hd.tk 3 5 hH0 ?_
  refine Hd.tk 4 5 hH0 ?_
  refine Hd.tk 5 7 hH0 ?_
  refine Hd.tk 6 7 hH0 ?_
  refine Hd.la 7 (fun K hK => ?_)
  go_simp
  refine hK.out _ _ ?_
  clear hK K
  try simp only [Act.put, List.setIfInBounds_toArray, List.set_cons_zero, List.set_cons_succ]
  simp only [NoPanic]
  go_wp2_with fail
  go_end0
  exact HRES.out
end Hp
end Go.Proofs.Ytojblndlchcjeaa
