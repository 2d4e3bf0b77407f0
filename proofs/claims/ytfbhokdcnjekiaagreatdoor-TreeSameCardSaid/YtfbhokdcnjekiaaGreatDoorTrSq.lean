/- The function that the law TreeSame hands to Walk (printed by gen_trsq.py, hdx.py). -/
import Derived.Test.YtfbhokdcnjekiaaGreatDoorTrSe
import Derived.Test.YtfbhokdcnjekiaaGreatDoorTrSn
import Derived.Test.YtfbhokdcnjekiaaGreatDoorTrL0
set_option linter.unusedVariables false
namespace Go.Proofs.YtfbhokdcnjekiaaGreatDoor
open Go.RowKit
namespace Tr
open Bs Sm
/-- One node more is seen, till stop. -/
def sawS (stop : Nat) (x : Nd) (n : Nat) : Bool × Nat := (decide (n + 1 ≤ stop), n + 1)
theorem saw_go (stop : Nat) : ∀ (l : List Nd) (k : Nat), k ≤ stop → goW (sawS stop) l k = if stop < k + l.length then (false, stop + 1) else (true, k + l.length)
  | [], k, h => by rw [goW, if_neg (by simp; omega)]; rfl
  | x :: l, k, h => by
    rw [goW]
    by_cases h1 : k + 1 ≤ stop
    · rw [if_pos (show (sawS stop x k).1 = true from decide_eq_true h1)]
      show goW (sawS stop) l (k + 1) = _
      rw [saw_go stop l (k + 1) h1, List.length_cons, show k + 1 + l.length = k + (l.length + 1) by omega]
    · rw [if_neg (by show ¬ decide (k + 1 ≤ stop) = true; rw [decide_eq_false h1]; decide), if_pos (by rw [List.length_cons]; omega)]
      show (false, k + 1) = _
      rw [show k = stop by omega]
theorem saw_fits (stop : Nat) (L : List Nd) : ∀ (l : List Nd) (k : Nat), L.drop k = l → Fits (fun x n => L[n]? = some x) (sawS stop) l k
  | [], k, h => trivial
  | x :: l, k, h => by
    refine ⟨?_, fun _ => ?_⟩
    · have := congrArg (fun l => l[0]?) h
      simpa using this
    · refine saw_fits stop L l (k + 1) ?_
      have := congrArg List.tail h
      simpa using this
/-- The list's parts that are held against each node. -/
def LRd (N : Nat → Prop) (w : World) (lv : Value) (L : List Nd) : Prop := ∃ a cap, lv = .slice a L.length cap ∧ ∀ i x, L[i]? = some x → ∃ g off, a = some ⟨g, off, none⟩ ∧ g < w.heap.size ∧ ¬ N g ∧
  w.cell? ⟨g, off + i * 6, none⟩ = some (.int .i64 x.kind) ∧ w.cell? ⟨g, off + i * 6 + 1, none⟩ = some (.string ⟨x.name.toArray⟩) ∧ w.cell? ⟨g, off + i * 6 + 2, none⟩ = some (.int .i64 x.num)
theorem But.mono {X Y : Nat → Prop} {w w' : World} (h : But X w w') (hx : ∀ b, X b → Y b) : But Y w w' := ⟨h.os, h.tape, h.output, h.size, fun b hl hn => h.block b hl (fun e => hn (hx b e))⟩
theorem LRd.but {N : Nat → Prop} {w w' : World} {lv : Value} {L : List Nd} (h : LRd N w lv L) (hb : But N w w') : LRd N w' lv L := by
  obtain ⟨a, cap, rfl, h⟩ := h
  refine ⟨a, cap, rfl, fun i x hx => ?_⟩
  obtain ⟨g, off, h1, h2, h3, h4, h5, h6⟩ := h i x hx
  have hc : ∀ j, w'.cell? ⟨g, j, none⟩ = w.cell? ⟨g, j, none⟩ := fun j => hb.kp.cell h3 h2 j
  exact ⟨g, off, h1, Nat.lt_of_lt_of_le h2 hb.size, h3, (hc _).trans h4, (hc _).trans h5, (hc _).trans h6⟩
/-- What stands while it is handed over. -/
structure SInv (kS kN kL kP : Nat) (lv : Value) (L : List Nd) (stop n : Nat) (w : World) : Prop where
  s : Blk 4 kS #[.bool true] w
  n : Blk 3 kN #[.int .i64 (n : Int)] w
  l : Blk 23 kL #[lv] w
  p : Blk 3 kP #[.int .i64 (stop : Int)] w
  r : LRd (fun b => b = kS ∨ b = kN ∨ b = kP) w lv L
theorem ent22 : Ent 22 := enters_of Tryz.func22 (by kernel_rfl) rfl
set_option maxRecDepth 100000 in
set_option maxHeartbeats 6400000 in
theorem same_see (kS kN kL kP : Nat) (lv : Value) (L : List Nd) (stop : Nat) (l : List Nd) (hL : L.length ≤ 100000) (d1 : ¬ kS = kN) (d2 : ¬ kS = kL) (d3 : ¬ kS = kP) (d4 : ¬ kN = kL) (d5 : ¬ kN = kP) (B : Nat) (b1 : kS < B) (b2 : kN < B) :
    See2 (fun b => b = kS ∨ b = kN) 22 #[.pointer (some ⟨kS, 0, none⟩), .pointer (some ⟨kN, 0, none⟩), .pointer (some ⟨kL, 0, none⟩), .pointer (some ⟨kP, 0, none⟩)]
      (SInv kS kN kL kP lv L stop) (fun x n => L[n]? = some x) (sawS stop) B l := by
  refine ⟨ent22, fun b hb => by omega, fun s w w' h hb => ⟨h.s.below hb h.s.lt, h.n.below hb h.n.lt, h.l.below hb h.l.lt, h.p.below hb h.p.lt, h.r.but (But.of hb)⟩, fun x hx ka kc na nc n w hP hI hB hk hn => ?_⟩
  have hX := alloc_bel w (.cells #[.int .i64 x.kind, .string ⟨x.name.toArray⟩, .int .i64 x.num, .slice ka x.kids.length kc, .slice na x.names.length nc, .int .i64 x.at_] 50)
  have hbx := Blk.made (T := 50) (cs := #[.int .i64 x.kind, .string ⟨x.name.toArray⟩, .int .i64 x.num, .slice ka x.kids.length kc, .slice na x.names.length nc, .int .i64 x.at_]) w
  have hnL := (List.getElem?_eq_some_iff.1 hP).1
  obtain ⟨a, cap, rfl, hr⟩ := hI.r
  obtain ⟨g, off, rfl, hg, hgn, hc0, hc1, hc2⟩ := hr n x hP
  obtain ⟨ln, hln⟩ : ∃ k, L.length = k := ⟨_, rfl⟩
  rw [hln] at hnL hL
  have hlv := hI.l
  rw [hln] at hlv
  have HI := Lib.hid hI
  obtain ⟨w1, hw1⟩ : ∃ v, w.alloc (.cells #[.int .i64 x.kind, .string ⟨x.name.toArray⟩, .int .i64 x.num, .slice ka x.kids.length kc, .slice na x.names.length nc, .int .i64 x.at_] 50) = v := ⟨_, rfl⟩
  rw [hw1] at hX hbx
  have hbw : Below w.heap.size w w1.drew := hX.drew
  have hxx : Blk 50 w.heap.size #[.int .i64 x.kind, .string ⟨x.name.toArray⟩, .int .i64 x.num, .slice ka x.kids.length kc, .slice na x.names.length nc, .int .i64 x.at_] w1.drew := hbx
  have hS0 : Hid ((fun v => v.cell? ⟨kS, 0, none⟩ = some (.bool true) ∧ v.cell? ⟨kN, 0, none⟩ = some (.int .i64 (n : Int)) ∧ v.cell? ⟨kL, 0, none⟩ = some (.slice (some ⟨g, off, none⟩) ln cap) ∧ v.cell? ⟨w.heap.size, 0, none⟩ = some (.int .i64 x.kind) ∧ v.cell? ⟨w.heap.size, 1, none⟩ = some (.string ⟨x.name.toArray⟩) ∧ v.cell? ⟨w.heap.size, 2, none⟩ = some (.int .i64 x.num) ∧ v.cell? ⟨g, off + n * 6, none⟩ = some (.int .i64 x.kind) ∧ v.cell? ⟨g, off + n * 6 + 1, none⟩ = some (.string ⟨x.name.toArray⟩) ∧ v.cell? ⟨g, off + n * 6 + 2, none⟩ = some (.int .i64 x.num)) w1.drew) := Lib.hid ⟨(hI.s.below hbw hI.s.lt).c 0 _ rfl, (hI.n.below hbw hI.n.lt).c 0 _ rfl, (hlv.below hbw hlv.lt).c 0 _ rfl, hxx.c 0 _ rfl, hxx.c 1 _ rfl, hxx.c 2 _ rfl, (hbw.cell (p := ⟨g, off + n * 6, none⟩) hg).trans hc0, (hbw.cell (p := ⟨g, off + n * 6 + 1, none⟩) hg).trans hc1, (hbw.cell (p := ⟨g, off + n * 6 + 2, none⟩) hg).trans hc2⟩
  have sl := hI.s.lt
  have nl := hI.n.lt
  have pl := hI.p.lt
  have f0 : ∀ i, w1.frozen? ⟨kS, i, none⟩ = false := (hI.s.below hX hI.s.lt).fz
  have e0 : w1.cell? ⟨kS, 0, none⟩ = some (.bool true) := (hI.s.below hX hI.s.lt).c 0 _ rfl
  have HX := Lib.hid hX
  have HW1 := Lib.hid hw1
  have HBW := Lib.hid hbw
  have hdec : decide ((n : Int) < (ln : Int)) = true := decide_eq_true (by omega)
  have hn1 : (n : Int) < (ln : Int) := by omega
  have hn0 : 0 ≤ (n : Int) := by omega
  have hnw : IntKind.i64.wrap ((n : Int) + 1) = (n : Int) + 1 := IntWalk.i64_in _ (by omega)
  have hdp : decide ((n : Int) + 1 ≤ (stop : Int)) = decide (n + 1 ≤ stop) := by
    by_cases h : n + 1 ≤ stop
    · rw [decide_eq_true h, decide_eq_true (by omega)]
    · rw [decide_eq_false h, decide_eq_false (by omega)]
  have d9 : ¬ kL = kS := fun e => d2 e.symm
  have d10 : ¬ kL = kN := fun e => d4 e.symm
  have d6 : ¬ kN = kS := fun e => d1 e.symm
  have d7 : ¬ kP = kS := fun e => d3 e.symm
  have d8 : ¬ kP = kN := fun e => d5 e.symm
  unfold ndV
  suffices H : Calls Tryz.prog 22 #[.agg #[.int .i64 x.kind, .string ⟨x.name.toArray⟩, .int .i64 x.num, .slice ka x.kids.length kc, .slice na x.names.length nc, .int .i64 x.at_], .pointer (some ⟨kS, 0, none⟩), .pointer (some ⟨kN, 0, none⟩), .pointer (some ⟨kL, 0, none⟩), .pointer (some ⟨kP, 0, none⟩)] w
    (fun e w' => e = .returned (.bool (sawS stop x n).1) ∧ SInv kS kN kL kP (.slice (some ⟨g, off, none⟩) L.length cap) L stop (sawS stop x n).2 w' ∧ But (fun b => b = kS ∨ b = kN) w w') from H
  clear hI hk hn hX hbx hx hP hr hlv hxx hw1 hbw hc0 hc1 hc2 hln
  go_enter Tryz.func22, Tryz.ntmps22
  go_upto_region 1 with fail
  rw [HW1.out]
  refine wp_region_noPanic ?_
  refine Hd.start (fun v => v.cell? ⟨kS, 0, none⟩ = some (.bool true) ∧ v.cell? ⟨kN, 0, none⟩ = some (.int .i64 (n : Int)) ∧ v.cell? ⟨kL, 0, none⟩ = some (.slice (some ⟨g, off, none⟩) ln cap) ∧ v.cell? ⟨w.heap.size, 0, none⟩ = some (.int .i64 x.kind) ∧ v.cell? ⟨w.heap.size, 1, none⟩ = some (.string ⟨x.name.toArray⟩) ∧ v.cell? ⟨w.heap.size, 2, none⟩ = some (.int .i64 x.num) ∧ v.cell? ⟨g, off + n * 6, none⟩ = some (.int .i64 x.kind) ∧ v.cell? ⟨g, off + n * 6 + 1, none⟩ = some (.string ⟨x.name.toArray⟩) ∧ v.cell? ⟨g, off + n * 6 + 2, none⟩ = some (.int .i64 x.num)) (by kernel_rfl) hS0.out (fun hH0 => ?_)
  refine Hd.take 0 1 (oi := ?_) (v := ?_) ?_ (by kernel_rfl) (fun _ _ _ h => h) hH0 ?_ ?_ ?_
  rotate_left 2
  · simp only [List.getElem?_toArray, List.getElem?_cons_zero]
    exact rfl
  · rfl
  · intro w hSw
    (try dsimp only at hSw)
    go_simp
    try with_reducible rfl
  try simp only [Act.put, List.setIfInBounds_toArray, List.set_cons_zero, List.set_cons_succ]
  refine Hd.take 1 6 (oi := ?_) (v := ?_) ?_ (by kernel_rfl) (fun _ _ _ h => h) hH0 ?_ ?_ ?_
  rotate_left 2
  · simp only [List.getElem?_toArray, List.getElem?_cons_succ, List.getElem?_cons_zero]
    exact rfl
  · rfl
  · intro w hSw
    (try dsimp only at hSw)
    go_simp
    try with_reducible rfl
  try simp only [Act.put, List.setIfInBounds_toArray, List.set_cons_zero, List.set_cons_succ]
  refine Hd.take 2 5 (oi := ?_) (v := ?_) ?_ (by kernel_rfl) (fun _ _ _ h => h) hH0 ?_ ?_ ?_
  rotate_left 2
  · simp only [List.getElem?_toArray, List.getElem?_cons_succ, List.getElem?_cons_zero]
    exact rfl
  · rfl
  · intro w hSw
    (try dsimp only at hSw)
    go_simp
    try with_reducible rfl
  try simp only [Act.put, List.setIfInBounds_toArray, List.set_cons_zero, List.set_cons_succ]
  refine Hd.take 3 4 (oi := ?_) (v := ?_) ?_ (by kernel_rfl) (fun _ _ _ h => h) hH0 ?_ ?_ ?_
  rotate_left 2
  · simp only [List.getElem?_toArray, List.getElem?_cons_succ, List.getElem?_cons_zero]
    exact rfl
  · rfl
  · intro w hSw
    (try dsimp only at hSw)
    go_simp
    try with_reducible rfl
  try simp only [Act.put, List.setIfInBounds_toArray, List.set_cons_zero, List.set_cons_succ]
  refine Hd.take 4 5 (oi := ?_) (v := ?_) ?_ (by kernel_rfl) (fun _ _ _ h => h) hH0 ?_ ?_ ?_
  rotate_left 2
  · simp only [List.getElem?_toArray, List.getElem?_cons_succ, List.getElem?_cons_zero]
    exact rfl
  · rfl
  · intro w hSw
    (try dsimp only at hSw)
    go_simp
    try with_reducible rfl
  try simp only [Act.put, List.setIfInBounds_toArray, List.set_cons_zero, List.set_cons_succ]
  refine Hd.take 5 6 (oi := ?_) (v := ?_) ?_ (by kernel_rfl) (fun _ _ _ h => h) hH0 ?_ ?_ ?_
  rotate_left 2
  · simp only [List.getElem?_toArray, List.getElem?_cons_succ, List.getElem?_cons_zero]
    exact rfl
  · rfl
  · intro w hSw
    (try dsimp only at hSw)
    go_simp
    try with_reducible rfl
  try simp only [Act.put, List.setIfInBounds_toArray, List.set_cons_zero, List.set_cons_succ]
  refine Hd.take 6 7 (oi := ?_) (v := ?_) ?_ (by kernel_rfl) (fun _ _ _ h => h) hH0 ?_ ?_ ?_
  rotate_left 2
  · simp only [List.getElem?_toArray, List.getElem?_cons_succ, List.getElem?_cons_zero]
    exact rfl
  · rfl
  · intro w hSw
    (try dsimp only at hSw)
    go_simp
    try with_reducible rfl
  try simp only [Act.put, List.setIfInBounds_toArray, List.set_cons_zero, List.set_cons_succ]
  refine Hd.take 7 16 (oi := ?_) (v := ?_) ?_ (by kernel_rfl) (fun _ _ _ h => h) hH0 ?_ ?_ ?_
  rotate_left 2
  · simp only [List.getElem?_toArray, List.getElem?_cons_succ, List.getElem?_cons_zero]
    exact rfl
  · rfl
  · intro w hSw
    (try dsimp only at hSw)
    go_simp
    try with_reducible rfl
  try simp only [Act.put, List.setIfInBounds_toArray, List.set_cons_zero, List.set_cons_succ]
  refine Hd.take 8 9 (oi := ?_) (v := ?_) ?_ (by kernel_rfl) (fun _ _ _ h => h) hH0 ?_ ?_ ?_
  rotate_left 2
  · simp only [List.getElem?_toArray, List.getElem?_cons_succ, List.getElem?_cons_zero]
    exact rfl
  · rfl
  · intro w hSw
    (try dsimp only at hSw)
    go_simp
    try with_reducible rfl
  try simp only [Act.put, List.setIfInBounds_toArray, List.set_cons_zero, List.set_cons_succ]
  refine Hd.take 9 15 (oi := ?_) (v := ?_) ?_ (by kernel_rfl) (fun _ _ _ h => h) hH0 ?_ ?_ ?_
  rotate_left 2
  · simp only [List.getElem?_toArray, List.getElem?_cons_succ, List.getElem?_cons_zero]
    exact rfl
  · rfl
  · intro w hSw
    (try dsimp only at hSw)
    go_simp
    try with_reducible rfl
  try simp only [Act.put, List.setIfInBounds_toArray, List.set_cons_zero, List.set_cons_succ]
  refine Hd.take 10 12 (oi := ?_) (v := ?_) ?_ (by kernel_rfl) (fun _ _ _ h => h) hH0 ?_ ?_ ?_
  rotate_left 2
  · simp only [List.getElem?_toArray, List.getElem?_cons_succ, List.getElem?_cons_zero]
    exact rfl
  · rfl
  · intro w hSw
    (try dsimp only at hSw)
    go_simp
    try with_reducible rfl
  try simp only [Act.put, List.setIfInBounds_toArray, List.set_cons_zero, List.set_cons_succ]
  refine Hd.take 11 12 (oi := ?_) (v := ?_) ?_ (by kernel_rfl) (fun _ _ _ h => h) hH0 ?_ ?_ ?_
  rotate_left 2
  · simp only [List.getElem?_toArray, List.getElem?_cons_succ, List.getElem?_cons_zero]
    exact rfl
  · rfl
  · intro w hSw
    (try dsimp only at hSw)
    go_simp
    try with_reducible rfl
  try simp only [Act.put, List.setIfInBounds_toArray, List.set_cons_zero, List.set_cons_succ]
  refine Hd.take 12 13 (oi := ?_) (v := ?_) ?_ (by kernel_rfl) (fun _ _ _ h => h) hH0 ?_ ?_ ?_
  rotate_left 2
  · simp only [List.getElem?_toArray, List.getElem?_cons_succ, List.getElem?_cons_zero]
    exact rfl
  · rfl
  · intro w hSw
    (try dsimp only at hSw)
    go_simp
    try with_reducible rfl
  try simp only [Act.put, List.setIfInBounds_toArray, List.set_cons_zero, List.set_cons_succ]
  refine Hd.take 13 14 (oi := ?_) (v := ?_) ?_ (by kernel_rfl) (fun _ _ _ h => h) hH0 ?_ ?_ ?_
  rotate_left 2
  · simp only [List.getElem?_toArray, List.getElem?_cons_succ, List.getElem?_cons_zero]
    exact rfl
  · rfl
  · intro w hSw
    (try dsimp only at hSw)
    go_simp
    try with_reducible rfl
  try simp only [Act.put, List.setIfInBounds_toArray, List.set_cons_zero, List.set_cons_succ]
  refine Hd.take 14 15 (oi := ?_) (v := ?_) ?_ (by kernel_rfl) (fun _ _ _ h => h) hH0 ?_ ?_ ?_
  rotate_left 2
  · simp only [List.getElem?_toArray, List.getElem?_cons_succ, List.getElem?_cons_zero]
    exact rfl
  · rfl
  · intro w hSw
    (try dsimp only at hSw)
    go_simp
    try with_reducible rfl
  try simp only [Act.put, List.setIfInBounds_toArray, List.set_cons_zero, List.set_cons_succ]
  refine Hd.take 15 16 (oi := ?_) (v := ?_) ?_ (by kernel_rfl) (fun _ _ _ h => h) hH0 ?_ ?_ ?_
  rotate_left 2
  · simp only [List.getElem?_toArray, List.getElem?_cons_succ, List.getElem?_cons_zero]
    exact rfl
  · rfl
  · intro w hSw
    (try dsimp only at hSw)
    go_simp
    try with_reducible rfl
  try simp only [Act.put, List.setIfInBounds_toArray, List.set_cons_zero, List.set_cons_succ]
  refine Hd.take 16 17 (oi := ?_) (v := ?_) ?_ (by kernel_rfl) (fun _ _ _ h => h) hH0 ?_ ?_ ?_
  rotate_left 2
  · simp only [List.getElem?_toArray, List.getElem?_cons_succ, List.getElem?_cons_zero]
    exact rfl
  · rfl
  · intro w hSw
    (try dsimp only at hSw)
    go_simp
    try with_reducible rfl
  try simp only [Act.put, List.setIfInBounds_toArray, List.set_cons_zero, List.set_cons_succ]
  refine Hd.take 17 26 (oi := ?_) (v := ?_) ?_ (by kernel_rfl) (fun _ _ _ h => h) hH0 ?_ ?_ ?_
  rotate_left 2
  · simp only [List.getElem?_toArray, List.getElem?_cons_succ, List.getElem?_cons_zero]
    exact rfl
  · rfl
  · intro w hSw
    (try dsimp only at hSw)
    go_simp
    try with_reducible rfl
  try simp only [Act.put, List.setIfInBounds_toArray, List.set_cons_zero, List.set_cons_succ]
  refine Hd.take 18 19 (oi := ?_) (v := ?_) ?_ (by kernel_rfl) (fun _ _ _ h => h) hH0 ?_ ?_ ?_
  rotate_left 2
  · simp only [List.getElem?_toArray, List.getElem?_cons_succ, List.getElem?_cons_zero]
    exact rfl
  · rfl
  · intro w hSw
    (try dsimp only at hSw)
    go_simp
    try with_reducible rfl
  try simp only [Act.put, List.setIfInBounds_toArray, List.set_cons_zero, List.set_cons_succ]
  refine Hd.take 19 25 (oi := ?_) (v := ?_) ?_ (by kernel_rfl) (fun _ _ _ h => h) hH0 ?_ ?_ ?_
  rotate_left 2
  · simp only [List.getElem?_toArray, List.getElem?_cons_succ, List.getElem?_cons_zero]
    exact rfl
  · rfl
  · intro w hSw
    (try dsimp only at hSw)
    go_simp
    try with_reducible rfl
  try simp only [Act.put, List.setIfInBounds_toArray, List.set_cons_zero, List.set_cons_succ]
  refine Hd.take 20 22 (oi := ?_) (v := ?_) ?_ (by kernel_rfl) (fun _ _ _ h => h) hH0 ?_ ?_ ?_
  rotate_left 2
  · simp only [List.getElem?_toArray, List.getElem?_cons_succ, List.getElem?_cons_zero]
    exact rfl
  · rfl
  · intro w hSw
    (try dsimp only at hSw)
    go_simp
    try with_reducible rfl
  try simp only [Act.put, List.setIfInBounds_toArray, List.set_cons_zero, List.set_cons_succ]
  refine Hd.take 21 22 (oi := ?_) (v := ?_) ?_ (by kernel_rfl) (fun _ _ _ h => h) hH0 ?_ ?_ ?_
  rotate_left 2
  · simp only [List.getElem?_toArray, List.getElem?_cons_succ, List.getElem?_cons_zero]
    exact rfl
  · rfl
  · intro w hSw
    (try dsimp only at hSw)
    go_simp
    try with_reducible rfl
  try simp only [Act.put, List.setIfInBounds_toArray, List.set_cons_zero, List.set_cons_succ]
  refine Hd.take 22 23 (oi := ?_) (v := ?_) ?_ (by kernel_rfl) (fun _ _ _ h => h) hH0 ?_ ?_ ?_
  rotate_left 2
  · simp only [List.getElem?_toArray, List.getElem?_cons_succ, List.getElem?_cons_zero]
    exact rfl
  · rfl
  · intro w hSw
    (try dsimp only at hSw)
    go_simp
    try with_reducible rfl
  try simp only [Act.put, List.setIfInBounds_toArray, List.set_cons_zero, List.set_cons_succ]
  refine Hd.take 23 24 (oi := ?_) (v := ?_) ?_ (by kernel_rfl) (fun _ _ _ h => h) hH0 ?_ ?_ ?_
  rotate_left 2
  · simp only [List.getElem?_toArray, List.getElem?_cons_succ, List.getElem?_cons_zero]
    exact rfl
  · rfl
  · intro w hSw
    (try dsimp only at hSw)
    go_simp
    try with_reducible rfl
  try simp only [Act.put, List.setIfInBounds_toArray, List.set_cons_zero, List.set_cons_succ]
  refine Hd.take 24 25 (oi := ?_) (v := ?_) ?_ (by kernel_rfl) (fun _ _ _ h => h) hH0 ?_ ?_ ?_
  rotate_left 2
  · simp only [List.getElem?_toArray, List.getElem?_cons_succ, List.getElem?_cons_zero]
    exact rfl
  · rfl
  · intro w hSw
    (try dsimp only at hSw)
    go_simp
    try with_reducible rfl
  try simp only [Act.put, List.setIfInBounds_toArray, List.set_cons_zero, List.set_cons_succ]
  refine Hd.take 25 26 (oi := ?_) (v := ?_) ?_ (by kernel_rfl) (fun _ _ _ h => h) hH0 ?_ ?_ ?_
  rotate_left 2
  · simp only [List.getElem?_toArray, List.getElem?_cons_succ, List.getElem?_cons_zero]
    exact rfl
  · rfl
  · intro w hSw
    (try dsimp only at hSw)
    go_simp
    try with_reducible rfl
  try simp only [Act.put, List.setIfInBounds_toArray, List.set_cons_zero, List.set_cons_succ]
  refine Hd.take 26 27 (oi := ?_) (v := ?_) ?_ (by kernel_rfl) (fun _ _ _ h => h) hH0 ?_ ?_ ?_
  rotate_left 2
  · simp only [List.getElem?_toArray, List.getElem?_cons_succ, List.getElem?_cons_zero]
    exact rfl
  · rfl
  · intro w hSw
    (try dsimp only at hSw)
    go_simp
    try with_reducible rfl
  try simp only [Act.put, List.setIfInBounds_toArray, List.set_cons_zero, List.set_cons_succ]
  refine Hd.take 27 36 (oi := ?_) (v := ?_) ?_ (by kernel_rfl) (fun _ _ _ h => h) hH0 ?_ ?_ ?_
  rotate_left 2
  · simp only [List.getElem?_toArray, List.getElem?_cons_succ, List.getElem?_cons_zero]
    exact rfl
  · rfl
  · intro w hSw
    (try dsimp only at hSw)
    go_simp
    try with_reducible rfl
  try simp only [Act.put, List.setIfInBounds_toArray, List.set_cons_zero, List.set_cons_succ]
  refine Hd.take 28 29 (oi := ?_) (v := ?_) ?_ (by kernel_rfl) (fun _ _ _ h => h) hH0 ?_ ?_ ?_
  rotate_left 2
  · simp only [List.getElem?_toArray, List.getElem?_cons_succ, List.getElem?_cons_zero]
    exact rfl
  · rfl
  · intro w hSw
    (try dsimp only at hSw)
    go_simp
    try with_reducible rfl
  try simp only [Act.put, List.setIfInBounds_toArray, List.set_cons_zero, List.set_cons_succ]
  refine Hd.take 29 35 (oi := ?_) (v := ?_) ?_ (by kernel_rfl) (fun _ _ _ h => h) hH0 ?_ ?_ ?_
  rotate_left 2
  · simp only [List.getElem?_toArray, List.getElem?_cons_succ, List.getElem?_cons_zero]
    exact rfl
  · rfl
  · intro w hSw
    (try dsimp only at hSw)
    go_simp
    try with_reducible rfl
  try simp only [Act.put, List.setIfInBounds_toArray, List.set_cons_zero, List.set_cons_succ]
  refine Hd.take 30 32 (oi := ?_) (v := ?_) ?_ (by kernel_rfl) (fun _ _ _ h => h) hH0 ?_ ?_ ?_
  rotate_left 2
  · simp only [List.getElem?_toArray, List.getElem?_cons_succ, List.getElem?_cons_zero]
    exact rfl
  · rfl
  · intro w hSw
    (try dsimp only at hSw)
    go_simp
    try with_reducible rfl
  try simp only [Act.put, List.setIfInBounds_toArray, List.set_cons_zero, List.set_cons_succ]
  refine Hd.take 31 32 (oi := ?_) (v := ?_) ?_ (by kernel_rfl) (fun _ _ _ h => h) hH0 ?_ ?_ ?_
  rotate_left 2
  · simp only [List.getElem?_toArray, List.getElem?_cons_succ, List.getElem?_cons_zero]
    exact rfl
  · rfl
  · intro w hSw
    (try dsimp only at hSw)
    go_simp
    try with_reducible rfl
  try simp only [Act.put, List.setIfInBounds_toArray, List.set_cons_zero, List.set_cons_succ]
  refine Hd.take 32 33 (oi := ?_) (v := ?_) ?_ (by kernel_rfl) (fun _ _ _ h => h) hH0 ?_ ?_ ?_
  rotate_left 2
  · simp only [List.getElem?_toArray, List.getElem?_cons_succ, List.getElem?_cons_zero]
    exact rfl
  · rfl
  · intro w hSw
    (try dsimp only at hSw)
    go_simp
    try with_reducible rfl
  try simp only [Act.put, List.setIfInBounds_toArray, List.set_cons_zero, List.set_cons_succ]
  refine Hd.take 33 34 (oi := ?_) (v := ?_) ?_ (by kernel_rfl) (fun _ _ _ h => h) hH0 ?_ ?_ ?_
  rotate_left 2
  · simp only [List.getElem?_toArray, List.getElem?_cons_succ, List.getElem?_cons_zero]
    exact rfl
  · rfl
  · intro w hSw
    (try dsimp only at hSw)
    go_simp
    try with_reducible rfl
  try simp only [Act.put, List.setIfInBounds_toArray, List.set_cons_zero, List.set_cons_succ]
  refine Hd.take 34 35 (oi := ?_) (v := ?_) ?_ (by kernel_rfl) (fun _ _ _ h => h) hH0 ?_ ?_ ?_
  rotate_left 2
  · simp only [List.getElem?_toArray, List.getElem?_cons_succ, List.getElem?_cons_zero]
    exact rfl
  · rfl
  · intro w hSw
    (try dsimp only at hSw)
    go_simp
    try with_reducible rfl
  try simp only [Act.put, List.setIfInBounds_toArray, List.set_cons_zero, List.set_cons_succ]
  refine Hd.take 35 36 (oi := ?_) (v := ?_) ?_ (by kernel_rfl) (fun _ _ _ h => h) hH0 ?_ ?_ ?_
  rotate_left 2
  · simp only [List.getElem?_toArray, List.getElem?_cons_succ, List.getElem?_cons_zero]
    exact rfl
  · rfl
  · intro w hSw
    (try dsimp only at hSw)
    go_simp
    try with_reducible rfl
  try simp only [Act.put, List.setIfInBounds_toArray, List.set_cons_zero, List.set_cons_succ]
  refine Hd.take 36 37 (oi := ?_) (v := ?_) ?_ (by kernel_rfl) (fun _ _ _ h => h) hH0 ?_ ?_ ?_
  rotate_left 2
  · simp only [List.getElem?_toArray, List.getElem?_cons_succ, List.getElem?_cons_zero]
    exact rfl
  · rfl
  · intro w hSw
    (try dsimp only at hSw)
    go_simp
    try with_reducible rfl
  try simp only [Act.put, List.setIfInBounds_toArray, List.set_cons_zero, List.set_cons_succ]
  refine Hd.last 37 (o := ?_) ?_ (by kernel_rfl) (by kernel_rfl) (by kernel_rfl) (fun K hK => ?_)
  rotate_left 1
  · simp only [List.getElem?_toArray, List.getElem?_cons_succ, List.getElem?_cons_zero]
    exact rfl
  go_simp
  generalize hw2 : World.drew _ = w2
  have htwo : Two kS kS w1 w2 := by
    rw [← hw2]
    have h := (Two.refl kS kS w1).km 0 (.bool true)
    exact ⟨h.os, h.tape, h.output, h.size, h.block⟩
  have hs2 : Blk 4 kS #[.bool true] w2 := by
    rw [← hw2]
    exact (HI.out.s.below HX.out HI.out.s.lt).set_ 0 (.bool true) _ rfl
  have hn2 := htwo.blk (HI.out.n.below HX.out HI.out.n.lt) d6
  have hl2 := htwo.blk (HI.out.l.below HX.out HI.out.l.lt) d9
  have hp2 := htwo.blk (HI.out.p.below HX.out HI.out.p.lt) d7
  have hb2 : But (fun b => b = kS ∨ b = kN) w w2 := (But.of HX.out).trans ⟨htwo.os, htwo.tape, htwo.output, Nat.le_of_eq htwo.size.symm, fun b _ hb => htwo.block b (fun e => hb (.inl e)) (fun e => hb (.inl e))⟩
  have e1 : w2.cell? ⟨kN, 0, none⟩ = some (.int .i64 (n : Int)) := hn2.c 0 _ rfl
  have e2 : w2.cell? ⟨kP, 0, none⟩ = some (.int .i64 (stop : Int)) := hp2.c 0 _ rfl
  have f1 : ∀ i, w2.frozen? ⟨kN, i, none⟩ = false := hn2.fz
  have g1 := hn2.lt
  have g2 := hp2.lt
  have HS2 := Lib.hid hs2
  have HN2 := Lib.hid hn2
  have HL2 := Lib.hid hl2
  have HP2 := Lib.hid hp2
  have HB2 := Lib.hid hb2
  clear hw2 htwo hs2 hn2 hl2 hp2 hb2
  refine hK.out _ _ ?_
  clear hK K
  try simp only [Act.put, List.setIfInBounds_toArray, List.set_cons_zero, List.set_cons_succ]
  simp only [NoPanic]
  go_wp2_with fail
  go_ret
  generalize hw3 : World.setCell _ _ _ = w3
  have htwo : Two kN kN w2 w3 := by rw [← hw3]; exact (Two.refl kN kN w2).km 0 _
  have en : ((n + 1 : Nat) : Int) = (n : Int) + 1 := by omega
  have hb3 : But (fun b => b = kS ∨ b = kN) w w3 := HB2.out.trans ⟨htwo.os, htwo.tape, htwo.output, Nat.le_of_eq htwo.size.symm, fun b _ hb => htwo.block b (fun e => hb (.inr e)) (fun e => hb (.inr e))⟩
  refine ⟨by simp [sawS, hdp], ⟨htwo.blk HS2.out d1, ?_, htwo.blk HL2.out d10, htwo.blk HP2.out d8, HI.out.r.but (hb3.mono (fun b hb => by rcases hb with hb | hb; exact .inl hb; exact .inr (.inl hb)))⟩, hb3⟩
  show Blk _ _ #[.int .i64 ((n + 1 : Nat) : Int)] _
  rw [← hw3, en]
  exact HN2.out.set_ 0 _ _ rfl
end Tr
end Go.Proofs.YtfbhokdcnjekiaaGreatDoor
