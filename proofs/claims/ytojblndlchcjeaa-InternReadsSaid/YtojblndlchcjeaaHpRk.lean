/- Chapter 17, the walk: town. -/
import Derived.Test.YtojblndlchcjeaaHpLy
import Derived.Test.YtojblndlchcjeaaHpOwn
import Derived.Test.YtojblndlchcjeaaHpPa
import Derived.Deep.CutBlock
set_option linter.unusedVariables false
namespace Go.Proofs.Ytojblndlchcjeaa
open Go.RowKit
namespace Hp
open Bs Sm
theorem own_obs {B : Nat} {w : World} {lv : Value} {vl : List OV} (h0 : OwnO B w lv vl) (hr : ∀ x ∈ vl, OwnU B w x.2.1 x.1.words ∧ OwnY B w x.2.2 x.1.bytes) : Obs (fun b => B ≤ b ∧ b < w.heap.size) w lv (vl.map (·.1)) := by
  refine ⟨vl, rfl, ?_⟩
  have hlt := World.ownsRow.lt h0
  have hk : ∀ x ∈ vl, Rd (fun b => B ≤ b ∧ b < w.heap.size) uV w x.2.1 x.1.words ∧ Rd (fun b => B ≤ b ∧ b < w.heap.size) byV w x.2.2 x.1.bytes := fun x hx =>
    ⟨(Rd.own (hr x hx).1).mono (fun b hb h => ⟨(World.ownsRow.lt (hr x hx).1 b hb).1, h⟩), (Rd.own (hr x hx).2).mono (fun b hb h => ⟨(World.ownsRow.lt (hr x hx).2 b hb).1, h⟩)⟩
  rcases h0.2 with ⟨rfl, hn⟩ | ⟨g, cap, cur, rfl, hb, hg, hnc, hcm, _⟩
  · exact ⟨none, 0, by rw [hn], by omega, by unfold maxLen; omega, fun hl => by omega, hk⟩
  · refine ⟨some ⟨g, 0, none⟩, cap, rfl, hnc, hcm, fun _ => ⟨g, 0, rfl, hlt g rfl, (hlt g rfl).2, fun i x hx => ?_⟩, hk⟩
    rw [Nat.zero_add]
    exact h0.row rfl i x hx
theorem Kp.lt2 {A B : Nat} {w w' : World} (h : Below B w w') : Kp (fun b => A ≤ b ∧ b < B) w w' := ⟨h.size, fun b hb _ => h.block b hb.2⟩
theorem Obs.mono {S S' : Nat → Prop} {w : World} {v : Value} {l : List Ob} (h : Obs S w v l) (hs : ∀ b, S b → b < w.heap.size → S' b) : Obs S' w v l := by
  obtain ⟨vl, h1, a, cap, k1, k2, k3, k4, k5⟩ := h
  refine ⟨vl, h1, a, cap, k1, k2, k3, fun hl => ?_, fun x hx => ⟨(k5 x hx).1.mono hs, (k5 x hx).2.mono hs⟩⟩
  obtain ⟨b, off, e1, e2, e3, e4⟩ := k4 hl
  exact ⟨b, off, e1, hs b e2 e3, e3, e4⟩
theorem lay_le (n : Nat) (hn : n ≤ 6) (sup flds : List Int) : endL 2 (layL n sup flds) ≤ 2000 := by
  have hc := end_c n hn sup flds
  have h1 := setC_chain (c := arrC) (P := allL n) hc.c3
  have h2 := nilC_chain n h1.1 3
  have h3 : endL 2 (nilC n 3 (l4 n sup flds)) = endL 2 (setC arrC (allL n) (l3 n sup flds)) := h2.2
  rw [lay_end n hn] at h3
  rw [h3, h1.2]
  exact hc.e3
theorem Mem.kp {B : Bks} {N last : Nat} {l : List Ob} {w w' : World} (h : Mem B N l last w) (hk : ∀ b, HB B b → w'.heap[b]? = w.heap[b]?) : Mem B N l last w' := by
  obtain ⟨hf, ws, h1, ⟨p1, p2, ⟨p3, p4⟩⟩⟩ := h
  exact ⟨hf, ws, h1, ⟨(hk _ (.inl rfl)).trans p1, (hk _ (.inr (.inl rfl))).trans p2, ⟨(hk _ (.inr (.inr (.inl rfl)))).trans p3, (hk _ (.inr (.inr (.inr rfl)))).trans p4⟩⟩⟩
theorem lay_ge (n : Nat) (sup flds : List Int) : 16 ≤ endL 2 (layL n sup flds) := by
  have h := len_end (layL n sup flds) 2
  have h2 : 17 ≤ (layL n sup flds).length := by
    unfold layL NN
    simp only [List.length_cons, List.length_append, List.length_map, List.length_range]
    omega
  omega
theorem lay_hash (n : Nat) (sup flds : List Int) : ∀ o ∈ layL n sup flds, o.hd.hash = 0 := by
  intro o ho
  unfold layL at ho
  simp only [List.mem_cons, List.mem_append, List.mem_map, List.mem_flatMap, List.mem_range, List.not_mem_nil, or_false] at ho
  rcases ho with rfl | (((⟨_, -, rfl⟩ | ⟨_, -, rfl⟩) | ⟨_, -, rfl⟩) | ⟨i, -, hi⟩) | rfl | rfl | rfl | rfl
  all_goals first | rfl | skip
  unfold partO at hi
  simp only [List.mem_cons, List.not_mem_nil, or_false] at hi
  rcases hi with rfl | rfl | rfl | rfl | rfl <;> rfl
/-- What town hands back: the program's heap, the reference's list, true. -/
def TownR (n : Nat) (sup flds : List Int) (more : Nat) (w : World) (e : Ending) (w' : World) : Prop :=
  ∃ (B : Bks) (lv : Value), e = .returned (.tuple #[.pointer (some ⟨B.h, 0, none⟩), rhV (endL 2 (layL n sup flds) + more) lv 0, .bool true]) ∧ Mem B (endL 2 (layL n sup flds) + more) (layL n sup flds) 0 w' ∧
    Obs (fun b => ¬ HB B b) w' lv (layL n sup flds) ∧ (∀ b, HB B b → w.heap.size ≤ b) ∧ Below w.heap.size w w'
set_option maxRecDepth 100000 in
set_option maxHeartbeats 3200000 in
theorem town_any (more : Nat) (hmo : more ≤ 3000) (sup flds : List Int) (sv fv : Value) (w : World) (hsv : Rd (fun b => b < w.heap.size) iV w sv sup) (hfv : Rd (fun b => b < w.heap.size) iV w fv flds)
    (hsr : ∀ x ∈ sup, -9223372036854775808 ≤ x ∧ x < 9223372036854775808) (hfr : ∀ x ∈ flds, -9223372036854775808 ≤ x ∧ x < 9223372036854775808) :
    Calls Try.prog 6 #[.agg #[sv, fv], .int .i64 (more : Int)] w (TownR (min sup.length 6) sup flds more w) := by
  obtain ⟨sa, sc, rfl, -, -⟩ := hsv.form
  obtain ⟨fa, fc, rfl, -, -⟩ := hfv.form
  have HLAY := Lib.hid (fun v (hb : Below w.heap.size w v) => lay_any sup flds _ _ v ((hsv.below hb).mono (fun b h _ => Nat.lt_of_lt_of_le h hb.size)) ((hfv.below hb).mono (fun b h _ => Nat.lt_of_lt_of_le h hb.size)) hsr hfr)
  obtain ⟨sl, hsl⟩ : ∃ m, sup.length = m := ⟨_, rfl⟩
  obtain ⟨fl, hfl⟩ : ∃ m, flds.length = m := ⟨_, rfl⟩
  rw [hsl, hfl] at HLAY ⊢
  obtain ⟨n, hn⟩ : ∃ n, min sl 6 = n := ⟨_, rfl⟩
  rw [hn] at HLAY ⊢
  obtain ⟨W1, hal1⟩ : ∃ W, w.alloc (.cells #[.slice sa sl sc, .slice fa fl fc] XT) = W := ⟨_, rfl⟩
  obtain ⟨W2, hal2⟩ : ∃ W, W1.alloc (.cells #[.int .i64 0, .slice none 0 0, .int .u32 0] RHT) = W := ⟨_, rfl⟩
  have b1 : Below w.heap.size w W1 := by rw [← hal1]; exact alloc_bel w _
  have b2 : Below W1.heap.size W1 W2 := by rw [← hal2]; exact alloc_bel W1 _
  have q1 : Blk XT w.heap.size #[.slice sa sl sc, .slice fa fl fc] W1 := by rw [← hal1]; exact Blk.made w
  have q12 := q1.below b2 q1.lt
  have q2 : Blk RHT W1.heap.size #[.int .i64 0, .slice none 0 0, .int .u32 0] W2 := by rw [← hal2]; exact Blk.made W1
  obtain ⟨rb, hrb⟩ : ∃ b, W1.heap.size = b := ⟨_, rfl⟩
  rw [hrb] at q2
  have HQ2 := Lib.hid q2
  have HRB := Lib.hid (show w.heap.size ≤ rb by rw [← hrb]; exact b1.size)
  have c0 : W2.cell? ⟨w.heap.size, 0, none⟩ = some (.slice sa sl sc) := q12.c 0 _ rfl
  have c1 : W2.cell? ⟨w.heap.size, 1, none⟩ = some (.slice fa fl fc) := q12.c 1 _ rfl
  have HB2 := Lib.hid (b1.trans (b2.mono b1.size))
  have HN6 := Lib.hid (show n ≤ 6 by omega)
  clear hsv hfv hsr hfr hsl hfl hn b1 b2 q1 q12 q2
  go_enter Try.func6, Try.ntmps6
  go_wp2_with fail
  refine (HLAY.out W2 HB2.out).mono ?_; rintro e w3 ⟨lv, vl, rfl, hvl, hOO, hrd, hb3⟩
  have HOB := Lib.hid (own_obs hOO hrd)
  rw [hvl] at HOB
  have HZ3 := Lib.hid (HQ2.out.below hb3 HQ2.out.lt)
  have HB3 := Lib.hid (HB2.out.trans (hb3.mono HB2.out.size))
  obtain ⟨la, lc, rfl⟩ := hOO.form
  obtain ⟨m, hm⟩ : ∃ m, vl.length = m := ⟨_, rfl⟩
  rw [hm] at HOB ⊢
  unfold rhV
  obtain ⟨W4, hal4⟩ : ∃ W, w3.alloc (.cells #[.int .i64 3000, .slice la m lc, .int .u32 0] RHT) = W := ⟨_, rfl⟩
  have b4 : Below w3.heap.size w3 W4 := by rw [← hal4]; exact alloc_bel w3 _
  have q4 : Blk RHT w3.heap.size #[.int .i64 3000, .slice la m lc, .int .u32 0] W4 := by rw [← hal4]; exact Blk.made w3
  have HOB4 := Lib.hid (HOB.out.bel b4)
  have HB34 := Lib.hid b4
  have HZ4 := Lib.hid (HZ3.out.below b4 HZ3.out.lt)
  have hne3 := HZ3.out.lt
  have HB4 := Lib.hid (HB3.out.trans (b4.mono HB3.out.size))
  have HQ4 := Lib.hid q4
  have k0 : W4.cell? ⟨w3.heap.size, 0, none⟩ = some (.int .i64 3000) := q4.c 0 _ rfl
  have k1 : W4.cell? ⟨w3.heap.size, 1, none⟩ = some (.slice la m lc) := q4.c 1 _ rfl
  have k2 : W4.cell? ⟨w3.heap.size, 2, none⟩ = some (.int .u32 0) := q4.c 2 _ rfl
  have HAL4 := Lib.hid hal4
  clear hal4 b4 q4 hm hvl hOO hrd hb3
  go_upto_region 2 with fail
  have hal4 := HAL4.out
  rw [hal4]
  clear hal4 HAL4
  have hn6 : n ≤ 6 := HN6.out
  have hUs := rused_any (fun b => W2.heap.size ≤ b ∧ b < w3.heap.size) 3000 0 (.slice la m lc) (layL n sup flds) W4 HOB4.out (chain_lay n hn6 sup flds) (fun o ho => (ok_lay n hn6 sup flds o ho).hd) (by have := lay_le n hn6 sup flds; omega)
  obtain ⟨E, hE⟩ : ∃ E, endL 2 (layL n sup flds) = E := ⟨_, rfl⟩
  rw [hE] at hUs
  unfold rhV at hUs
  have HUS := Lib.hid hUs
  have HE := Lib.hid hE
  clear hUs hE
  go_wp2_with fail
  refine HUS.out.mono ?_; rintro e w5 ⟨rfl, hb5⟩
  have q5 := HQ4.out.below hb5 HQ4.out.lt
  have z5 := HZ4.out.below hb5 HZ4.out.lt
  have k50 : w5.cell? ⟨w3.heap.size, 0, none⟩ = some (.int .i64 3000) := q5.c 0 _ rfl
  have z50 : w5.frozen? ⟨w3.heap.size, 0, none⟩ = false := q5.fz 0
  have hmx : (if 0 < more then (more : Int) else 0) = (more : Int) := by split <;> omega
  obtain ⟨NN', hNN⟩ : ∃ x, E + more = x := ⟨_, rfl⟩
  have hEl : E ≤ 2000 := by rw [← HE.out]; exact lay_le n hn6 sup flds
  have hNi : (E : Int) + (more : Int) = (NN' : Int) := by omega
  have hwN : wrap64 (NN' : Int) = (NN' : Int) := by unfold wrap64; omega
  obtain ⟨W6, hW6⟩ : ∃ W, w5.setCell ⟨w3.heap.size, 0, none⟩ (.int .i64 (NN' : Int)) = W := ⟨_, rfl⟩
  have q6 : Blk RHT w3.heap.size #[.int .i64 (NN' : Int), .slice la m lc, .int .u32 0] W6 := by rw [← hW6]; exact q5.set_ 0 _ _ rfl
  have b36 : Below w3.heap.size w3 W6 := by rw [← hW6]; exact (HB34.out.trans (hb5.mono HB34.out.size)).setCell (Nat.le_refl _) _
  have HZ6 : Hid (Blk RHT rb #[.int .i64 0, .slice none 0 0, .int .u32 0] W6) := Lib.hid (by rw [← hW6]; exact z5.far (p := ⟨w3.heap.size, 0, none⟩) (by show rb ≠ w3.heap.size; omega) _)
  have HOB6 := Lib.hid (HOB.out.kp (Kp.lt2 b36))
  have HB36 := Lib.hid b36
  have HQ6 := Lib.hid q6
  have HB06 := Lib.hid (HB3.out.trans (b36.mono HB3.out.size))
  have j0 : W6.cell? ⟨w3.heap.size, 0, none⟩ = some (.int .i64 (NN' : Int)) := q6.c 0 _ rfl
  have j1 : W6.cell? ⟨w3.heap.size, 1, none⟩ = some (.slice la m lc) := q6.c 1 _ rfl
  have j2 : W6.cell? ⟨w3.heap.size, 2, none⟩ = some (.int .u32 0) := q6.c 2 _ rfl
  have hfine : Fine NN' (layL n sup flds) 0 := ⟨chain_lay n hn6 sup flds, ok_lay n hn6 sup flds, by rw [HE.out]; omega, by have := lay_ge n sup flds; rw [HE.out] at this; omega, by omega, by omega⟩
  have HOW := Lib.hid (own_ok (fun b => W2.heap.size ≤ b ∧ b < w3.heap.size) NN' (.slice la m lc) (layL n sup flds) W6 HOB6.out hfine (lay_hash n sup flds) (by unfold layL; exact List.cons_ne_nil _ _))
  have HNN := Lib.hid hNN
  have hz00 : ((0 : Nat) : Int) = 0 := rfl
  unfold rhV at HOW
  rw [hz00] at HOW
  clear hb5 q5 b36 q6 hEl z5 hfine hz00 hne3
  go_wp2_with fail
  refine HOW.out.mono ?_; rintro e w7 ⟨B, rfl, hM7, hBk, hb7⟩
  have q7 := HQ6.out.below hb7 HQ6.out.lt
  have z7 := HZ6.out.below hb7 HZ6.out.lt
  have hne7 : rb ≠ w3.heap.size := by have h1 := HZ3.out.lt; omega
  have hS7 : w7.cell? ⟨w3.heap.size, 0, none⟩ = some (.int .i64 (NN' : Int)) ∧ w7.cell? ⟨w3.heap.size, 1, none⟩ = some (.slice la m lc) ∧ w7.cell? ⟨w3.heap.size, 2, none⟩ = some (.int .u32 0) := ⟨q7.c 0 _ rfl, q7.c 1 _ rfl, q7.c 2 _ rfl⟩
  have HQ7 := Lib.hid q7
  have HZ7 := Lib.hid z7
  have HNE7 := Lib.hid hne7
  have HS7 := Lib.hid hS7
  have HM7 := Lib.hid hM7
  have HBK := Lib.hid hBk
  have HB67 := Lib.hid hb7
  clear hNN hNi hwN hmx j0 j1 j2 hW6 q7 z7 hne7 hS7 hM7 hBk hb7 c0 c1 k0 k1 k2 k50 z50
  go_upto_region 4 with fail
  refine wp_region_noPanic ?_
  refine Hd.start (fun v => v.cell? ⟨w3.heap.size, 0, none⟩ = some (.int .i64 (NN' : Int)) ∧ v.cell? ⟨w3.heap.size, 1, none⟩ = some (.slice la m lc) ∧ v.cell? ⟨w3.heap.size, 2, none⟩ = some (.int .u32 0)) (by kernel_rfl) (HS7.out) (fun hH0 => ?_)
  refine Hd.tk 0 4 hH0 ?_
  refine Hd.tk 1 5 hH0 ?_
  refine Hd.tk 2 3 hH0 ?_
  refine Hd.tk 3 6 hH0 ?_
  refine Hd.on 4 (fun K hK => ?_)
  go_simp
  refine hK.out _ _ (HS7.out) (fun hH1 => ?_)
  clear hK K
  try simp only [Act.put, List.setIfInBounds_toArray, List.set_cons_zero, List.set_cons_succ]
  have qz := HZ7.out
  have hb7d : Below w7.heap.size w7 w7.drew := below_drewN w7 1
  obtain ⟨V0, hV0⟩ : ∃ W, w7.drew = W := ⟨_, rfl⟩
  rw [hV0] at hb7d
  try rw [hV0]
  have g0 := HZ7.out.below hb7d HZ7.out.lt
  obtain ⟨Y1, hY1⟩ : ∃ Y, V0.setCell ⟨rb, 0, none⟩ (.int .i64 (NN' : Int)) = Y := ⟨_, rfl⟩
  obtain ⟨Y2, hY2⟩ : ∃ Y, Y1.setCell ⟨rb, 1, none⟩ (.slice la m lc) = Y := ⟨_, rfl⟩
  have g1 : Blk RHT rb #[.int .i64 (NN' : Int), .slice none 0 0, .int .u32 0] Y1 := by rw [← hY1]; exact g0.set_ 0 _ _ rfl
  have g2 : Blk RHT rb #[.int .i64 (NN' : Int), .slice la m lc, .int .u32 0] Y2 := by rw [← hY2]; exact g1.set_ 1 _ _ rfl
  obtain ⟨Y3, hY3⟩ : ∃ Y, Y2.setCell ⟨rb, 2, none⟩ (.int .u32 0) = Y := ⟨_, rfl⟩
  have g3 : Blk RHT rb #[.int .i64 (NN' : Int), .slice la m lc, .int .u32 0] Y3 := by rw [← hY3]; exact g2.set_ 2 _ _ rfl
  have t0 : V0.cell? ⟨rb, 0, none⟩ = some (.int .i64 0) := g0.c 0 _ rfl
  have t1 : Y1.cell? ⟨rb, 1, none⟩ = some (.slice none 0 0) := g1.c 1 _ rfl
  have t2 : Y2.cell? ⟨rb, 2, none⟩ = some (.int .u32 0) := g2.c 2 _ rfl
  have z0 : V0.frozen? ⟨rb, 0, none⟩ = false := g0.fz 0
  have z1 : Y1.frozen? ⟨rb, 1, none⟩ = false := g1.fz 1
  have z2 : Y2.frozen? ⟨rb, 2, none⟩ = false := g2.fz 2
  have f0 : Y3.cell? ⟨rb, 0, none⟩ = some (.int .i64 (NN' : Int)) := g3.c 0 _ rfl
  have f1 : Y3.cell? ⟨rb, 1, none⟩ = some (.slice la m lc) := g3.c 1 _ rfl
  have f2 : Y3.cell? ⟨rb, 2, none⟩ = some (.int .u32 0) := g3.c 2 _ rfl
  have hB7 : Below w.heap.size w V0 := (HB06.out.trans (HB67.out.mono HB06.out.size)).trans (hb7d.mono ((HB06.out.trans (HB67.out.mono HB06.out.size))).size)
  have hB9 : Below w.heap.size w Y3 := by
    rw [← hY3, ← hY2, ← hY1]
    exact ((hB7.setCell HRB.out _).setCell HRB.out _).setCell HRB.out _
  have h3V : Below w3.heap.size w3 V0 := (HB36.out.trans (HB67.out.mono HB36.out.size)).trans (hb7d.mono ((HB36.out.trans (HB67.out.mono HB36.out.size))).size)
  have hrb3 : rb < w3.heap.size := HZ3.out.lt
  have hk67 : W6.heap.size ≤ W6.heap.size := Nat.le_refl _
  have hsz6 := HQ6.out.lt
  have hk : Kp (fun b => b ≠ rb) V0 Y3 := by
    rw [← hY3, ← hY2, ← hY1]
    refine ⟨by simp [World.setCell], fun b hb hl => ?_⟩
    rw [Below.heap_setCell _ ⟨rb, 2, none⟩ _ b hb, Below.heap_setCell _ ⟨rb, 1, none⟩ _ b hb, Below.heap_setCell _ ⟨rb, 0, none⟩ _ b hb]
  have hO3V : Obs (fun b => W2.heap.size ≤ b ∧ b < w3.heap.size) V0 (.slice la m lc) (layL n sup flds) := HOB.out.kp (Kp.lt2 h3V)
  have hS9 : Y3.cell? ⟨w3.heap.size, 0, none⟩ = some (.int .i64 (NN' : Int)) ∧ Y3.cell? ⟨w3.heap.size, 1, none⟩ = some (.slice la m lc) ∧ Y3.cell? ⟨w3.heap.size, 2, none⟩ = some (.int .u32 0) := by
    have hq : Blk RHT w3.heap.size #[.int .i64 (NN' : Int), .slice la m lc, .int .u32 0] Y3 := (hk.2 w3.heap.size (by omega) (HQ7.out.below hb7d HQ7.out.lt).lt).trans (HQ7.out.below hb7d HQ7.out.lt)
    exact ⟨hq.c 0 _ rfl, hq.c 1 _ rfl, hq.c 2 _ rfl⟩
  have hBlo : ∀ b, HB B b → W6.heap.size ≤ b := by
    rintro b (rfl | rfl | rfl | rfl)
    · exact HBK.out.1
    · exact HBK.out.2.1
    · exact HBK.out.2.2.1
    · exact HBK.out.2.2.2
  have h36 : w3.heap.size ≤ W6.heap.size := HB36.out.size
  have hMV : Mem B NN' (layL n sup flds) 0 V0 := HM7.out.bel hb7d
  have hM9 : Mem B NN' (layL n sup flds) 0 Y3 := hMV.kp (fun b hb => by
    have h1 := hBlo b hb
    rcases Nat.lt_or_ge b V0.heap.size with hl | hl
    · exact hk.2 b (by omega) hl
    · rw [← hY3, ← hY2, ← hY1, Below.heap_setCell _ ⟨rb, 2, none⟩ _ b (by show b ≠ rb; omega), Below.heap_setCell _ ⟨rb, 1, none⟩ _ b (by show b ≠ rb; omega), Below.heap_setCell _ ⟨rb, 0, none⟩ _ b (by show b ≠ rb; omega)])
  have hO9 : Obs (fun b => ¬ HB B b) Y3 (.slice la m lc) (layL n sup flds) := by
    have hr2 : rb < W2.heap.size := HQ2.out.lt
    have h1 : Obs (fun b => b ≠ rb ∧ b < w3.heap.size) V0 (.slice la m lc) (layL n sup flds) := hO3V.mono (fun b hb _ => ⟨by omega, hb.2⟩)
    exact (h1.kp (w' := Y3) ⟨hk.1, fun b hb hl => hk.2 b hb.1 hl⟩).mono (fun b hb _ hx => by have := hBlo b hx; omega)
  have HRES : Hid (TownR n sup flds more w (.returned (.tuple #[.pointer (some ⟨B.h, 0, none⟩), .agg #[.int .i64 (NN' : Int), .slice la m lc, .int .u32 0], .bool true])) Y3) :=
    Lib.hid ⟨B, .slice la m lc, by rw [HE.out, HNN.out]; rfl, by rw [HE.out, HNN.out]; exact hM9, hO9, fun b hb => by have := hBlo b hb; have := HB06.out.size; omega, hB9⟩
  have HHN := Lib.hid hS9
  clear HB36 hS9 hBlo h36 hMV hM9 hO9 hB7 hB9 h3V hrb3 hk67 hsz6 hk hO3V g0 g1 g2 g3 qz hb7d
  refine Hd.on 5 (fun K hK => ?_)
  go_simp
  refine hK.out _ _ HHN.out (fun hH2 => ?_)
  clear hK K
  try simp only [Act.put, List.setIfInBounds_toArray, List.set_cons_zero, List.set_cons_succ]
  refine Hd.la 6 (fun K hK => ?_)
  go_simp
  refine hK.out _ _ ?_
  clear hK K
  try simp only [Act.put, List.setIfInBounds_toArray, List.set_cons_zero, List.set_cons_succ]
  simp only [NoPanic]
  go_wp2_with fail
  refine bodyPost_ret (v := .tuple #[.pointer (some ⟨B.h, 0, none⟩), .agg #[.int .i64 (NN' : Int), .slice la m lc, .int .u32 0], .bool true]) (by simp [results, Try.results6, go_sem, f0, f1, f2]) rfl ?_
  exact HRES.out
end Hp
end Go.Proofs.Ytojblndlchcjeaa
