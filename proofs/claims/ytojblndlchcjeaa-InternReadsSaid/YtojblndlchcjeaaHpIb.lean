/- Chapter 17, the walk: heap's Alloc. -/
import Derived.Test.YtojblndlchcjeaaHpIa
import Derived.Deep.CutBlock
set_option linter.unusedVariables false
namespace Go.Proofs.Ytojblndlchcjeaa
open Go.RowKit
namespace Hp
open Bs Sm
def newO (l : List Ob) (c k s fill : Nat) : Ob := ⟨endL 2 l, ⟨c, k, s, 0, false⟩, if k = 2 then [] else List.replicate s fill, if k = 2 then List.replicate s 0 else []⟩
theorem newO_ok (l : List Ob) {c k s fill : Nat} (ok : okB ⟨c, k, s, 0, false⟩ = true) (hc : c < 18446744073709551616) (hf : fill < 18446744073709551616) : OkO (newO l c k s fill) :=
  ⟨ok, hc, fun h => by
    have h : k ≠ 2 := h
    unfold newO
    rw [if_neg h, if_neg h]
    exact ⟨List.length_replicate, rfl, fun x hx => by rw [(List.mem_replicate.1 hx).2]; exact hf⟩, fun h => by
    have h : k = 2 := h
    unfold newO
    rw [if_pos h, if_pos h]
    exact ⟨List.length_replicate, rfl⟩⟩
theorem packB_zero : ∀ (n s : Nat), packB n (List.replicate s 0) = List.replicate n 0
  | 0, _ => rfl
  | n + 1, s => by
    unfold packB
    rw [List.drop_replicate, packB_zero n, List.replicate_succ]
    congr 1
    unfold w8
    rw [List.take_replicate]
    generalize min 8 s = m
    induction m with
    | zero => rfl
    | succ m ih => rw [List.replicate_succ, List.foldr_cons, ih]; rfl
/-- The cells while an object is laid. -/
def cellsK (N : Nat) (l : List Ob) (c info k fill : Nat) : List Nat := 0 :: 0 :: (heapW l ++ (c :: info :: List.replicate k fill) ++ List.replicate (N - (endL 2 l + 2 + k)) 0)
section
variable {N c info k s fill last : Nat} {l : List Ob}
theorem cellsK_len (hok : ∀ o ∈ l, OkO o) (h : endL 2 l + 2 + k ≤ N) : (cellsK N l c info k fill).length = N := by
  have := heapW_len l 2 hok
  unfold cellsK
  simp only [List.length_cons, List.length_append, List.length_replicate]
  omega
theorem set_app {α : Type} (A : List α) (x y : α) (C : List α) : (A ++ x :: C).set A.length y = A ++ y :: C := by
  rw [List.set_append_right _ _ (Nat.le_refl _), Nat.sub_self]; rfl
theorem cellsK_put (hok : ∀ o ∈ l, OkO o) (h : endL 2 l + 2 ≤ N) : ((cellsN N l).set (endL 2 l) c).set (endL 2 l + 1) info = cellsK N l c info 0 fill := by
  have hl := heapW_len l 2 hok
  obtain ⟨m, hm⟩ : ∃ m, N - endL 2 l = m + 2 := ⟨N - endL 2 l - 2, by omega⟩
  have e1 : cellsN N l = (0 :: 0 :: heapW l) ++ 0 :: 0 :: List.replicate m 0 := by unfold cellsN; rw [hm, List.replicate_succ, List.replicate_succ]; rfl
  have hL : endL 2 l = (0 :: 0 :: heapW l).length := by simp only [List.length_cons]; omega
  rw [e1, hL, set_app]
  have e2 : (0 :: 0 :: heapW l) ++ c :: 0 :: List.replicate m 0 = ((0 :: 0 :: heapW l) ++ [c]) ++ 0 :: List.replicate m 0 := by simp
  have e3 : (0 :: 0 :: heapW l).length + 1 = ((0 :: 0 :: heapW l) ++ [c]).length := by simp
  rw [e2, e3, set_app]
  unfold cellsK
  rw [show N - (endL 2 l + 2 + 0) = m by omega]
  simp
theorem cellsK_set (hok : ∀ o ∈ l, OkO o) (h : endL 2 l + 2 + k < N) : (cellsK N l c info k fill)[endL 2 l + 2 + k]? = some 0 ∧ (cellsK N l c info k fill).set (endL 2 l + 2 + k) fill = cellsK N l c info (k + 1) fill := by
  have hl := heapW_len l 2 hok
  obtain ⟨m, hm⟩ : ∃ m, N - (endL 2 l + 2 + k) = m + 1 := ⟨N - (endL 2 l + 2 + k) - 1, by omega⟩
  have e : cellsK N l c info k fill = (0 :: 0 :: (heapW l ++ (c :: info :: List.replicate k fill))) ++ 0 :: List.replicate m 0 := by unfold cellsK; rw [hm, List.replicate_succ]; simp
  have hL : (0 :: 0 :: (heapW l ++ (c :: info :: List.replicate k fill))).length = endL 2 l + 2 + k := by simp only [List.length_cons, List.length_append, List.length_replicate]; omega
  constructor
  · rw [e, ← hL, List.getElem?_append_right (Nat.le_refl _), Nat.sub_self]; rfl
  · rw [e, ← hL, set_app]
    unfold cellsK
    rw [show N - (endL 2 l + 2 + (k + 1)) = m by omega, List.replicate_succ']
    simp
theorem cellsK_end (ok : OkO (newO l c k s fill)) : cellsN N (l ++ [newO l c k s fill]) = cellsK N l c (infoL ⟨c, k, s, 0, false⟩) (if k = 2 then 0 else s) fill ∨ k = 2 := by
  by_cases hk : k = 2
  · exact .inr hk
  · left
    unfold cellsN cellsK
    rw [if_neg hk, alloc_heapW, alloc_end]
    have e : obW (newO l c k s fill) = c :: infoL ⟨c, k, s, 0, false⟩ :: List.replicate s fill := by unfold obW bodyW newO; dsimp only; rw [if_neg hk, if_neg hk]
    have e2 : cellsL (newO l c k s fill).hd = s := by unfold cellsL newO; dsimp only; rw [if_neg hk]
    rw [e, e2]
theorem cellsK_raw (hk : k = 2) (h : endL 2 l + 2 + (s + 7) / 8 ≤ N) : cellsN N (l ++ [newO l c k s fill]) = cellsK N l c (infoL ⟨c, k, s, 0, false⟩) 0 fill := by
  subst hk
  unfold cellsN cellsK
  rw [alloc_heapW, alloc_end]
  have e : obW (newO l c 2 s fill) = c :: infoL ⟨c, 2, s, 0, false⟩ :: List.replicate ((s + 7) / 8) 0 := by
    unfold obW bodyW newO
    dsimp only
    rw [if_pos rfl, if_pos rfl, packB_zero]
  have e2 : cellsL (newO l c 2 s fill).hd = (s + 7) / 8 := rfl
  rw [e, e2, show N - (endL 2 l + 2 + 0) = (s + 7) / 8 + (N - (endL 2 l + 2 + (s + 7) / 8)) by omega, ← List.replicate_append_replicate]
  simp
theorem fine_alloc (hf : Fine N l last) (ok : OkO (newO l c k s fill)) (h : endL 2 l + 2 + cellsL ⟨c, k, s, 0, false⟩ ≤ N) : Fine N (l ++ [newO l c k s fill]) last :=
  ⟨alloc_chain hf.ch rfl, fun o ho => by
    rcases List.mem_append.1 ho with ho | ho
    · exact hf.ok o ho
    · obtain rfl := List.mem_singleton.1 ho; exact ok, by rw [alloc_end]; exact h, hf.lo, hf.hi, hf.la⟩
end
def HB (B : Bks) (b : Nat) : Prop := b = B.h ∨ b = B.c ∨ b = B.s ∨ b = B.b
def AllocR (B : Bks) (N : Nat) (l : List Ob) (last c k s fill : Nat) (w : World) (e : Ending) (w' : World) : Prop :=
  e = .returned (.tuple #[.int .u64 ((2 * endL 2 l : Nat) : Int), .int .i64 0]) ∧ Mem B N (l ++ [newO l c k s fill]) last w' ∧ But (HB B) w w'
set_option maxRecDepth 100000 in
set_option maxHeartbeats 3200000 in
theorem alloc_any (B : Bks) (N : Nat) (l : List Ob) (last c k s fill : Nat) (w : World) (hm : Mem B N l last w) (ok : okB ⟨c, k, s, 0, false⟩ = true) (hc : c < 18446744073709551616) (hfl : fill < 18446744073709551616) (hfit : endL 2 l + 2 + cellsL ⟨c, k, s, 0, false⟩ ≤ N) :
    Calls Try.prog 36 #[.pointer (some ⟨B.h, 0, none⟩), .int .u64 (c : Int), .int .i64 (k : Int), .int .i64 (s : Int), .int .u64 (fill : Int)] w (AllocR B N l last c k s fill w) := by
  obtain ⟨hf, ws, hS, hR⟩ := hm
  have hok := newO_ok l ok hc hfl
  obtain ⟨o1, o2, o3, o4, o5⟩ := (okB_iff _).1 ok
  have HPK := Lib.hid (fun v => pack_ok ⟨c, k, s, 0, false⟩ ok hc v)
  have HCL := Lib.hid (fun v => cells_ok ⟨c, k, s, 0, false⟩ ok hc v)
  unfold hdV uV at HPK
  unfold hdV at HCL
  dsimp only at HPK HCL o3 o5
  obtain ⟨n, hn⟩ : ∃ n, cellsL ⟨c, k, s, 0, false⟩ = n := ⟨_, rfl⟩
  obtain ⟨I, hI⟩ : ∃ I, infoL ⟨c, k, s, 0, false⟩ = I := ⟨_, rfl⟩
  obtain ⟨E, hE⟩ : ∃ E, endL 2 l = E := ⟨_, rfl⟩
  have hE2 : 2 ≤ E := by rw [← hE]; exact end_le l 2
  rw [hn] at HCL hfit
  rw [hI] at HPK
  rw [hE] at hfit hR
  have hlen := hf.len
  have hNh := hf.hi
  obtain ⟨F, hF⟩ : ∃ F, cellsN N (l ++ [newO l c k s fill]) = F := ⟨_, rfl⟩
  have hn1 : n ≤ 1048576 := by rw [← hn]; unfold cellsL; dsimp only; split <;> omega
  have hnk : k ≠ 2 → n = s := fun h => by rw [← hn]; unfold cellsL; rw [if_neg h]
  have HF := Lib.hid hf
  have HOK := Lib.hid hok
  have HS := Lib.hid hS
  have HN := Lib.hid hn
  have HI := Lib.hid hI
  have HE := Lib.hid hE
  have HFF := Lib.hid hF
  have HNK := Lib.hid hnk
  have HLEN := Lib.hid hlen
  have HO3 := Lib.hid o3
  have HO5 := Lib.hid o5
  have HN1 := Lib.hid hn1
  have HE2 := Lib.hid hE2
  have HNH := Lib.hid hNh
  have HFIT := Lib.hid hfit
  have HHN := Lib.hid (show (E : Int) + 2 + (n : Int) ≤ (N : Int) ∧ (N : Int) ≤ 16777216 by omega)
  clear o3 o5 hn1 hE2 hNh hfit
  obtain ⟨W1, hal1⟩ : ∃ W, w.alloc (.cells #[.int .u64 (c : Int), .int .i64 (k : Int), .int .i64 (s : Int), .int .u32 0, .bool false] HDT) = W := ⟨_, rfl⟩
  have b1 : Below w.heap.size w W1 := by rw [← hal1]; exact alloc_bel w _
  have q1 : Blk HDT w.heap.size #[.int .u64 (c : Int), .int .i64 (k : Int), .int .i64 (s : Int), .int .u32 0, .bool false] W1 := by rw [← hal1]; exact Blk.made w
  have HR1 := Lib.hid (hR.bel b1)
  have HB1 := Lib.hid b1
  have HQ1 := Lib.hid q1
  have g0 : W1.cell? ⟨w.heap.size, 0, none⟩ = some (.int .u64 (c : Int)) := q1.c 0 _ rfl
  have g1 : W1.cell? ⟨w.heap.size, 1, none⟩ = some (.int .i64 (k : Int)) := q1.c 1 _ rfl
  have g2 : W1.cell? ⟨w.heap.size, 2, none⟩ = some (.int .i64 (s : Int)) := q1.c 2 _ rfl
  have g3 : W1.cell? ⟨w.heap.size, 3, none⟩ = some (.int .u32 0) := q1.c 3 _ rfl
  have g4 : W1.cell? ⟨w.heap.size, 4, none⟩ = some (.bool false) := q1.c 4 _ rfl
  clear hf hS hR hok ok hc hfl hn hI hE hF hnk hlen o1 o2 o4 b1 q1
  go_enter Try.func36, Try.ntmps36
  have H1 := Lib.hid hal1
  clear hal1
  go_upto_region 2 with fail
  have hal1 := H1.out
  rw [hal1]
  clear hal1 H1
  go_wp2_with fail
  refine (HPK.out W1).mono ?_; rintro e w2 ⟨rfl, hb2⟩
  obtain ⟨W3, hal3⟩ : ∃ W, w2.alloc (.cells #[.int .u64 (c : Int), .int .u64 (I : Int)] AT2) = W := ⟨_, rfl⟩
  have b3 : Below w2.heap.size w2 W3 := by rw [← hal3]; exact alloc_bel w2 _
  have q3 : Blk AT2 w2.heap.size #[.int .u64 (c : Int), .int .u64 (I : Int)] W3 := by rw [← hal3]; exact Blk.made w2
  have b23 : Below W1.heap.size W1 W3 := hb2.trans (b3.mono hb2.size)
  have q13 := HQ1.out.below b23 HQ1.out.lt
  have j0 : W3.cell? ⟨w.heap.size, 0, none⟩ = some (.int .u64 (c : Int)) := q13.c 0 _ rfl
  have j1 : W3.cell? ⟨w.heap.size, 1, none⟩ = some (.int .i64 (k : Int)) := q13.c 1 _ rfl
  have j2 : W3.cell? ⟨w.heap.size, 2, none⟩ = some (.int .i64 (s : Int)) := q13.c 2 _ rfl
  have j3 : W3.cell? ⟨w.heap.size, 3, none⟩ = some (.int .u32 0) := q13.c 3 _ rfl
  have j4 : W3.cell? ⟨w.heap.size, 4, none⟩ = some (.bool false) := q13.c 4 _ rfl
  have HR3 := Lib.hid (HR1.out.bel b23)
  have HB3 := Lib.hid (HB1.out.trans (b23.mono HB1.out.size))
  have HQ3 := Lib.hid q3
  obtain ⟨ab, hab⟩ : ∃ b, w2.heap.size = b := ⟨_, rfl⟩
  rw [hab] at HQ3
  clear hb2 b3 q3 b23 q13 g0 g1 g2 g3 g4
  go_wp2_with fail
  refine (HCL.out W3).mono ?_; rintro e w4 ⟨rfl, hb4⟩
  have HR4 := Lib.hid (HR3.out.bel hb4)
  have HQ4 := Lib.hid (HQ3.out.below hb4 HQ3.out.lt)
  have HB4 := Lib.hid (HB3.out.trans (hb4.mono HB3.out.size))
  clear hb4 j0 j1 j2 j3 j4 hal3 hab
  go_wp2_with fail
  refine (free_any B N E last _ ws w4 HR4.out HLEN.out (by have := HFIT.out; omega) HNH.out).mono ?_; rintro e w5 ⟨rfl, hb5⟩
  have hR5 := HR4.out.bel hb5
  have HR5 := Lib.hid hR5
  have hq5 := HQ4.out.below hb5 HQ4.out.lt
  have HB5 := Lib.hid (HB4.out.trans (hb5.mono HB4.out.size))
  obtain ⟨fr, hfr⟩ : ∃ f, N - E = f := ⟨_, rfl⟩
  rw [hfr]
  obtain ⟨q2, hq2⟩ : ∃ q, 2 + n = q := ⟨_, rfl⟩
  have hfn : q2 ≤ fr := by have := HFIT.out; omega
  have hqi2 : 2 + (n : Int) = (q2 : Int) := by omega
  have hwq2 : wrap64 (q2 : Int) = (q2 : Int) := by have := HN1.out; unfold wrap64; omega
  have hwq2' : IntKind.i64.wrap (q2 : Int) = (q2 : Int) := by rw [IntKind.wrap_i64]; have := HN1.out; omega
  have d1 : decide ((fr : Int) < (q2 : Int)) = false := decide_eq_false (by omega)
  have d2 : ¬ (fr : Int) < (q2 : Int) := by omega
  have d3 : decide (fr < q2) = false := decide_eq_false (by omega)
  have HQ2 := Lib.hid hq2
  clear hfn hfr hq2
  have c1 : w5.cell? ⟨B.h, 1, none⟩ = some (.int .i64 (E : Int)) := hR5.hp.c 1 _ rfl
  have k0 : w5.cell? ⟨ab, 0, none⟩ = some (.int .u64 (c : Int)) := hq5.c 0 _ rfl
  have k1 : w5.cell? ⟨ab, 1, none⟩ = some (.int .u64 (I : Int)) := hq5.c 1 _ rfl
  clear hb5 hR5 hq5
  go_wp2_with fail
  refine (put_any B _ E last E c I ws w5 HR5.out (by rw [HLEN.out]; have := HFIT.out; omega) (by rw [HLEN.out]; exact HNH.out)).mono ?_; rintro e w6 ⟨rfl, hR6, hbt6⟩
  have hR6' : Raw B (cellsK N l c I 0 fill) E ws last w6 := by
    have h := hR6
    have hp := cellsK_put (N := N) (c := c) (info := I) (fill := fill) HF.out.ok (by rw [HE.out]; have := HFIT.out; omega)
    rw [HE.out] at hp
    rw [hp] at h
    exact h
  have HR6 := Lib.hid hR6'
  have HBT6 := Lib.hid hbt6
  clear hR6 hR6' hbt6 c1 k0 k1 d1 d2 d3 hwq2' hqi2 hwq2
  obtain ⟨bk, hbk⟩ : ∃ b : Bool, ((k : Int) != 2) = b := ⟨_, rfl⟩
  go_upto_if 46 with fail
  have HBK := Lib.hid hbk
  clear hbk
  go_cut [17] from 48 to 61 (fun s17 wx => Hid (Raw B F E ws last wx ∧ But (fun b => b = B.c) w6 wx))
  case first =>
    cases bk
    · have hk : k = 2 := by have := HBK.out; simp at this; omega
      have hFk : cellsK N l c I 0 fill = F := by rw [← HFF.out, ← HI.out]; exact (cellsK_raw hk (by have := HN.out; unfold cellsL at this; rw [if_pos hk] at this; rw [HE.out]; dsimp only at this; have := HFIT.out; omega)).symm
      have HRES := Lib.hid (show Raw B F E ws last w6 ∧ But (fun b => b = B.c) w6 w6 from ⟨hFk ▸ HR6.out, But.refl _ _⟩)
      clear hk hFk
      go_wp2_with fail
      go_meet
      exact HRES
    · have hk : k ≠ 2 := by have := HBK.out; simp at this; omega
      have hns := HNK.out hk
      have hFk : cellsK N l c I s fill = F := by
        have := cellsK_end (N := N) HOK.out
        rw [if_neg hk, HI.out, HFF.out] at this
        exact (this.resolve_right hk).symm
      have HFK := Lib.hid hFk
      have HNS := Lib.hid hns
      clear hk hFk hns
      go_wp2_with fail
      go_loopw [48, 17] (fun y _ wr => ∃ i : Nat, y = .int .i64 (i : Int) ∧ i ≤ n ∧ Hid (Raw B (cellsK N l c I i fill) E ws last wr ∧ But (fun b => b = B.c) w6 wr)) (fun y _ _ => n - (intOf y).toNat)
      case atStart => exact ⟨0, rfl, Nat.zero_le _, Lib.hid ⟨HR6.out, But.refl _ _⟩⟩
      case round =>
        obtain ⟨i, rfl, hi, hI⟩ := hrel
        have hi1 : (i : Int) ≤ (n : Int) := by omega
        have hn2 : (n : Int) ≤ 1048576 := by have := HN1.out; omega
        by_cases hin : i < n
        · have d1 : decide ((i : Int) < (n : Int)) = true := decide_eq_true (by omega)
          have d2 : (i : Int) < (n : Int) := by omega
          have d3 : decide (i < n) = true := decide_eq_true hin
          obtain ⟨p, hp⟩ : ∃ p, E + 2 + i = p := ⟨_, rfl⟩
          obtain ⟨p1, hp1⟩ : ∃ p, E + 2 = p := ⟨_, rfl⟩
          have hpi1 : (E : Int) + 2 = (p1 : Int) := by omega
          have hpi : (p1 : Int) + (i : Int) = (p : Int) := by omega
          have hwr1 : IntKind.i64.wrap (p1 : Int) = (p1 : Int) := by rw [IntKind.wrap_i64]; have := HFIT.out; have := HNH.out; omega
          have hwr1' : wrap64 (p1 : Int) = (p1 : Int) := by have := HFIT.out; have := HNH.out; unfold wrap64; omega
          have hpN : p < N := by have := HFIT.out; omega
          have hpNi : (p : Int) < (N : Int) := by omega
          have hp0 : (0 : Int) ≤ (p : Int) := by omega
          have hwp : IntKind.i64.wrap (p : Int) = (p : Int) := by rw [IntKind.wrap_i64]; have := HNH.out; omega
          have hwp' : wrap64 (p : Int) = (p : Int) := by have := HNH.out; unfold wrap64; omega
          have hset := cellsK_set (N := N) (c := c) (info := I) (k := i) (fill := fill) HF.out.ok (by rw [HE.out]; have := HFIT.out; omega)
          rw [HE.out, hp] at hset
          have hll := cellsK_len (N := N) (c := c) (info := I) (k := i) (fill := fill) HF.out.ok (by rw [HE.out]; have := HFIT.out; omega)
          have hll2 := cellsK_len (N := N) (c := c) (info := I) (k := i + 1) (fill := fill) HF.out.ok (by rw [HE.out]; have := HFIT.out; omega)
          have c0 : wr.cell? ⟨B.h, 0, none⟩ = some (.slice (some ⟨B.c, 0, none⟩) N N) := by have := hI.out.1.hp.c 0 _ rfl; rw [hll] at this; exact this
          have cp : wr.cell? ⟨B.c, p, none⟩ = some (.int .u64 ((0 : Nat) : Int)) := hI.out.1.rc.c p _ (row_get hset.1)
          have zp : wr.frozen? ⟨B.c, p, none⟩ = false := hI.out.1.rc.fz p
          have HE1 : Hid (Raw B (cellsK N l c I (i + 1) fill) E ws last (wr.setCell ⟨B.c, p, none⟩ (.int .u64 (fill : Int))) ∧ But (fun b => b = B.c) w6 (wr.setCell ⟨B.c, p, none⟩ (.int .u64 (fill : Int)))) := Lib.hid (by
            have hr := hI.out.1
            have h1 := hr.hp
            have h2 := hr.bs
            rw [hll] at h1 h2
            refine ⟨⟨?_, ?_, ?_⟩, hI.out.2.set_ rfl p _⟩
            · rw [hll2]; exact blk_set h1 hr.rc ht_wt p _
            · refine hr.rc.set_ p _ _ ?_
              rw [← hset.2, ← row_set]; rfl
            · rw [hll2]; exact ⟨blk_set h2.st hr.rc bt_wt p _, blk_set h2.rs hr.rc wt_ut.symm p _⟩)
          clear hI hset hll hll2 hp hp1
          go_wp2_with fail
          exact ⟨⟨i + 1, by simp, by omega, HE1⟩, by simp only [intOf]; omega⟩
        · obtain rfl : i = n := by omega
          have d1 : decide ((i : Int) < (i : Int)) = false := decide_eq_false (by omega)
          have d3 : decide (i < i) = false := decide_eq_false (by omega)
          have HE1 : Hid (Raw B F E ws last wr ∧ But (fun b => b = B.c) w6 wr) := Lib.hid (by
            have h := hI.out
            rw [HNS.out, HFK.out] at h
            exact h)
          clear hI
          go_wp2_with fail
          go_meet
          exact HE1
  case rest =>
    rename World => w7
    have hFl : F.length = N := by rw [← HFF.out]; exact (fine_alloc HF.out HOK.out (by rw [HN.out, HE.out]; exact HFIT.out)).len
    have hR7 := hcut.out.1
    have hst : startB l E = false := by
      have hc' := alloc_chain (a := 2) (o := newO l c k s fill) HF.out.ch rfl
      have h := (start_take hc' (alloc_get l (newO l c k s fill))).1
      rw [List.take_left] at h
      have e : (newO l c k s fill).at_ = E := HE.out
      rw [e] at h
      exact h
    have hbs := hR7.bs
    rw [hFl] at hbs
    have HSET := Lib.hid (bset_ok B.s B.b N E ws (startB l) w7 hbs HS.out HNH.out (by have := HFIT.out; omega) hst)
    have c2 : w7.cell? ⟨B.h, 2, none⟩ = some (.pointer (some ⟨B.s, 0, none⟩)) := hR7.hp.c 2 _ rfl
    have HFL := Lib.hid hFl
    have HC := Lib.hid hcut.out
    have hqi2 : 2 + (n : Int) = (q2 : Int) := by have := HQ2.out; omega
    have hwq2 : wrap64 (q2 : Int) = (q2 : Int) := by have := HQ2.out; have := HN1.out; unfold wrap64; omega
    have hwq2' : IntKind.i64.wrap (q2 : Int) = (q2 : Int) := by rw [IntKind.wrap_i64]; have := HQ2.out; have := HN1.out; omega
    clear hFl hR7 hst hbs hcut
    go_wp2_with fail
    refine HSET.out.mono ?_; rintro e w8 ⟨rfl, ws', hm8, hs8, hl8, hbt8⟩
    have hR7 := HC.out.1
    have hp7 := hR7.hp
    rw [HFL.out] at hp7
    have hbs7 := hR7.bs
    have h8 : Blk HT B.h #[.slice (some ⟨B.c, 0, none⟩) N N, .int .i64 (E : Int), .pointer (some ⟨B.s, 0, none⟩), .int .u32 (last : Int)] w8 := hbt8.blk hp7 (fun e => by have e : B.h = B.b := e; exact (blk_ne hR7.hp hbs7.rs ht_ut) e)
    have r8 : Blk WT B.c (rowA F) w8 := hbt8.blk hR7.rc (fun e => by have e : B.c = B.b := e; exact (blk_ne hR7.rc hbs7.rs wt_ut) e)
    obtain ⟨q, hq⟩ : ∃ q, E + q2 = q := ⟨_, rfl⟩
    have hqi : (E : Int) + (q2 : Int) = (q : Int) := by omega
    have hwq : IntKind.i64.wrap (q : Int) = (q : Int) := by rw [IntKind.wrap_i64]; have := HFIT.out; have := HNH.out; have := HQ2.out; omega
    have hwq' : wrap64 (q : Int) = (q : Int) := by have := HFIT.out; have := HNH.out; have := HQ2.out; unfold wrap64; omega
    have c18 : w8.cell? ⟨B.h, 1, none⟩ = some (.int .i64 (E : Int)) := h8.c 1 _ rfl
    have z18 : w8.frozen? ⟨B.h, 1, none⟩ = false := h8.fz 1
    obtain ⟨W9, hW9⟩ : ∃ W, w8.setCell ⟨B.h, 1, none⟩ (.int .i64 (q : Int)) = W := ⟨_, rfl⟩
    have HRES : Hid (Mem B N (l ++ [newO l c k s fill]) last W9 ∧ But (HB B) w W9) := Lib.hid (by
      rw [← hW9]
      refine ⟨⟨fine_alloc HF.out HOK.out (by rw [HN.out, HE.out]; exact HFIT.out), ws', ?_, ?_⟩, ?_⟩
      · rw [alloc_start]
        have e : (newO l c k s fill).at_ = E := HE.out
        rw [e]
        exact hs8
      · have hqe : endL 2 (l ++ [newO l c k s fill]) = q := by
          rw [alloc_end]
          show endL 2 l + 2 + cellsL ⟨c, k, s, 0, false⟩ = q
          rw [HE.out, HN.out]; have := HQ2.out; omega
        rw [HFF.out, hqe]
        refine ⟨?_, ?_, ?_⟩
        · rw [HFL.out]; exact h8.set_ 1 _ _ rfl
        · exact blk_set r8 h8 ht_wt.symm 1 _
        · rw [HFL.out]
          exact ⟨blk_set hm8.st h8 ht_bt.symm 1 _, blk_set hm8.rs h8 ht_ut.symm 1 _⟩
      · have t1 : But (HB B) w w5 := But.of HB5.out
        have t2 : But (HB B) w5 w6 := HBT6.out.mono fun b _ e => .inr (.inl e)
        have t3 : But (HB B) w6 w7 := HC.out.2.mono fun b _ e => .inr (.inl e)
        have t4 : But (HB B) w7 w8 := hbt8.mono fun b _ e => .inr (.inr (.inr e))
        exact (((t1.trans t2).trans t3).trans t4).set_ (X := HB B) (k := B.h) (.inl rfl) 1 _)
    have HPT := Lib.hid (pointer_ok E (by have := HE2.out; omega) (by have := HFIT.out; have := HNH.out; have := HE2.out; omega) W9)
    unfold uV at HPT
    clear hm8 hs8 hl8 hbt8 hR7 hp7 hbs7 h8 r8 hq c2
    go_wp2_with fail
    refine HPT.out.mono ?_; rintro e w9 ⟨rfl, rfl⟩
    go_wp2_with fail
    go_ret2
    exact ⟨ret2 (vint (by have := HE.out; omega)) rfl, HRES.out.1, HRES.out.2⟩
end Hp
end Go.Proofs.Ytojblndlchcjeaa
