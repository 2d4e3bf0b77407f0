/- Chapters 08 and 17, the walk: foundlinglaw04.Own: the program's heap out of the reference's. -/
import Derived.Test.YtojblndlchcjeaaHpRe3
import Derived.Test.YtojblndlchcjeaaHpWb
set_option linter.unusedVariables false
namespace Go.Proofs.Ytojblndlchcjeaa
open Go.RowKit
namespace Hp
open Bs Sm
def OwnW (B : Nat) (w : World) (v : Value) (L : List Nat) : Prop := w.ownsRow B WT 1 v L.length (L.map uV)
theorem app_w {S : Nat → Prop} {w : World} {B : Nat} {v xv : Value} {L M : List Nat} (h : OwnW B w v L) (hr : Rd S uV w xv M) (hn : L.length + M.length ≤ 100000000) (hB : B ≤ w.heap.size) :
    ∃ v' w', (Builtin.append_ #[114, 114] 114 #[v, xv]).run Try.prog w = .ok v' w' ∧ OwnW B w' v' (L ++ M) ∧ w.grownBy w' v.ownBlock := by
  obtain ⟨i0, hi0, hz0, hz1, hz2⟩ := wt_info
  obtain ⟨v', w', r1, r2, r3⟩ := run_rd (P := Try.prog) uV_one 114 114 WT (by kernel_rfl) i0 (.int .u64 0) 8 hi0 hz0 hz1 hz2 rfl h hr (by unfold maxLen; omega) (by omega) hB
  refine ⟨v', w', r1, ?_, r3⟩
  unfold OwnW
  rw [List.length_append, List.map_append]
  exact r2
theorem OwnW.form {B : Nat} {w : World} {v : Value} {L : List Nat} (h : OwnW B w v L) : ∃ a c, v = .slice a L.length c := by
  obtain ⟨a, c, e, -⟩ := own_slice h
  exact ⟨a, c, e⟩
theorem OwnW.bel {B : Nat} {w w' : World} {v : Value} {L : List Nat} (h : OwnW B w v L) (hb : Below w.heap.size w w') : OwnW B w' v L := own_below h hb
theorem OwnW.lt {B : Nat} {w : World} {v : Value} {L : List Nat} (h : OwnW B w v L) : ∀ k, v.ownBlock = some k → B ≤ k := fun k hk => (World.ownsRow.lt h k hk).1
set_option maxRecDepth 100000 in
set_option maxHeartbeats 3200000 in
theorem own_ok (S : Nat → Prop) (N : Nat) (lv : Value) (l : List Ob) (w : World) (hl : Obs S w lv l) (hf : Fine N l 0) (h0 : ∀ o ∈ l, o.hd.hash = 0) (hne : l ≠ []) :
    Calls Try.prog 21 #[rhV N lv 0] w (NewM N l 0 w) := by
  have hEE : endL 2 l ≤ 16777216 := Nat.le_trans hf.fit hf.hi
  have HWs := Lib.hid (fun w hl => rwords_any S N 0 lv l w hl hf.ok hEE)
  have HLd := Lib.hid (fun v S w hv => load_ok N l v S w hf h0 hne hv)
  obtain ⟨la, lc, rfl, -, -⟩ := hl.form
  obtain ⟨W1, hal1⟩ : ∃ W1, w.alloc (.cells #[.int .i64 (N : Int), .slice la l.length lc, .int .u32 0] RHT) = W1 := ⟨_, rfl⟩
  have b1 : Below w.heap.size w W1 := by rw [← hal1]; exact alloc_bel _ _
  have qA : Blk RHT w.heap.size #[.int .i64 (N : Int), .slice la l.length lc, .int .u32 0] W1 := by rw [← hal1]; exact Blk.made _
  have c0 := qA.c 0 _ rfl
  have c1 := qA.c 1 _ rfl
  have c2 := qA.c 2 _ rfl
  have HL1 := Lib.hid (hl.bel b1)
  have HB := Lib.hid b1
  have QA := Lib.hid qA
  have hlen := heapW_len l 2 hf.ok
  obtain ⟨m, hm⟩ : ∃ m, (heapW l).length = m := ⟨_, rfl⟩
  have HML := Lib.hid hm
  rw [hm] at hlen
  have hm2 : (m : Int) ≤ 16777216 := by omega
  have hmm : m ≤ 16777216 := by omega
  obtain ⟨n, hn⟩ : ∃ n, l.length = n := ⟨_, rfl⟩
  rw [hn] at c0 c1 c2 hal1 QA HWs HL1 ⊢
  unfold rhV at HWs ⊢
  have hz : ((0 : Nat) : Int) = 0 := rfl
  rw [hz] at HWs ⊢
  clear hl hf h0 hne hEE b1 qA hlen hm hn hz
  go_enter Try.func21, Try.ntmps21
  go_wp2_with fail
  refine (HWs.out _ HL1.out).mono ?_; rintro e w2 ⟨v, rfl, hv, hb2⟩
  obtain ⟨va, vc, rfl⟩ := hv.form
  rw [HML.out]
  have hv2 : OwnU w.heap.size w2 (.slice va m vc) (heapW l) := own_mono (by rw [← HML.out]; exact hv) HB.out.size
  have hb02 : Below w.heap.size w w2 := HB.out.trans (hb2.mono HB.out.size)
  have HI0 : Hid (Below w.heap.size w w2 ∧ Blk RHT w.heap.size #[.int .i64 (N : Int), .slice la n lc, .int .u32 0] w2 ∧ OwnU w.heap.size w2 (.slice va m vc) (heapW l)) := Lib.hid ⟨hb02, QA.out.below hb2 QA.out.lt, hv2⟩
  clear hv hv2 hb02 hb2
  go_wp2_with fail
  go_loopw [4, 10, 6] (fun x y _ wr => ∃ k : Nat, y = .int .i64 (k : Int) ∧ k ≤ m ∧ Hid (Below w.heap.size w wr ∧ Blk RHT w.heap.size #[.int .i64 (N : Int), .slice la n lc, .int .u32 0] wr ∧ OwnU w.heap.size wr (.slice va m vc) (heapW l) ∧ OwnW w.heap.size wr x ((heapW l).take k))) (fun _ y _ _ => m - (intOf y).toNat)
  case atStart => exact ⟨0, rfl, Nat.zero_le _, Lib.hid ⟨HI0.out.1, HI0.out.2.1, HI0.out.2.2, World.ownsRow_nil _ _ _ _⟩⟩
  case round =>
    obtain ⟨k, rfl, hk, hI⟩ := hrel
    obtain ⟨xa, xc, rfl⟩ := hI.out.2.2.2.form
    have hlk : ((heapW l).take k).length = k := by rw [List.length_take, HML.out]; omega
    have HI : Hid (Below w.heap.size w wr ∧ Blk RHT w.heap.size #[.int .i64 (N : Int), .slice la n lc, .int .u32 0] wr ∧ OwnU w.heap.size wr (.slice va m vc) (heapW l) ∧ OwnW w.heap.size wr (.slice xa k xc) ((heapW l).take k)) := Lib.hid (by have := hI.out; rw [hlk] at this; exact this)
    rw [hlk]
    have HLK := Lib.hid hlk
    clear hI hlk
    by_cases hkm : k < m
    · have hd : decide ((k : Int) < (m : Int)) = true := by simpa using hkm
      have hkb : (k : Int) < (m : Int) := by omega
      obtain ⟨g, hg1, -, -, -⟩ := (own_len HI.out.2.2.1).2 (by rw [HML.out]; omega)
      subst hg1
      obtain ⟨u, hu⟩ : ∃ u, (heapW l)[k]? = some u := ⟨_, List.getElem?_eq_getElem (by rw [HML.out]; exact hkm)⟩
      have cu := World.ownsRow.cells HI.out.2.2.1 (g := g) rfl k _ (by rw [List.getElem?_map, hu]; rfl)
      have ea : (⟨g, 0, none⟩ : Addr).add k = ⟨g, k, none⟩ := by unfold Addr.add; split <;> simp_all
      rw [ea] at cu
      unfold uV at cu
      have HTK : Hid ((heapW l).take (k + 1) = (heapW l).take k ++ [u]) := Lib.hid (by
        obtain ⟨h1, h2⟩ := List.getElem?_eq_some_iff.1 hu
        rw [List.take_succ_eq_append_getElem h1, h2])
      obtain ⟨W9, hal9⟩ : ∃ W9, wr.alloc (.cells #[.int .u64 (u : Int)] WT) = W9 := ⟨_, rfl⟩
      have b9 : Below wr.heap.size wr W9 := by rw [← hal9]; exact alloc_bel _ _
      have qE : Blk WT wr.heap.size (rowV uV [u]) W9 := by rw [← hal9]; exact Blk.made _
      have bw9 := HI.out.1.trans (b9.mono HI.out.1.size)
      have hO9 := HI.out.2.2.2.bel b9
      obtain ⟨vA, wA, hrunA, hOA, hgA⟩ := app_w (xv := .slice (some ⟨wr.heap.size, 0, none⟩) 1 1) hO9 (Rd.blk qE (by unfold maxLen; simp)) (by rw [HLK.out]; simp; omega) bw9.size
      have HRA := Lib.hid hrunA
      have HE2 : Hid (Below w.heap.size w wA ∧ Blk RHT w.heap.size #[.int .i64 (N : Int), .slice la n lc, .int .u32 0] wA ∧ OwnU w.heap.size wA (.slice (some ⟨g, 0, none⟩) m vc) (heapW l) ∧ OwnW w.heap.size wA vA ((heapW l).take (k + 1))) :=
        Lib.hid ⟨bw9.grown hgA bw9.size hO9.lt, blk_grown (HI.out.2.1.below b9 HI.out.2.1.lt) hgA hO9 (show WT ≠ RHT by decide), own_grown (HI.out.2.2.1.bel b9) hgA hO9 (show UT ≠ WT by decide), by rw [HTK.out]; exact hOA⟩
      clear b9 qE bw9 hO9 hrunA hOA hgA hu ea
      go_wp2_with (at_builtin; refine wpList_app rfl _ _ _ rfl _ _ _ _ rfl rfl HRA.out ?_)
      exact ⟨⟨k + 1, by simp, by omega, HE2⟩, by simp only [intOf]; omega⟩
    · obtain rfl : k = m := by omega
      have hd : decide ((k : Int) < (k : Int)) = false := by simp
      have f0 := HI.out.2.1.c 0 _ rfl
      have f2 := HI.out.2.1.c 2 _ rfl
      have hrd := Rd.own (f := uV) (show wr.ownsRow w.heap.size WT 1 (.slice xa k xc) (heapW l).length ((heapW l).map uV) by
        have := HI.out.2.2.2
        unfold OwnW at this
        rw [List.take_of_length_le (by rw [HML.out]; exact Nat.le_refl _)] at this
        exact this)
      have HLL := Lib.hid (HLd.out _ _ _ hrd)
      have HBr := Lib.hid HI.out.1
      clear hrd HI
      go_wp2_with fail
      refine HLL.out.mono ?_; rintro e w5 ⟨B, rfl, hM, hBk, hb5⟩
      have HM := Lib.hid hM
      have HBk : Hid (w.heap.size ≤ B.h ∧ w.heap.size ≤ B.c ∧ w.heap.size ≤ B.s ∧ w.heap.size ≤ B.b) := Lib.hid ⟨Nat.le_trans HBr.out.size hBk.1, Nat.le_trans HBr.out.size hBk.2.1, Nat.le_trans HBr.out.size hBk.2.2.1, Nat.le_trans HBr.out.size hBk.2.2.2⟩
      have HB5 := Lib.hid (HBr.out.trans (hb5.mono HBr.out.size))
      clear hM hBk hb5
      go_wp2_with fail
      go_ret2
      exact ⟨B, rfl, HM.out, HBk.out, HB5.out⟩
end Hp
end Go.Proofs.Ytojblndlchcjeaa
