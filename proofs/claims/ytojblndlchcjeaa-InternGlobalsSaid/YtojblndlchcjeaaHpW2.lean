/- Chapters 08 and 17, the walk, 2: head.Pack, Unpack, Cells, Pointer, At. -/
import Derived.Test.YtojblndlchcjeaaHpW1
import Derived.Test.YtojblndlchcjeaaHpAa
import Derived.ChangeKeysEq
set_option linter.unusedVariables false
namespace Go.Proofs.Ytojblndlchcjeaa
open Go.RowKit
namespace Hp
open Bs Sm
abbrev ART : Nat := 138
theorem run_arr2d (d : Nat) (a b : Int) (w : World) : (Op.equalIn (d + 1 + 1) ART (.agg #[.int .u64 a, .int .u64 b]) (.agg #[.int .u64 a, .int .u64 b])).run Try.prog w = .ok true w := by
  have hu : Try.prog.underlying ART = some (.array 2 WT) := by kernel_rfl
  have hw : Try.prog.underlying WT = some (.int .u64) := by kernel_rfl
  obtain ⟨i0, hi, _⟩ := info_parts (show (Try.prog.info? WT).map (fun i => (i.zero, i.size, i.bytes)) = some (some (.int .u64 0), 1, 8) by kernel_rfl)
  have hc : Try.prog.cellsOf WT = 1 := by kernel_rfl
  rw [run_equalIn_array w (d + 1) _ _ hu hi, hc]
  simp [List.range, List.range.loop, Op.eqItems, part, Op.equalIn, run_underlying hw, Result.andThen, sizeOf, typeInfo, hi]
theorem run_arr2 (a b : Int) (w : World) : (Op.equalIn 10000 ART (.agg #[.int .u64 a, .int .u64 b]) (.agg #[.int .u64 a, .int .u64 b])).run Try.prog w = .ok true w := run_arr2d 9998 a b w
set_option maxRecDepth 100000 in
set_option maxHeartbeats 1600000 in
theorem pack_ok (h : Hdr) (ok : okB h = true) (hc : h.cls < 18446744073709551616) (w : World) :
    Calls Try.prog 62 #[hdV h] w (Back (.tuple #[.agg #[uV h.cls, uV (infoL h)], .int .i64 0]) w) := by
  obtain ⟨c, k, s, x, m⟩ := h
  have HC := Lib.hid (fun w => check_any c (k : Int) (s : Int) x m w hc)
  rw [chk_ok ok] at HC
  obtain ⟨h1, h2, h3, h4, h5⟩ := (okB_iff _).1 ok
  dsimp only at h1 h2 h3 h4 h5 hc
  have HF := Lib.hid (info_or s k x h3 h5 h4)
  have HM := Lib.hid (info_mark s k x h3 h5 h4)
  obtain ⟨F, hF⟩ : ∃ F, bits .or .u64 (bits .or .u64 (IntKind.u64.wrap (s : Int)) (IntKind.u64.wrap (IntKind.u64.wrap (k : Int) * 4294967296))) (IntKind.u64.wrap (IntKind.u64.wrap (x : Int) * 1099511627776)) = F := ⟨_, rfl⟩
  have hF2 : F = ((s + k * 4294967296 + x * 1099511627776 : Nat) : Int) := by
    have e1 : IntKind.u64.wrap (s : Int) = (s : Int) := by rw [wrap_u64_eq]; omega
    have e2 : IntKind.u64.wrap (k : Int) = (k : Int) := by rw [wrap_u64_eq]; omega
    have e3 : IntKind.u64.wrap (x : Int) = (x : Int) := by rw [wrap_u64_eq]; omega
    have e4 : IntKind.u64.wrap ((k : Int) * 4294967296) = (k : Int) * 4294967296 := by rw [wrap_u64_eq]; omega
    have e5 : IntKind.u64.wrap ((x : Int) * 1099511627776) = (x : Int) * 1099511627776 := by rw [wrap_u64_eq]; omega
    rw [← hF, e1, e2, e3, e4, e5, HF.out]
  obtain ⟨I, hI⟩ : ∃ I, infoL ⟨c, k, s, x, m⟩ = I := ⟨_, rfl⟩
  rw [hI]
  cases m
  · have HI : Hid (F = (I : Int)) := Lib.hid (by rw [hF2, ← hI]; unfold infoL; dsimp only; rw [if_neg (by decide), Nat.add_zero])
    clear ok h1 h2 hc h3 h4 h5 HF HM hF2 hI
    unfold hdV uV
    go_enter Try.func62, Try.ntmps62
    go_wp2_with fail
    refine (HC.out _).mono ?_; rintro e w1 ⟨rfl, hb1⟩
    have HB1 := Lib.hid hb1
    obtain ⟨hcl, hfz⟩ := bcell hb1
    have hz : w.heap.size + 1 < w1.heap.size := by have := hb1.size; simp at this; omega
    clear hb1
    go_wp2_with fail
    refine bodyPost_ret (v := .tuple #[.agg #[.int .u64 (c : Int), .int .u64 F], .int .i64 0]) (by simp [results, Try.results62, go_sem, hcl]) rfl ?_
    refine ⟨by rw [HI.out], ?_⟩
    exact ((((Below.refl _ _).alloc (Nat.le_refl _) _).alloc (by simp) _).trans (HB1.out.mono (by simp; omega))).setCell (by simp) _ |>.setCell (by simp) _
  · have HI : Hid (bits .or .u64 F 68719476736 = (I : Int)) := Lib.hid (by rw [hF2, HM.out, ← hI]; unfold infoL; dsimp only; simp only [if_true])
    clear ok h1 h2 hc h3 h4 h5 HF HM hF2 hI
    unfold hdV uV
    go_enter Try.func62, Try.ntmps62
    go_wp2_with fail
    refine (HC.out _).mono ?_; rintro e w1 ⟨rfl, hb1⟩
    have HB1 := Lib.hid hb1
    obtain ⟨hcl, hfz⟩ := bcell hb1
    have hz : w.heap.size + 1 < w1.heap.size := by have := hb1.size; simp at this; omega
    clear hb1
    go_wp2_with fail
    refine bodyPost_ret (v := .tuple #[.agg #[.int .u64 (c : Int), .int .u64 (bits .or .u64 F 68719476736)], .int .i64 0]) (by simp [results, Try.results62, go_sem, hcl]) rfl ?_
    refine ⟨by rw [HI.out], ?_⟩
    exact ((((Below.refl _ _).alloc (Nat.le_refl _) _).alloc (by simp) _).trans (HB1.out.mono (by simp; omega))).setCell (by simp) _ |>.setCell (by simp) _
/-- A block that lies behind w, its five cells stored anew: behind w nothing is other. -/
theorem blk_set5 {T k : Nat} {a b c d e : Value} {w : World} (h : Blk T k #[a, b, c, d, e] w) (a' b' c' d' e' : Value) :
    Blk T k #[a', b', c', d', e'] (((((w.setCell ⟨k, 0, none⟩ a').setCell ⟨k, 1, none⟩ b').setCell ⟨k, 2, none⟩ c').setCell ⟨k, 3, none⟩ d').setCell ⟨k, 4, none⟩ e') ∧
    ∀ B, B ≤ k → B ≤ w.heap.size → Below B w (((((w.setCell ⟨k, 0, none⟩ a').setCell ⟨k, 1, none⟩ b').setCell ⟨k, 2, none⟩ c').setCell ⟨k, 3, none⟩ d').setCell ⟨k, 4, none⟩ e') :=
  ⟨((((h.set_ 0 a' _ rfl).set_ 1 b' _ rfl).set_ 2 c' _ rfl).set_ 3 d' _ rfl).set_ 4 e' _ rfl,
    fun B hB hw => (((((Below.refl B w).setCell hB _).setCell hB _).setCell hB _).setCell hB _).setCell hB _⟩
set_option maxRecDepth 100000 in
set_option maxHeartbeats 1600000 in
theorem unpack_ok (h : Hdr) (ok : okB h = true) (hc : h.cls < 18446744073709551616) (w : World) :
    Calls Try.prog 75 #[.agg #[uV h.cls, uV (infoL h)]] w (Back (.tuple #[hdV h, .int .i64 0]) w) := by
  have HP := Lib.hid (fun w => pack_ok h ok hc w)
  have hh := head_info h ok
  obtain ⟨I, hI⟩ : ∃ I, infoL h = I := ⟨_, rfl⟩
  have hlt := info_lt h ok
  rw [hI] at HP hh hlt ⊢
  obtain ⟨c, k, s, x, m⟩ := h
  unfold headL at hh
  simp only [Hdr.mk.injEq, true_and] at hh
  obtain ⟨e1, e2, e3, e4⟩ := hh
  obtain ⟨h1, h2, h3, h4, h5⟩ := (okB_iff _).1 ok
  dsimp only at h1 h2 h3 h4 h5 hc
  clear h1 h2 hI hc
  have w1 : wrap64 (bits .and .u64 ((I : Int) / 4294967296) 15) = (k : Int) := by
    have := u64and (I / 4294967296) 15 (by omega) (by omega)
    have e := and_mask 4 (I / 4294967296) (by omega) (by omega)
    simp only [Nat.reducePow, Nat.reduceSub] at e
    rw [e, show ((I / 4294967296 : Nat) : Int) = (I : Int) / 4294967296 by omega, show ((15 : Nat) : Int) = 15 by rfl] at this
    rw [this, e1]; unfold wrap64; omega
  have w2 : wrap64 (bits .and .u64 (I : Int) 4294967295) = (s : Int) := by
    have := u64and I 4294967295 (by omega) (by omega)
    have e := and_mask 32 I (by omega) (by omega)
    simp only [Nat.reducePow, Nat.reduceSub] at e
    rw [e, show ((4294967295 : Nat) : Int) = 4294967295 by rfl] at this
    rw [this, e2]; unfold wrap64; omega
  have w3 : (I : Int) / 1099511627776 % 4294967296 = (x : Int) := by omega
  have w4 : (bits .and .u64 ((I : Int) / 68719476736) 1 == 1) = m := by
    rw [and_one _ (by omega) (by omega), ← e4, Bool.eq_iff_iff]; simp; omega
  unfold hdV uV at HP ⊢
  dsimp only at HP ⊢
  have hne : ((x : Int) == 0) = ((x : Int) == 0) := rfl
  clear ok h3 h4 h5 e1 e2 e3 e4 hlt hne
  obtain ⟨W1, hal1⟩ : ∃ W1, w.alloc (.cells #[.int .u64 (c : Int), .int .u64 (I : Int)] ART) = W1 := ⟨_, rfl⟩
  obtain ⟨W2, hal2⟩ : ∃ W2, W1.alloc (.cells #[.int .u64 0, .int .i64 0, .int .i64 0, .int .u32 0, .bool false] HDT) = W2 := ⟨_, rfl⟩
  obtain ⟨W3, hal3⟩ : ∃ W3, W2.alloc (.cells #[.int .u64 (c : Int), .int .i64 (k : Int), .int .i64 (s : Int), .int .u32 (x : Int), .bool m] HDT) = W3 := ⟨_, rfl⟩
  have b1 : Below w.heap.size w W1 := by rw [← hal1]; exact alloc_bel _ _
  have b2 : Below W1.heap.size W1 W2 := by rw [← hal2]; exact alloc_bel _ _
  have b3 : Below W2.heap.size W2 W3 := by rw [← hal3]; exact alloc_bel _ _
  have qA : Blk ART w.heap.size #[.int .u64 (c : Int), .int .u64 (I : Int)] W1 := by rw [← hal1]; exact Blk.made _
  have qB : Blk HDT W1.heap.size #[.int .u64 0, .int .i64 0, .int .i64 0, .int .u32 0, .bool false] W2 := by rw [← hal2]; exact Blk.made _
  have qC : Blk HDT W2.heap.size #[.int .u64 (c : Int), .int .i64 (k : Int), .int .i64 (s : Int), .int .u32 (x : Int), .bool m] W3 := by rw [← hal3]; exact Blk.made _
  have qA3 := (qA.below b2 qA.lt).below b3 (Nat.lt_of_lt_of_le qA.lt b2.size)
  have qB3 := qB.below b3 qB.lt
  have bb := (b1.trans (b2.mono b1.size)).trans (b3.mono (Nat.le_trans b1.size b2.size))
  have cA0 := qA.c 0 _ rfl
  have cA1 := qA.c 1 _ rfl
  have cA0' := qA3.c 0 _ rfl
  have cA1' := qA3.c 1 _ rfl
  have cC0 := qC.c 0 _ rfl
  have cC1 := qC.c 1 _ rfl
  have cC2 := qC.c 2 _ rfl
  have cC3 := qC.c 3 _ rfl
  have cC4 := qC.c 4 _ rfl
  have cW0 := (qA.below b2 qA.lt).c 0 _ rfl
  have cW1 := (qA.below b2 qA.lt).c 1 _ rfl
  have hl : w.heap.size < W3.heap.size := qA3.lt
  have QA := Lib.hid qA3; have QB := Lib.hid qB3; have QC := Lib.hid qC; have BB := Lib.hid bb
  have HLt := Lib.hid (show w.heap.size ≤ W1.heap.size from b1.size)
  clear b1 b2 b3 qA qB qC qA3 qB3 bb
  have heq := run_arr2 (c : Int) (I : Int)
  go_enter Try.func75, Try.ntmps75
  go_wp2_with fail
  refine (HP.out _).mono ?_; rintro e w1 ⟨rfl, hb1⟩
  obtain ⟨W4, hal4⟩ : ∃ W4, w1.alloc (.cells #[.int .u64 (c : Int), .int .u64 (I : Int)] ART) = W4 := ⟨_, rfl⟩
  have b4 : Below w1.heap.size w1 W4 := by rw [← hal4]; exact alloc_bel _ _
  have bb4 := hb1.trans (b4.mono hb1.size)
  have qA4 := QA.out.below bb4 QA.out.lt
  have qB4 := QB.out.below bb4 QB.out.lt
  have qC4 := QC.out.below bb4 QC.out.lt
  have qD4 : Blk ART w1.heap.size #[.int .u64 (c : Int), .int .u64 (I : Int)] W4 := by rw [← hal4]; exact Blk.made _
  have d0 := qA4.c 0 _ rfl
  have d1 := qA4.c 1 _ rfl
  have d2 := qD4.c 0 _ rfl
  have d3 := qD4.c 1 _ rfl
  have f0 := qC4.c 0 _ rfl
  have f1 := qC4.c 1 _ rfl
  have f2 := qC4.c 2 _ rfl
  have f3 := qC4.c 3 _ rfl
  have f4 := qC4.c 4 _ rfl
  have g0 := qB4.c 0 _ rfl
  have g1 := qB4.c 1 _ rfl
  have g2 := qB4.c 2 _ rfl
  have g3 := qB4.c 3 _ rfl
  have g4 := qB4.c 4 _ rfl
  have fz := qB4.fz
  have QB4 := Lib.hid qB4
  have BB4 := Lib.hid (BB.out.trans (bb4.mono BB.out.size))
  clear hb1 b4 bb4 qA4 qB4 qC4 qD4
  go_wp2_with fail
  obtain ⟨q1, bel1⟩ := blk_set5 QB4.out (.int .u64 (c : Int)) (.int .i64 (k : Int)) (.int .i64 (s : Int)) (.int .u32 (x : Int)) (.bool m)
  have hbf := BB4.out.trans (bel1 _ HLt.out BB4.out.size)
  generalize ((((W4.setCell ⟨W1.heap.size, 0, none⟩ (.int .u64 (c : Int))).setCell ⟨W1.heap.size, 1, none⟩ (.int .i64 (k : Int))).setCell ⟨W1.heap.size, 2, none⟩ (.int .i64 (s : Int))).setCell ⟨W1.heap.size, 3, none⟩ (.int .u32 (x : Int))).setCell ⟨W1.heap.size, 4, none⟩ (.bool m) = Wf at q1 hbf
  have r0 := q1.c 0 _ rfl
  have r1 := q1.c 1 _ rfl
  have r2 := q1.c 2 _ rfl
  have r3 := q1.c 3 _ rfl
  have r4 := q1.c 4 _ rfl
  refine bodyPost_ret (v := .tuple #[.agg #[.int .u64 (c : Int), .int .i64 (k : Int), .int .i64 (s : Int), .int .u32 (x : Int), .bool m], .int .i64 0]) (by simp [results, Try.results75, go_sem, r0, r1, r2, r3, r4]) rfl ?_
  exact ⟨rfl, hbf⟩
end Hp
end Go.Proofs.Ytojblndlchcjeaa
