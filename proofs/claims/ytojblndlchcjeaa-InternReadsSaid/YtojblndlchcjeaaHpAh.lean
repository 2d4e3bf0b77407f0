/- Chapters 08 and 17, the walk, 1: small.Is, head.check. · Chapters 08 and 17, the walk, 2: head.Pack, Unpack, Cells, Pointer, At. · Chapters 08 and 17, the walk, 3: head.Cells, Pointer, At; pack.Bits: place, Has. -/
import Derived.Test.YtojblndlchcjeaaHpMem
import Derived.Test.YtojblndlchcjeaaProg
import Derived.WalkSpells
import Derived.WalkLawsBesides
import Derived.Laws.Cover3
import Derived.Test.YtojblndlchcjeaaHpAa
import Derived.ChangeKeysEq
set_option linter.unusedVariables false
namespace Go.Proofs.Ytojblndlchcjeaa
open Go.RowKit
namespace Hp
open Bs Sm
abbrev HDT : Nat := 94
def hdV (h : Hdr) : Value := .agg #[uV h.cls, .int .i64 (h.kind : Int), .int .i64 (h.size : Int), .int .u32 (h.hash : Int), .bool h.mark]
set_option maxHeartbeats 400000 in
theorem isw_any (n : Nat) (w : World) (h2 : n < 18446744073709551616) : Calls Try.prog 74 #[.int .u64 (n : Int)] w (Done (.bool (n % 2 == 1)) w) := by
  have hb : ((bits .and .u64 (n : Int) 1) == 1) = (n % 2 == 1) := by
    rw [and_one n (by omega) (by omega)]
    rw [Bool.eq_iff_iff]; simp; omega
  have HB := Lib.hid hb; clear hb
  go_enter Try.func74, Try.ntmps74
  go_wp2_with fail
  go_ret
  exact ⟨by rw [HB.out]; rfl, rfl⟩
/-- Which error a head has; 0: none. -/
def chkL (c : Nat) (k s : Int) (x : Nat) : Int :=
  if c = 0 ∨ c % 2 = 1 then 1 else if s < 0 ∨ 1048576 < s then 2 else if 16777216 ≤ x then 9 else if k < 0 ∨ 2 < k then 13 else 0
theorem chk_ok {h : Hdr} (ok : okB h = true) : chkL h.cls h.kind h.size h.hash = 0 := by
  obtain ⟨h1, h2, h3, h4, h5⟩ := (okB_iff h).1 ok
  unfold chkL
  rw [if_neg (by omega), if_neg (by omega), if_neg (by omega), if_neg (by omega)]
set_option maxHeartbeats 1600000 in
theorem check_any (c : Nat) (k s : Int) (x : Nat) (m : Bool) (w : World) (hc : c < 18446744073709551616) :
    Calls Try.prog 76 #[.agg #[.int .u64 (c : Int), .int .i64 k, .int .i64 s, .int .u32 (x : Int), .bool m]] w (Back (.int .i64 (chkL c k s x)) w) := by
  have HB := Lib.hid (alloc_bel w (.cells #[.int .u64 (c : Int), .int .i64 k, .int .i64 s, .int .u32 (x : Int), .bool m] HDT))
  obtain ⟨r, hr⟩ : ∃ r, chkL c k s x = r := ⟨_, rfl⟩
  by_cases h0 : c = 0
  · have : r = 1 := by rw [← hr]; unfold chkL; rw [if_pos (.inl h0)]
    subst this; subst h0; rw [hr]; clear hr
    go_enter Try.func76, Try.ntmps76
    go_wp2_with fail
    go_ret
    exact ⟨rfl, HB.out⟩
  have hc0 : ((c : Int) == 0) = false := by simpa using h0
  by_cases h1 : c % 2 = 1
  · have : r = 1 := by rw [← hr]; unfold chkL; rw [if_pos (.inr h1)]
    subst this; rw [hr]; clear hr
    have h1b : (c % 2 == 1) = true := by simpa using h1
    have HI := Lib.hid (fun w => isw_any c w hc)
    rw [h1b] at HI
    clear h1 h1b h0
    go_enter Try.func76, Try.ntmps76
    go_wp2_with fail
    refine (HI.out _).mono ?_; rintro e w' ⟨rfl, rfl⟩
    go_wp2_with fail
    go_ret
    exact ⟨rfl, HB.out⟩
  have h1b : (c % 2 == 1) = false := by simpa using h1
  have HI := Lib.hid (fun w => isw_any c w hc)
  rw [h1b] at HI
  have HR := Lib.hid hr; clear hr
  clear h1b
  by_cases h2 : s < 0
  · have : r = 2 := by rw [← HR.out]; unfold chkL; rw [if_neg (by omega), if_pos (.inl h2)]
    rw [HR.out]; subst this; clear HR h0 h1
    go_enter Try.func76, Try.ntmps76
    go_wp2_with fail
    refine (HI.out _).mono ?_; rintro e w' ⟨rfl, rfl⟩
    go_wp2_with fail
    go_ret
    exact ⟨rfl, HB.out⟩
  by_cases h3 : 1048576 < s
  · have : r = 2 := by rw [← HR.out]; unfold chkL; rw [if_neg (by omega), if_pos (.inr h3)]
    rw [HR.out]; subst this; clear HR h0 h1
    go_enter Try.func76, Try.ntmps76
    go_wp2_with fail
    refine (HI.out _).mono ?_; rintro e w' ⟨rfl, rfl⟩
    go_wp2_with fail
    go_ret
    exact ⟨rfl, HB.out⟩
  by_cases h4 : 16777216 ≤ x
  · have : r = 9 := by rw [← HR.out]; unfold chkL; rw [if_neg (by omega), if_neg (by omega), if_pos h4]
    rw [HR.out]; subst this; clear HR h0 h1
    have h4b : decide ((16777216 : Int) ≤ (x : Int)) = true := by simp; omega
    go_enter Try.func76, Try.ntmps76
    go_wp2_with fail
    refine (HI.out _).mono ?_; rintro e w' ⟨rfl, rfl⟩
    go_wp2_with fail
    go_ret
    exact ⟨rfl, HB.out⟩
  have h4b : decide ((16777216 : Int) ≤ (x : Int)) = false := by simp; omega
  by_cases h5 : k < 0
  · have : r = 13 := by rw [← HR.out]; unfold chkL; rw [if_neg (by omega), if_neg (by omega), if_neg h4, if_pos (.inl h5)]
    rw [HR.out]; subst this; clear HR h0 h1
    go_enter Try.func76, Try.ntmps76
    go_wp2_with fail
    refine (HI.out _).mono ?_; rintro e w' ⟨rfl, rfl⟩
    go_wp2_with fail
    go_ret
    exact ⟨rfl, HB.out⟩
  by_cases h6 : 2 < k
  · have : r = 13 := by rw [← HR.out]; unfold chkL; rw [if_neg (by omega), if_neg (by omega), if_neg h4, if_pos (.inr h6)]
    rw [HR.out]; subst this; clear HR h0 h1
    go_enter Try.func76, Try.ntmps76
    go_wp2_with fail
    refine (HI.out _).mono ?_; rintro e w' ⟨rfl, rfl⟩
    go_wp2_with fail
    go_ret
    exact ⟨rfl, HB.out⟩
  have : r = 0 := by rw [← HR.out]; unfold chkL; rw [if_neg (by omega), if_neg (by omega), if_neg h4, if_neg (by omega)]
  rw [HR.out]; subst this; clear HR h0 h1
  go_enter Try.func76, Try.ntmps76
  go_wp2_with fail
  refine (HI.out _).mono ?_; rintro e w' ⟨rfl, rfl⟩
  go_wp2_with fail
  go_ret
  exact ⟨rfl, HB.out⟩
end Hp
end Go.Proofs.Ytojblndlchcjeaa
namespace Go.Proofs.Ytojblndlchcjeaa
open Go.RowKit
namespace Hp
open Bs Sm
abbrev ART : Nat := 138
theorem run_arr2d (d : Nat) (a b : Int) (w : World) : (Op.equalIn (d + 1 + 1) ART (.agg #[.int .u64 a, .int .u64 b]) (.agg #[.int .u64 a, .int .u64 b])).run Try.prog w = .ok true w := by
  have hu : Try.prog.underlying ART = some (.array 2 WT) := by kernel_rfl
  have hw : Try.prog.underlying WT = some (.int .u64) := by kernel_rfl
  obtain ⟨i0, hi, _⟩ := info_parts (show (Try.prog.info? WT).map (fun i => (i.zero, i.size, i.bytes)) = some (some (.int .u64 0), 1, 8) by kernel_rfl)
  have hc : Try.prog.cellsOf WT = 1 := by kernel_rfl
  rw [run_equalIn_array w (d + 1) _ _ hu hi, hc]
  simp [List.range, List.range.loop, Op.eqItems, part, Op.equalIn, run_underlying hw, Result.andThen, sizeOf, typeInfo, hi]
theorem run_arr2 (a b : Int) (w : World) : (Op.equalIn 10000 ART (.agg #[.int .u64 a, .int .u64 b]) (.agg #[.int .u64 a, .int .u64 b])).run Try.prog w = .ok true w := run_arr2d 9998 a b w
set_option maxRecDepth 100000 in
set_option maxHeartbeats 1600000 in
theorem pack_ok (h : Hdr) (ok : okB h = true) (hc : h.cls < 18446744073709551616) (w : World) :
    Calls Try.prog 62 #[hdV h] w (Back (.tuple #[.agg #[uV h.cls, uV (infoL h)], .int .i64 0]) w) := by
  obtain ⟨c, k, s, x, m⟩ := h
  have HC := Lib.hid (fun w => check_any c (k : Int) (s : Int) x m w hc)
  rw [chk_ok ok] at HC
  obtain ⟨h1, h2, h3, h4, h5⟩ := (okB_iff _).1 ok
  dsimp only at h1 h2 h3 h4 h5 hc
  have HF := Lib.hid (info_or s k x h3 h5 h4)
  have HM := Lib.hid (info_mark s k x h3 h5 h4)
  obtain ⟨F, hF⟩ : ∃ F, bits .or .u64 (bits .or .u64 (IntKind.u64.wrap (s : Int)) (IntKind.u64.wrap (IntKind.u64.wrap (k : Int) * 4294967296))) (IntKind.u64.wrap (IntKind.u64.wrap (x : Int) * 1099511627776)) = F := ⟨_, rfl⟩
  have hF2 : F = ((s + k * 4294967296 + x * 1099511627776 : Nat) : Int) := by
    have e1 : IntKind.u64.wrap (s : Int) = (s : Int) := by rw [wrap_u64_eq]; omega
    have e2 : IntKind.u64.wrap (k : Int) = (k : Int) := by rw [wrap_u64_eq]; omega
    have e3 : IntKind.u64.wrap (x : Int) = (x : Int) := by rw [wrap_u64_eq]; omega
    have e4 : IntKind.u64.wrap ((k : Int) * 4294967296) = (k : Int) * 4294967296 := by rw [wrap_u64_eq]; omega
    have e5 : IntKind.u64.wrap ((x : Int) * 1099511627776) = (x : Int) * 1099511627776 := by rw [wrap_u64_eq]; omega
    rw [← hF, e1, e2, e3, e4, e5, HF.out]
  obtain ⟨I, hI⟩ : ∃ I, infoL ⟨c, k, s, x, m⟩ = I := ⟨_, rfl⟩
  rw [hI]
  cases m
  · have HI : Hid (F = (I : Int)) := Lib.hid (by rw [hF2, ← hI]; unfold infoL; dsimp only; rw [if_neg (by decide), Nat.add_zero])
    clear ok h1 h2 hc h3 h4 h5 HF HM hF2 hI
    unfold hdV uV
    go_enter Try.func62, Try.ntmps62
    go_wp2_with fail
    refine (HC.out _).mono ?_; rintro e w1 ⟨rfl, hb1⟩
    have HB1 := Lib.hid hb1
    obtain ⟨hcl, hfz⟩ := bcell hb1
    have hz : w.heap.size + 1 < w1.heap.size := by have := hb1.size; simp at this; omega
    clear hb1
    go_wp2_with fail
    refine bodyPost_ret (v := .tuple #[.agg #[.int .u64 (c : Int), .int .u64 F], .int .i64 0]) (by simp [results, Try.results62, go_sem, hcl]) rfl ?_
    refine ⟨by rw [HI.out], ?_⟩
    exact ((((Below.refl _ _).alloc (Nat.le_refl _) _).alloc (by simp) _).trans (HB1.out.mono (by simp; omega))).setCell (by simp) _ |>.setCell (by simp) _
  · have HI : Hid (bits .or .u64 F 68719476736 = (I : Int)) := Lib.hid (by rw [hF2, HM.out, ← hI]; unfold infoL; dsimp only; simp only [if_true])
    clear ok h1 h2 hc h3 h4 h5 HF HM hF2 hI
    unfold hdV uV
    go_enter Try.func62, Try.ntmps62
    go_wp2_with fail
    refine (HC.out _).mono ?_; rintro e w1 ⟨rfl, hb1⟩
    have HB1 := Lib.hid hb1
    obtain ⟨hcl, hfz⟩ := bcell hb1
    have hz : w.heap.size + 1 < w1.heap.size := by have := hb1.size; simp at this; omega
    clear hb1
    go_wp2_with fail
    refine bodyPost_ret (v := .tuple #[.agg #[.int .u64 (c : Int), .int .u64 (bits .or .u64 F 68719476736)], .int .i64 0]) (by simp [results, Try.results62, go_sem, hcl]) rfl ?_
    refine ⟨by rw [HI.out], ?_⟩
    exact ((((Below.refl _ _).alloc (Nat.le_refl _) _).alloc (by simp) _).trans (HB1.out.mono (by simp; omega))).setCell (by simp) _ |>.setCell (by simp) _
/-- A block that lies behind w, its five cells stored anew: behind w nothing is other. -/
theorem blk_set5 {T k : Nat} {a b c d e : Value} {w : World} (h : Blk T k #[a, b, c, d, e] w) (a' b' c' d' e' : Value) :
    Blk T k #[a', b', c', d', e'] (((((w.setCell ⟨k, 0, none⟩ a').setCell ⟨k, 1, none⟩ b').setCell ⟨k, 2, none⟩ c').setCell ⟨k, 3, none⟩ d').setCell ⟨k, 4, none⟩ e') ∧
    ∀ B, B ≤ k → B ≤ w.heap.size → Below B w (((((w.setCell ⟨k, 0, none⟩ a').setCell ⟨k, 1, none⟩ b').setCell ⟨k, 2, none⟩ c').setCell ⟨k, 3, none⟩ d').setCell ⟨k, 4, none⟩ e') :=
  ⟨((((h.set_ 0 a' _ rfl).set_ 1 b' _ rfl).set_ 2 c' _ rfl).set_ 3 d' _ rfl).set_ 4 e' _ rfl,
    fun B hB hw => (((((Below.refl B w).setCell hB _).setCell hB _).setCell hB _).setCell hB _).setCell hB _⟩
set_option maxRecDepth 100000 in
set_option maxHeartbeats 1600000 in
theorem unpack_ok (h : Hdr) (ok : okB h = true) (hc : h.cls < 18446744073709551616) (w : World) :
    Calls Try.prog 75 #[.agg #[uV h.cls, uV (infoL h)]] w (Back (.tuple #[hdV h, .int .i64 0]) w) := by
  have HP := Lib.hid (fun w => pack_ok h ok hc w)
  have hh := head_info h ok
  obtain ⟨I, hI⟩ : ∃ I, infoL h = I := ⟨_, rfl⟩
  have hlt := info_lt h ok
  rw [hI] at HP hh hlt ⊢
  obtain ⟨c, k, s, x, m⟩ := h
  unfold headL at hh
  simp only [Hdr.mk.injEq, true_and] at hh
  obtain ⟨e1, e2, e3, e4⟩ := hh
  obtain ⟨h1, h2, h3, h4, h5⟩ := (okB_iff _).1 ok
  dsimp only at h1 h2 h3 h4 h5 hc
  clear h1 h2 hI hc
  have w1 : wrap64 (bits .and .u64 ((I : Int) / 4294967296) 15) = (k : Int) := by
    have := u64and (I / 4294967296) 15 (by omega) (by omega)
    have e := and_mask 4 (I / 4294967296) (by omega) (by omega)
    simp only [Nat.reducePow, Nat.reduceSub] at e
    rw [e, show ((I / 4294967296 : Nat) : Int) = (I : Int) / 4294967296 by omega, show ((15 : Nat) : Int) = 15 by rfl] at this
    rw [this, e1]; unfold wrap64; omega
  have w2 : wrap64 (bits .and .u64 (I : Int) 4294967295) = (s : Int) := by
    have := u64and I 4294967295 (by omega) (by omega)
    have e := and_mask 32 I (by omega) (by omega)
    simp only [Nat.reducePow, Nat.reduceSub] at e
    rw [e, show ((4294967295 : Nat) : Int) = 4294967295 by rfl] at this
    rw [this, e2]; unfold wrap64; omega
  have w3 : (I : Int) / 1099511627776 % 4294967296 = (x : Int) := by omega
  have w4 : (bits .and .u64 ((I : Int) / 68719476736) 1 == 1) = m := by
    rw [and_one _ (by omega) (by omega), ← e4, Bool.eq_iff_iff]; simp; omega
  unfold hdV uV at HP ⊢
  dsimp only at HP ⊢
  have hne : ((x : Int) == 0) = ((x : Int) == 0) := rfl
  clear ok h3 h4 h5 e1 e2 e3 e4 hlt hne
  obtain ⟨W1, hal1⟩ : ∃ W1, w.alloc (.cells #[.int .u64 (c : Int), .int .u64 (I : Int)] ART) = W1 := ⟨_, rfl⟩
  obtain ⟨W2, hal2⟩ : ∃ W2, W1.alloc (.cells #[.int .u64 0, .int .i64 0, .int .i64 0, .int .u32 0, .bool false] HDT) = W2 := ⟨_, rfl⟩
  obtain ⟨W3, hal3⟩ : ∃ W3, W2.alloc (.cells #[.int .u64 (c : Int), .int .i64 (k : Int), .int .i64 (s : Int), .int .u32 (x : Int), .bool m] HDT) = W3 := ⟨_, rfl⟩
  have b1 : Below w.heap.size w W1 := by rw [← hal1]; exact alloc_bel _ _
  have b2 : Below W1.heap.size W1 W2 := by rw [← hal2]; exact alloc_bel _ _
  have b3 : Below W2.heap.size W2 W3 := by rw [← hal3]; exact alloc_bel _ _
  have qA : Blk ART w.heap.size #[.int .u64 (c : Int), .int .u64 (I : Int)] W1 := by rw [← hal1]; exact Blk.made _
  have qB : Blk HDT W1.heap.size #[.int .u64 0, .int .i64 0, .int .i64 0, .int .u32 0, .bool false] W2 := by rw [← hal2]; exact Blk.made _
  have qC : Blk HDT W2.heap.size #[.int .u64 (c : Int), .int .i64 (k : Int), .int .i64 (s : Int), .int .u32 (x : Int), .bool m] W3 := by rw [← hal3]; exact Blk.made _
  have qA3 := (qA.below b2 qA.lt).below b3 (Nat.lt_of_lt_of_le qA.lt b2.size)
  have qB3 := qB.below b3 qB.lt
  have bb := (b1.trans (b2.mono b1.size)).trans (b3.mono (Nat.le_trans b1.size b2.size))
  have cA0 := qA.c 0 _ rfl
  have cA1 := qA.c 1 _ rfl
  have cA0' := qA3.c 0 _ rfl
  have cA1' := qA3.c 1 _ rfl
  have cC0 := qC.c 0 _ rfl
  have cC1 := qC.c 1 _ rfl
  have cC2 := qC.c 2 _ rfl
  have cC3 := qC.c 3 _ rfl
  have cC4 := qC.c 4 _ rfl
  have cW0 := (qA.below b2 qA.lt).c 0 _ rfl
  have cW1 := (qA.below b2 qA.lt).c 1 _ rfl
  have hl : w.heap.size < W3.heap.size := qA3.lt
  have QA := Lib.hid qA3; have QB := Lib.hid qB3; have QC := Lib.hid qC; have BB := Lib.hid bb
  have HLt := Lib.hid (show w.heap.size ≤ W1.heap.size from b1.size)
  clear b1 b2 b3 qA qB qC qA3 qB3 bb
  have heq := run_arr2 (c : Int) (I : Int)
  go_enter Try.func75, Try.ntmps75
  go_wp2_with fail
  refine (HP.out _).mono ?_; rintro e w1 ⟨rfl, hb1⟩
  obtain ⟨W4, hal4⟩ : ∃ W4, w1.alloc (.cells #[.int .u64 (c : Int), .int .u64 (I : Int)] ART) = W4 := ⟨_, rfl⟩
  have b4 : Below w1.heap.size w1 W4 := by rw [← hal4]; exact alloc_bel _ _
  have bb4 := hb1.trans (b4.mono hb1.size)
  have qA4 := QA.out.below bb4 QA.out.lt
  have qB4 := QB.out.below bb4 QB.out.lt
  have qC4 := QC.out.below bb4 QC.out.lt
  have qD4 : Blk ART w1.heap.size #[.int .u64 (c : Int), .int .u64 (I : Int)] W4 := by rw [← hal4]; exact Blk.made _
  have d0 := qA4.c 0 _ rfl
  have d1 := qA4.c 1 _ rfl
  have d2 := qD4.c 0 _ rfl
  have d3 := qD4.c 1 _ rfl
  have f0 := qC4.c 0 _ rfl
  have f1 := qC4.c 1 _ rfl
  have f2 := qC4.c 2 _ rfl
  have f3 := qC4.c 3 _ rfl
  have f4 := qC4.c 4 _ rfl
  have g0 := qB4.c 0 _ rfl
  have g1 := qB4.c 1 _ rfl
  have g2 := qB4.c 2 _ rfl
  have g3 := qB4.c 3 _ rfl
  have g4 := qB4.c 4 _ rfl
  have fz := qB4.fz
  have QB4 := Lib.hid qB4
  have BB4 := Lib.hid (BB.out.trans (bb4.mono BB.out.size))
  clear hb1 b4 bb4 qA4 qB4 qC4 qD4
  go_wp2_with fail
  obtain ⟨q1, bel1⟩ := blk_set5 QB4.out (.int .u64 (c : Int)) (.int .i64 (k : Int)) (.int .i64 (s : Int)) (.int .u32 (x : Int)) (.bool m)
  have hbf := BB4.out.trans (bel1 _ HLt.out BB4.out.size)
  generalize ((((W4.setCell ⟨W1.heap.size, 0, none⟩ (.int .u64 (c : Int))).setCell ⟨W1.heap.size, 1, none⟩ (.int .i64 (k : Int))).setCell ⟨W1.heap.size, 2, none⟩ (.int .i64 (s : Int))).setCell ⟨W1.heap.size, 3, none⟩ (.int .u32 (x : Int))).setCell ⟨W1.heap.size, 4, none⟩ (.bool m) = Wf at q1 hbf
  have r0 := q1.c 0 _ rfl
  have r1 := q1.c 1 _ rfl
  have r2 := q1.c 2 _ rfl
  have r3 := q1.c 3 _ rfl
  have r4 := q1.c 4 _ rfl
  refine bodyPost_ret (v := .tuple #[.agg #[.int .u64 (c : Int), .int .i64 (k : Int), .int .i64 (s : Int), .int .u32 (x : Int), .bool m], .int .i64 0]) (by simp [results, Try.results75, go_sem, r0, r1, r2, r3, r4]) rfl ?_
  exact ⟨rfl, hbf⟩
end Hp
end Go.Proofs.Ytojblndlchcjeaa
namespace Go.Proofs.Ytojblndlchcjeaa
open Go.RowKit
namespace Hp
open Bs Sm
theorem ret1 {a a' : Value} (h : a = a') : Ending.returned a = .returned a' := by rw [h]
theorem ret2 {a a' b b' : Value} (h : a = a') (h' : b = b') : Ending.returned (.tuple #[a, b]) = .returned (.tuple #[a', b']) := by rw [h, h']
theorem ret3 {a a' b b' c c' : Value} (h : a = a') (h' : b = b') (h'' : c = c') : Ending.returned (.tuple #[a, b, c]) = .returned (.tuple #[a', b', c']) := by rw [h, h', h'']
theorem below_drewN (w : World) (n : Nat) : Below w.heap.size w (w.drewN n) := ⟨rfl, rfl, rfl, Nat.le_refl _, fun _ _ => rfl⟩
theorem vint {k : IntKind} {a b : Int} (h : a = b) : Value.int k a = Value.int k b := by rw [h]
set_option maxHeartbeats 800000 in
theorem cells_ok (h : Hdr) (ok : okB h = true) (hc : h.cls < 18446744073709551616) (w : World) :
    Calls Try.prog 63 #[hdV h] w (Back (.int .i64 (cellsL h : Nat)) w) := by
  obtain ⟨c, k, s, x, m⟩ := h
  have HC0 := Lib.hid (fun w => check_any c (k : Int) (s : Int) x m w hc)
  rw [chk_ok ok] at HC0
  obtain ⟨h1, h2, h3, h4, h5⟩ := (okB_iff _).1 ok
  dsimp only at h1 h2 h3 h4 h5 hc
  clear ok h1 h2 h4 hc
  have b3 : (s : Int) ≤ 1048576 := by omega
  unfold hdV uV cellsL
  dsimp only
  by_cases hk : k = 2
  · subst hk
    have HC : Hid (∀ w, Calls Try.prog 76 #[.agg #[.int .u64 (c : Int), .int .i64 2, .int .i64 (s : Int), .int .u32 (x : Int), .bool m]] w (Back (.int .i64 0) w)) := Lib.hid HC0.out
    clear h5 HC0
    rw [if_pos rfl]
    obtain ⟨W1, hal1⟩ : ∃ W1, w.alloc (.cells #[.int .u64 (c : Int), .int .i64 2, .int .i64 (s : Int), .int .u32 (x : Int), .bool m] HDT) = W1 := ⟨_, rfl⟩
    have b1 : Below w.heap.size w W1 := by rw [← hal1]; exact alloc_bel _ _
    have qA : Blk HDT w.heap.size #[.int .u64 (c : Int), .int .i64 2, .int .i64 (s : Int), .int .u32 (x : Int), .bool m] W1 := by rw [← hal1]; exact Blk.made _
    have c0 := qA.c 0 _ rfl
    have c1 := qA.c 1 _ rfl
    have c2 := qA.c 2 _ rfl
    have c3 := qA.c 3 _ rfl
    have c4 := qA.c 4 _ rfl
    have QA := Lib.hid qA; have BB := Lib.hid b1
    clear qA b1
    go_enter Try.func63, Try.ntmps63
    go_wp2_with fail
    refine (HC.out _).mono ?_; rintro e w1 ⟨rfl, hb1⟩
    have qB := QA.out.below hb1 QA.out.lt
    have d1 := qB.c 1 _ rfl
    have d2 := qB.c 2 _ rfl
    have BB1 := Lib.hid (BB.out.trans (hb1.mono BB.out.size))
    clear hb1 qB
    go_wp2_with fail
    go_ret
    exact ⟨ret1 (vint (by first | rfl | omega)), BB1.out⟩
  · have hkb : ((k : Int) == 2) = false := by simp; omega
    rw [if_neg hk]
    have HC := Lib.hid HC0.out
    clear hk h5 HC0
    obtain ⟨W1, hal1⟩ : ∃ W1, w.alloc (.cells #[.int .u64 (c : Int), .int .i64 (k : Int), .int .i64 (s : Int), .int .u32 (x : Int), .bool m] HDT) = W1 := ⟨_, rfl⟩
    have b1 : Below w.heap.size w W1 := by rw [← hal1]; exact alloc_bel _ _
    have qA : Blk HDT w.heap.size #[.int .u64 (c : Int), .int .i64 (k : Int), .int .i64 (s : Int), .int .u32 (x : Int), .bool m] W1 := by rw [← hal1]; exact Blk.made _
    have c0 := qA.c 0 _ rfl
    have c1 := qA.c 1 _ rfl
    have c2 := qA.c 2 _ rfl
    have c3 := qA.c 3 _ rfl
    have c4 := qA.c 4 _ rfl
    have QA := Lib.hid qA; have BB := Lib.hid b1
    clear qA b1
    go_enter Try.func63, Try.ntmps63
    go_wp2_with fail
    refine (HC.out _).mono ?_; rintro e w1 ⟨rfl, hb1⟩
    have qB := QA.out.below hb1 QA.out.lt
    have d1 := qB.c 1 _ rfl
    have d2 := qB.c 2 _ rfl
    have BB1 := Lib.hid (BB.out.trans (hb1.mono BB.out.size))
    clear hb1 qB
    go_wp2_with fail
    go_ret
    exact ⟨ret1 (vint (by first | rfl | omega)), BB1.out⟩
set_option maxHeartbeats 400000 in
theorem pointer_ok (n : Nat) (h1 : 1 ≤ n) (h2 : n < 16777216) (w : World) :
    Calls Try.prog 66 #[.int .i64 (n : Int)] w (Done (.tuple #[uV (2 * n), .int .i64 0]) w) := by
  have b1 : decide ((n : Int) < 1) = false := by simp; omega
  have b1' : decide (n < 1) = false := by simp; omega
  have b2 : decide ((16777216 : Int) ≤ n) = false := by simp; omega
  have b2' : decide (16777216 ≤ n) = false := by simp; omega
  have HW := Lib.hid (show IntKind.u64.wrap (IntKind.u64.wrap (n : Int) * 2) = ((2 * n : Nat) : Int) by rw [wrap_u64_eq, wrap_u64_eq]; omega)
  unfold uV
  clear h1 h2
  obtain ⟨q, hq⟩ : ∃ q, ((2 * n : Nat) : Int) = q := ⟨_, rfl⟩
  rw [hq] at HW ⊢
  clear hq
  go_enter Try.func66, Try.ntmps66
  go_wp2_with fail
  go_ret2
  exact ⟨ret2 (vint HW.out) rfl, rfl⟩
/-- May a word be a pointer? -/
def okP (x : Nat) : Bool := !(x % 2 == 1) && !(x == 0) && decide (x / 2 < 16777216)
set_option maxHeartbeats 800000 in
theorem at_any (x : Nat) (hx : x < 18446744073709551616) (w : World) :
    Calls Try.prog 67 #[.int .u64 (x : Int)] w (Done (.tuple #[.int .i64 (if okP x = true then ((x / 2 : Nat) : Int) else 0), .int .i64 (if okP x = true then 0 else 13)]) w) := by
  have HI := Lib.hid (fun w => isw_any x w hx)
  have HX := Lib.hid hx
  clear hx
  by_cases h1 : x % 2 = 1
  · have e1 : (x % 2 == 1) = true := by simpa using h1
    have e2 : okP x = false := by unfold okP; rw [e1]; rfl
    rw [e1] at HI
    rw [if_neg (by rw [e2]; decide), if_neg (by rw [e2]; decide)]
    clear h1 e1 e2
    go_enter Try.func67, Try.ntmps67
    go_wp2_with fail
    refine (HI.out _).mono ?_; rintro e w1 ⟨rfl, rfl⟩
    go_wp2_with fail
    go_ret2
    exact ⟨rfl, rfl⟩
  · have e1 : (x % 2 == 1) = false := by simpa using h1
    rw [e1] at HI
    by_cases h2 : x = 0
    · subst h2
      have e2 : okP 0 = false := rfl
      rw [if_neg (by rw [e2]; decide), if_neg (by rw [e2]; decide)]
      have HI2 : Hid (∀ w, Calls Try.prog 74 #[.int .u64 0] w (Done (.bool false) w)) := Lib.hid HI.out
      clear h1 e1 e2
      go_enter Try.func67, Try.ntmps67
      go_wp2_with fail
      refine (HI2.out _).mono ?_; rintro e w1 ⟨rfl, rfl⟩
      go_wp2_with fail
      go_ret2
      exact ⟨rfl, rfl⟩
    · have e3 : ((x : Int) == 0) = false := by simpa using h2
      have e4 : (x == 0) = false := by simpa using h2
      by_cases h3 : x / 2 < 16777216
      · have e2 : okP x = true := by unfold okP; rw [e1, e4]; simpa using h3
        rw [if_pos e2, if_pos e2]
        have e5 : decide ((16777216 : Int) ≤ (x : Int) / 2) = false := by simp; omega
        have HW := Lib.hid (show wrap64 ((x : Int) / 2) = ((x / 2 : Nat) : Int) by unfold wrap64; omega)
        obtain ⟨q, hq⟩ : ∃ q, ((x / 2 : Nat) : Int) = q := ⟨_, rfl⟩
        rw [hq] at HW ⊢
        clear hq h1 e1 e2 h2 e4 h3
        go_enter Try.func67, Try.ntmps67
        go_wp2_with fail
        refine (HI.out _).mono ?_; rintro e w1 ⟨rfl, rfl⟩
        go_wp2_with fail
        go_ret2
        exact ⟨ret2 (vint HW.out) rfl, rfl⟩
      · have e2 : okP x = false := by unfold okP; rw [e1, e4]; simpa using h3
        rw [if_neg (by rw [e2]; decide), if_neg (by rw [e2]; decide)]
        have e5 : decide ((16777216 : Int) ≤ (x : Int) / 2) = true := by simp; omega
        clear h1 e1 e2 h2 e4 h3
        go_enter Try.func67, Try.ntmps67
        go_wp2_with fail
        refine (HI.out _).mono ?_; rintro e w1 ⟨rfl, rfl⟩
        go_wp2_with fail
        go_ret2
        exact ⟨rfl, rfl⟩
/-! ### pack.Bits -/
theorem wrap_pow (k : Nat) (hk : k < 64) : IntKind.u64.wrap (2 ^ k) = ((2 ^ k : Nat) : Int) := by
  have hp : 2 ^ k < 2 ^ 64 := Nat.pow_lt_pow_right (by omega) hk
  have e : (2 : Int) ^ k = ((2 ^ k : Nat) : Int) := by push_cast; rfl
  rw [e, wrap_u64_eq]
  obtain ⟨p, hp2⟩ : ∃ p, 2 ^ k = p := ⟨_, rfl⟩
  rw [hp2] at hp ⊢
  omega
set_option maxHeartbeats 800000 in
theorem place_in (sb wb n i : Nat) (ws : List Nat) (w : World) (hm : BitsM sb wb n ws w) (hi : i < n) (hn : n ≤ 16777216) :
    Calls Try.prog 77 #[.pointer (some ⟨sb, 0, none⟩), .int .i64 (i : Int)] w (Back (.tuple #[.int .i64 ((i / 64 : Nat) : Int), uV (2 ^ (i % 64)), .bool true]) w) := by
  have c0 := hm.st.c 0 _ rfl
  have hd : decide ((n : Int) ≤ (i : Int)) = false := by simp; omega
  have hd2 : decide (n ≤ i) = false := by simp; omega
  have hd3 : decide ((i : Int) < 0) = false := decide_eq_false (by omega)
  have ha : bits .and .i64 (i : Int) 63 = ((i % 64 : Nat) : Int) := i64_and63 i
  have hr : (0 : Int) ≤ ((i % 64 : Nat) : Int) := by omega
  have HW := Lib.hid (wrap_pow (i % 64) (Nat.mod_lt _ (by omega)))
  clear hm hi hn
  go_enter Try.func77, Try.ntmps77
  go_wp2_with fail
  go_quiet (fail)
  go_wp2_with fail
  go_ret3
  exact ⟨ret3 (vint (by omega)) (vint HW.out) rfl, below_drewN _ _⟩
set_option maxHeartbeats 800000 in
theorem place_out (sb wb n : Nat) (i : Int) (ws : List Nat) (w : World) (hm : BitsM sb wb n ws w) (hi : i < 0 ∨ (n : Int) ≤ i) :
    Calls Try.prog 77 #[.pointer (some ⟨sb, 0, none⟩), .int .i64 i] w (Back (.tuple #[.int .i64 0, uV 0, .bool false]) w) := by
  have c0 := hm.st.c 0 _ rfl
  by_cases h0 : i < 0
  · have hd3 : decide (i < 0) = true := by simpa using h0
    clear hm hi
    go_enter Try.func77, Try.ntmps77
    go_wp2_with fail
    go_ret3
    exact ⟨rfl, Below.refl _ _⟩
  · have hd3 : decide (i < 0) = false := by simpa using h0
    have hd : decide ((n : Int) ≤ i) = true := by simp; omega
    have h1 : (n : Int) ≤ i := by omega
    clear hm hi h0
    go_enter Try.func77, Try.ntmps77
    go_wp2_with fail
    go_ret3
    exact ⟨rfl, Below.refl _ _⟩
end Hp
end Go.Proofs.Ytojblndlchcjeaa
