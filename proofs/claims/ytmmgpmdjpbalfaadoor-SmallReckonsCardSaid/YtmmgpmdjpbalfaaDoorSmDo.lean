/- The law's and the reference's reckoning by number. Printed by wip/gen/gen_do.py. -/
import Derived.Test.YtmmgpmdjpbalfaaDoorSmRef3
set_option linter.unusedVariables false
namespace Go.Proofs.YtmmgpmdjpbalfaaDoor
open Go.RowKit
namespace Sm
set_option maxHeartbeats 1000000 in
theorem ldo0 (a b xv ev : Int) (w : World) (h : Calls Tryd.prog 23 #[.int .u64 a, .int .u64 b] w (Out2 xv ev w)) :
    Calls Tryd.prog 29 #[.int .i64 0, .int .u64 a, .int .u64 b] w (Out2 xv ev w) := by
  have H := Lib.hid h; clear h
  go_enter Tryd.func29, Tryd.ntmps29
  go_wp2_with (go_at_call 23; go_must (refine H.out.mono ?_); rintro e w' ⟨rfl, hb⟩)
  go_ret2
  exact ⟨rfl, hb⟩
set_option maxHeartbeats 1000000 in
theorem ldo1 (a b xv ev : Int) (w : World) (h : Calls Tryd.prog 19 #[.int .u64 a, .int .u64 b] w (Out2 xv ev w)) :
    Calls Tryd.prog 29 #[.int .i64 1, .int .u64 a, .int .u64 b] w (Out2 xv ev w) := by
  have H := Lib.hid h; clear h
  go_enter Tryd.func29, Tryd.ntmps29
  go_wp2_with (go_at_call 19; go_must (refine H.out.mono ?_); rintro e w' ⟨rfl, hb⟩)
  go_ret2
  exact ⟨rfl, hb⟩
set_option maxHeartbeats 1000000 in
theorem ldo2 (a b xv ev : Int) (w : World) (h : Calls Tryd.prog 48 #[.int .u64 a, .int .u64 b] w (Out2 xv ev w)) :
    Calls Tryd.prog 29 #[.int .i64 2, .int .u64 a, .int .u64 b] w (Out2 xv ev w) := by
  have H := Lib.hid h; clear h
  go_enter Tryd.func29, Tryd.ntmps29
  go_wp2_with (go_at_call 48; go_must (refine H.out.mono ?_); rintro e w' ⟨rfl, hb⟩)
  go_ret2
  exact ⟨rfl, hb⟩
set_option maxHeartbeats 1000000 in
theorem ldo3 (a b xv ev : Int) (w : World) (h : Calls Tryd.prog 24 #[.int .u64 a, .int .u64 b] w (Out2 xv ev w)) :
    Calls Tryd.prog 29 #[.int .i64 3, .int .u64 a, .int .u64 b] w (Out2 xv ev w) := by
  have H := Lib.hid h; clear h
  go_enter Tryd.func29, Tryd.ntmps29
  go_wp2_with (go_at_call 24; go_must (refine H.out.mono ?_); rintro e w' ⟨rfl, hb⟩)
  go_ret2
  exact ⟨rfl, hb⟩
set_option maxHeartbeats 1000000 in
theorem ldo4 (a b xv ev : Int) (w : World) (h : Calls Tryd.prog 25 #[.int .u64 a, .int .u64 b] w (Out2 xv ev w)) :
    Calls Tryd.prog 29 #[.int .i64 4, .int .u64 a, .int .u64 b] w (Out2 xv ev w) := by
  have H := Lib.hid h; clear h
  go_enter Tryd.func29, Tryd.ntmps29
  go_wp2_with (go_at_call 25; go_must (refine H.out.mono ?_); rintro e w' ⟨rfl, hb⟩)
  go_ret2
  exact ⟨rfl, hb⟩
set_option maxHeartbeats 1000000 in
theorem ldo5 (a b xv ev : Int) (w : World) (h : Calls Tryd.prog 26 #[.int .u64 a, .int .u64 b] w (Out2 xv ev w)) :
    Calls Tryd.prog 29 #[.int .i64 5, .int .u64 a, .int .u64 b] w (Out2 xv ev w) := by
  have H := Lib.hid h; clear h
  go_enter Tryd.func29, Tryd.ntmps29
  go_wp2_with (go_at_call 26; go_must (refine H.out.mono ?_); rintro e w' ⟨rfl, hb⟩)
  go_ret2
  exact ⟨rfl, hb⟩
set_option maxHeartbeats 1000000 in
theorem ldo6 (a b xv ev : Int) (w : World) (h : Calls Tryd.prog 27 #[.int .u64 a, .int .u64 b] w (Out2 xv ev w)) :
    Calls Tryd.prog 29 #[.int .i64 6, .int .u64 a, .int .u64 b] w (Out2 xv ev w) := by
  have H := Lib.hid h; clear h
  go_enter Tryd.func29, Tryd.ntmps29
  go_wp2_with (go_at_call 27; go_must (refine H.out.mono ?_); rintro e w' ⟨rfl, hb⟩)
  go_ret2
  exact ⟨rfl, hb⟩
set_option maxHeartbeats 1000000 in
theorem ldo7 (a b xv ev : Int) (w : World) (h : Calls Tryd.prog 20 #[.int .u64 a, .int .u64 b] w (Out2 xv ev w)) :
    Calls Tryd.prog 29 #[.int .i64 7, .int .u64 a, .int .u64 b] w (Out2 xv ev w) := by
  have H := Lib.hid h; clear h
  go_enter Tryd.func29, Tryd.ntmps29
  go_wp2_with (go_at_call 20; go_must (refine H.out.mono ?_); rintro e w' ⟨rfl, hb⟩)
  go_ret2
  exact ⟨rfl, hb⟩
set_option maxHeartbeats 1000000 in
theorem ldo8 (a b xv ev : Int) (w : World) (h : Calls Tryd.prog 21 #[.int .u64 a, .int .u64 b] w (Out2 xv ev w)) :
    Calls Tryd.prog 29 #[.int .i64 8, .int .u64 a, .int .u64 b] w (Out2 xv ev w) := by
  have H := Lib.hid h; clear h
  go_enter Tryd.func29, Tryd.ntmps29
  go_wp2_with (go_at_call 21; go_must (refine H.out.mono ?_); rintro e w' ⟨rfl, hb⟩)
  go_ret2
  exact ⟨rfl, hb⟩
set_option maxHeartbeats 1000000 in
theorem ldo9 (a b xv ev : Int) (w : World) (h : Calls Tryd.prog 22 #[.int .u64 a, .int .u64 b] w (Out2 xv ev w)) :
    Calls Tryd.prog 29 #[.int .i64 9, .int .u64 a, .int .u64 b] w (Out2 xv ev w) := by
  have H := Lib.hid h; clear h
  go_enter Tryd.func29, Tryd.ntmps29
  go_wp2_with (go_at_call 22; go_must (refine H.out.mono ?_); rintro e w' ⟨rfl, hb⟩)
  go_ret2
  exact ⟨rfl, hb⟩
set_option maxHeartbeats 1000000 in
theorem ldo10 (a b xv ev : Int) (w : World) (h : Calls Tryd.prog 28 #[.int .u64 a, .int .u64 b] w (Out2 xv ev w)) :
    Calls Tryd.prog 29 #[.int .i64 10, .int .u64 a, .int .u64 b] w (Out2 xv ev w) := by
  have H := Lib.hid h; clear h
  go_enter Tryd.func29, Tryd.ntmps29
  go_wp2_with (go_at_call 28; go_must (refine H.out.mono ?_); rintro e w' ⟨rfl, hb⟩)
  go_ret2
  exact ⟨rfl, hb⟩
set_option maxHeartbeats 1000000 in
theorem rdo0_in (x y : Int) (w : World) (hx : Inr x) (hy : Inr y) (hr : Inr (x + y)) :
    Calls Tryd.prog 30 #[.int .i64 0, .int .i64 x, .int .i64 y] w (Done (.tuple #[.int .i64 (x + y), .int .i64 0]) w) := by
  obtain ⟨x1, x2⟩ := (show -4611686018427387904 ≤ x ∧ x ≤ 4611686018427387903 from hx)
  obtain ⟨y1, y2⟩ := (show -4611686018427387904 ≤ y ∧ y ≤ 4611686018427387903 from hy)
  go_enter Tryd.func30, Tryd.ntmps30
  go_wp2_with (first
    | (go_at_call 12; go_must (refine (rnumber_in _ _ (by assumption)).mono ?_); rintro e w' ⟨rfl, rfl⟩)
    | fail)
  go_ret2
  exact ⟨rfl, rfl⟩
set_option maxHeartbeats 1000000 in
theorem rdo0_out (x y : Int) (w : World) (hx : Inr x) (hy : Inr y) (hr : ¬ Inr (x + y)) :
    Calls Tryd.prog 30 #[.int .i64 0, .int .i64 x, .int .i64 y] w (Done (.tuple #[.int .i64 (0), .int .i64 9]) w) := by
  obtain ⟨x1, x2⟩ := (show -4611686018427387904 ≤ x ∧ x ≤ 4611686018427387903 from hx)
  obtain ⟨y1, y2⟩ := (show -4611686018427387904 ≤ y ∧ y ≤ 4611686018427387903 from hy)
  go_enter Tryd.func30, Tryd.ntmps30
  go_wp2_with (first
    | (go_at_call 12; go_must (refine (rnumber_out _ _ (by assumption)).mono ?_); rintro e w' ⟨rfl, rfl⟩)
    | fail)
  go_ret2
  exact ⟨rfl, rfl⟩
set_option maxHeartbeats 1000000 in
theorem rdo1_in (x y : Int) (w : World) (hx : Inr x) (hy : Inr y) (hr : Inr (x - y)) :
    Calls Tryd.prog 30 #[.int .i64 1, .int .i64 x, .int .i64 y] w (Done (.tuple #[.int .i64 (x - y), .int .i64 0]) w) := by
  obtain ⟨x1, x2⟩ := (show -4611686018427387904 ≤ x ∧ x ≤ 4611686018427387903 from hx)
  obtain ⟨y1, y2⟩ := (show -4611686018427387904 ≤ y ∧ y ≤ 4611686018427387903 from hy)
  go_enter Tryd.func30, Tryd.ntmps30
  go_wp2_with (first
    | (go_at_call 12; go_must (refine (rnumber_in _ _ (by assumption)).mono ?_); rintro e w' ⟨rfl, rfl⟩)
    | fail)
  go_ret2
  exact ⟨rfl, rfl⟩
set_option maxHeartbeats 1000000 in
theorem rdo1_out (x y : Int) (w : World) (hx : Inr x) (hy : Inr y) (hr : ¬ Inr (x - y)) :
    Calls Tryd.prog 30 #[.int .i64 1, .int .i64 x, .int .i64 y] w (Done (.tuple #[.int .i64 (0), .int .i64 9]) w) := by
  obtain ⟨x1, x2⟩ := (show -4611686018427387904 ≤ x ∧ x ≤ 4611686018427387903 from hx)
  obtain ⟨y1, y2⟩ := (show -4611686018427387904 ≤ y ∧ y ≤ 4611686018427387903 from hy)
  go_enter Tryd.func30, Tryd.ntmps30
  go_wp2_with (first
    | (go_at_call 12; go_must (refine (rnumber_out _ _ (by assumption)).mono ?_); rintro e w' ⟨rfl, rfl⟩)
    | fail)
  go_ret2
  exact ⟨rfl, rfl⟩
set_option maxHeartbeats 1000000 in
theorem rdo7_in (x y : Int) (w : World) (hx : Inr x) (hy : Inr y) (hr : Inr (bits .and .i64 x y)) :
    Calls Tryd.prog 30 #[.int .i64 7, .int .i64 x, .int .i64 y] w (Done (.tuple #[.int .i64 (bits .and .i64 x y), .int .i64 0]) w) := by
  obtain ⟨x1, x2⟩ := (show -4611686018427387904 ≤ x ∧ x ≤ 4611686018427387903 from hx)
  obtain ⟨y1, y2⟩ := (show -4611686018427387904 ≤ y ∧ y ≤ 4611686018427387903 from hy)
  go_enter Tryd.func30, Tryd.ntmps30
  go_wp2_with (first
    | (go_at_call 12; go_must (refine (rnumber_in _ _ (by assumption)).mono ?_); rintro e w' ⟨rfl, rfl⟩)
    | fail)
  go_ret2
  exact ⟨rfl, rfl⟩
set_option maxHeartbeats 1000000 in
theorem rdo7_out (x y : Int) (w : World) (hx : Inr x) (hy : Inr y) (hr : ¬ Inr (bits .and .i64 x y)) :
    Calls Tryd.prog 30 #[.int .i64 7, .int .i64 x, .int .i64 y] w (Done (.tuple #[.int .i64 (0), .int .i64 9]) w) := by
  obtain ⟨x1, x2⟩ := (show -4611686018427387904 ≤ x ∧ x ≤ 4611686018427387903 from hx)
  obtain ⟨y1, y2⟩ := (show -4611686018427387904 ≤ y ∧ y ≤ 4611686018427387903 from hy)
  go_enter Tryd.func30, Tryd.ntmps30
  go_wp2_with (first
    | (go_at_call 12; go_must (refine (rnumber_out _ _ (by assumption)).mono ?_); rintro e w' ⟨rfl, rfl⟩)
    | fail)
  go_ret2
  exact ⟨rfl, rfl⟩
set_option maxHeartbeats 1000000 in
theorem rdo8_in (x y : Int) (w : World) (hx : Inr x) (hy : Inr y) (hr : Inr (bits .or .i64 x y)) :
    Calls Tryd.prog 30 #[.int .i64 8, .int .i64 x, .int .i64 y] w (Done (.tuple #[.int .i64 (bits .or .i64 x y), .int .i64 0]) w) := by
  obtain ⟨x1, x2⟩ := (show -4611686018427387904 ≤ x ∧ x ≤ 4611686018427387903 from hx)
  obtain ⟨y1, y2⟩ := (show -4611686018427387904 ≤ y ∧ y ≤ 4611686018427387903 from hy)
  go_enter Tryd.func30, Tryd.ntmps30
  go_wp2_with (first
    | (go_at_call 12; go_must (refine (rnumber_in _ _ (by assumption)).mono ?_); rintro e w' ⟨rfl, rfl⟩)
    | fail)
  go_ret2
  exact ⟨rfl, rfl⟩
set_option maxHeartbeats 1000000 in
theorem rdo8_out (x y : Int) (w : World) (hx : Inr x) (hy : Inr y) (hr : ¬ Inr (bits .or .i64 x y)) :
    Calls Tryd.prog 30 #[.int .i64 8, .int .i64 x, .int .i64 y] w (Done (.tuple #[.int .i64 (0), .int .i64 9]) w) := by
  obtain ⟨x1, x2⟩ := (show -4611686018427387904 ≤ x ∧ x ≤ 4611686018427387903 from hx)
  obtain ⟨y1, y2⟩ := (show -4611686018427387904 ≤ y ∧ y ≤ 4611686018427387903 from hy)
  go_enter Tryd.func30, Tryd.ntmps30
  go_wp2_with (first
    | (go_at_call 12; go_must (refine (rnumber_out _ _ (by assumption)).mono ?_); rintro e w' ⟨rfl, rfl⟩)
    | fail)
  go_ret2
  exact ⟨rfl, rfl⟩
set_option maxHeartbeats 1000000 in
theorem rdo9_in (x y : Int) (w : World) (hx : Inr x) (hy : Inr y) (hr : Inr (bits .xor .i64 x y)) :
    Calls Tryd.prog 30 #[.int .i64 9, .int .i64 x, .int .i64 y] w (Done (.tuple #[.int .i64 (bits .xor .i64 x y), .int .i64 0]) w) := by
  obtain ⟨x1, x2⟩ := (show -4611686018427387904 ≤ x ∧ x ≤ 4611686018427387903 from hx)
  obtain ⟨y1, y2⟩ := (show -4611686018427387904 ≤ y ∧ y ≤ 4611686018427387903 from hy)
  go_enter Tryd.func30, Tryd.ntmps30
  go_wp2_with (first
    | (go_at_call 12; go_must (refine (rnumber_in _ _ (by assumption)).mono ?_); rintro e w' ⟨rfl, rfl⟩)
    | fail)
  go_ret2
  exact ⟨rfl, rfl⟩
set_option maxHeartbeats 1000000 in
theorem rdo9_out (x y : Int) (w : World) (hx : Inr x) (hy : Inr y) (hr : ¬ Inr (bits .xor .i64 x y)) :
    Calls Tryd.prog 30 #[.int .i64 9, .int .i64 x, .int .i64 y] w (Done (.tuple #[.int .i64 (0), .int .i64 9]) w) := by
  obtain ⟨x1, x2⟩ := (show -4611686018427387904 ≤ x ∧ x ≤ 4611686018427387903 from hx)
  obtain ⟨y1, y2⟩ := (show -4611686018427387904 ≤ y ∧ y ≤ 4611686018427387903 from hy)
  go_enter Tryd.func30, Tryd.ntmps30
  go_wp2_with (first
    | (go_at_call 12; go_must (refine (rnumber_out _ _ (by assumption)).mono ?_); rintro e w' ⟨rfl, rfl⟩)
    | fail)
  go_ret2
  exact ⟨rfl, rfl⟩
set_option maxHeartbeats 1000000 in
theorem rdo3_nought (x : Int) (w : World) :
    Calls Tryd.prog 30 #[.int .i64 3, .int .i64 x, .int .i64 0] w (Done (.tuple #[.int .i64 0, .int .i64 1]) w) := by
  go_enter Tryd.func30, Tryd.ntmps30
  go_wp2
  go_ret2
  exact ⟨rfl, rfl⟩
set_option maxHeartbeats 1000000 in
theorem rdo4_nought (x : Int) (w : World) :
    Calls Tryd.prog 30 #[.int .i64 4, .int .i64 x, .int .i64 0] w (Done (.tuple #[.int .i64 0, .int .i64 1]) w) := by
  go_enter Tryd.func30, Tryd.ntmps30
  go_wp2
  go_ret2
  exact ⟨rfl, rfl⟩
set_option maxHeartbeats 1000000 in
theorem rdo5_nought (x : Int) (w : World) :
    Calls Tryd.prog 30 #[.int .i64 5, .int .i64 x, .int .i64 0] w (Done (.tuple #[.int .i64 0, .int .i64 1]) w) := by
  go_enter Tryd.func30, Tryd.ntmps30
  go_wp2
  go_ret2
  exact ⟨rfl, rfl⟩
set_option maxHeartbeats 1000000 in
theorem rdo6_nought (x : Int) (w : World) :
    Calls Tryd.prog 30 #[.int .i64 6, .int .i64 x, .int .i64 0] w (Done (.tuple #[.int .i64 0, .int .i64 1]) w) := by
  go_enter Tryd.func30, Tryd.ntmps30
  go_wp2
  go_ret2
  exact ⟨rfl, rfl⟩
set_option maxHeartbeats 1000000 in
theorem rdo3_in (x y : Int) (w : World) (hx : Inr x) (hy : Inr y) (hn : ¬ y = 0) (hr : Inr (fl x y)) :
    Calls Tryd.prog 30 #[.int .i64 3, .int .i64 x, .int .i64 y] w (Done (.tuple #[.int .i64 (fl x y), .int .i64 0]) w) := by
  go_enter Tryd.func30, Tryd.ntmps30
  go_wp2_with (first
    | (go_at_call 12; go_must (refine (rnumber_in _ _ (by assumption)).mono ?_); rintro e w' ⟨rfl, rfl⟩)
    | (go_at_call 50; go_must (refine (rfloor_any _ _ _ hx hy hn).mono ?_); rintro e w' ⟨rfl, rfl⟩))
  go_ret2
  exact ⟨rfl, rfl⟩
set_option maxHeartbeats 1000000 in
theorem rdo3_out (x y : Int) (w : World) (hx : Inr x) (hy : Inr y) (hn : ¬ y = 0) (hr : ¬ Inr (fl x y)) :
    Calls Tryd.prog 30 #[.int .i64 3, .int .i64 x, .int .i64 y] w (Done (.tuple #[.int .i64 (0), .int .i64 9]) w) := by
  go_enter Tryd.func30, Tryd.ntmps30
  go_wp2_with (first
    | (go_at_call 12; go_must (refine (rnumber_out _ _ (by assumption)).mono ?_); rintro e w' ⟨rfl, rfl⟩)
    | (go_at_call 50; go_must (refine (rfloor_any _ _ _ hx hy hn).mono ?_); rintro e w' ⟨rfl, rfl⟩))
  go_ret2
  exact ⟨rfl, rfl⟩
set_option maxHeartbeats 1000000 in
theorem rdo4_in (x y : Int) (w : World) (hx : Inr x) (hy : Inr y) (hn : ¬ y = 0) (hr : Inr (md x y)) :
    Calls Tryd.prog 30 #[.int .i64 4, .int .i64 x, .int .i64 y] w (Done (.tuple #[.int .i64 (md x y), .int .i64 0]) w) := by
  have hm : wrap64 (fl x y * y) = fl x y * y := by
    have e := fl_md x y
    have := md_bd x y hn
    apply wr; unfold Inr at hx hy; omega
  have hw : wrap64 (x - fl x y * y) = md x y := wr (by unfold Inr at hr; unfold md at hr; omega)
  go_enter Tryd.func30, Tryd.ntmps30
  go_wp2_with (first
    | (go_at_call 12; go_must (refine (rnumber_in _ _ (by assumption)).mono ?_); rintro e w' ⟨rfl, rfl⟩)
    | (go_at_call 50; go_must (refine (rfloor_any _ _ _ hx hy hn).mono ?_); rintro e w' ⟨rfl, rfl⟩))
  go_ret2
  exact ⟨rfl, rfl⟩
set_option maxHeartbeats 1000000 in
theorem rdo5_in (x y : Int) (w : World) (hx : Inr x) (hy : Inr y) (hn : ¬ y = 0) (hr : Inr (x.tdiv y)) :
    Calls Tryd.prog 30 #[.int .i64 5, .int .i64 x, .int .i64 y] w (Done (.tuple #[.int .i64 (x.tdiv y), .int .i64 0]) w) := by
  obtain ⟨t1, t2, t3, t4, t5⟩ := tdm x y hn
  have hw : wrap64 (x.tdiv y) = x.tdiv y := wr (by unfold Inr at hx; omega)
  clear t1 t2 t3 t4 t5
  go_enter Tryd.func30, Tryd.ntmps30
  go_wp2_with (first
    | (go_at_call 12; go_must (refine (rnumber_in _ _ (by assumption)).mono ?_); rintro e w' ⟨rfl, rfl⟩)
    | fail)
  go_ret2
  exact ⟨rfl, rfl⟩
set_option maxHeartbeats 1000000 in
theorem rdo5_out (x y : Int) (w : World) (hx : Inr x) (hy : Inr y) (hn : ¬ y = 0) (hr : ¬ Inr (x.tdiv y)) :
    Calls Tryd.prog 30 #[.int .i64 5, .int .i64 x, .int .i64 y] w (Done (.tuple #[.int .i64 (0), .int .i64 9]) w) := by
  obtain ⟨t1, t2, t3, t4, t5⟩ := tdm x y hn
  have hw : wrap64 (x.tdiv y) = x.tdiv y := wr (by unfold Inr at hx; omega)
  clear t1 t2 t3 t4 t5
  go_enter Tryd.func30, Tryd.ntmps30
  go_wp2_with (first
    | (go_at_call 12; go_must (refine (rnumber_out _ _ (by assumption)).mono ?_); rintro e w' ⟨rfl, rfl⟩)
    | fail)
  go_ret2
  exact ⟨rfl, rfl⟩
set_option maxHeartbeats 1000000 in
theorem rdo6_in (x y : Int) (w : World) (hx : Inr x) (hy : Inr y) (hn : ¬ y = 0) (hr : Inr (x.tmod y)) :
    Calls Tryd.prog 30 #[.int .i64 6, .int .i64 x, .int .i64 y] w (Done (.tuple #[.int .i64 (x.tmod y), .int .i64 0]) w) := by
  obtain ⟨t1, t2, t3, t4, t5⟩ := tdm x y hn
  have hw : wrap64 (x.tdiv y) = x.tdiv y := wr (by unfold Inr at hx; omega)
  have hc : x.tdiv y * y = y * x.tdiv y := Int.mul_comm _ _
  have hm : wrap64 (x.tdiv y * y) = x.tdiv y * y := wr (by rw [hc]; unfold Inr at hx hy; omega)
  have hv : wrap64 (x - x.tdiv y * y) = x.tmod y := by rw [wr (by rw [hc]; unfold Inr at hx hy; omega), hc]; omega
  clear t1 t2 t3 t4 t5 hc
  go_enter Tryd.func30, Tryd.ntmps30
  go_wp2_with (first
    | (go_at_call 12; go_must (refine (rnumber_in _ _ (by assumption)).mono ?_); rintro e w' ⟨rfl, rfl⟩)
    | fail)
  go_ret2
  exact ⟨rfl, rfl⟩
set_option maxHeartbeats 1000000 in
theorem rdo2_in (x y : Int) (w : World) (hx : Inr x) (hy : Inr y) (hr : Inr (x * y)) :
    Calls Tryd.prog 30 #[.int .i64 2, .int .i64 x, .int .i64 y] w (Done (.tuple #[.int .i64 (x * y), .int .i64 0]) w) := by
  have hle : x * y ≤ 4611686018427387903 := hr.2
  go_enter Tryd.func30, Tryd.ntmps30
  go_wp2_with fail
  refine (rtimes_any x y _ hx hy).mono ?_
  rintro e w' ⟨rfl, ⟨_, rfl⟩ | ⟨hbig, _⟩⟩
  · go_wp2_with (go_at_call 12; go_must (refine (rnumber_in _ _ (by assumption)).mono ?_); rintro e w' ⟨rfl, rfl⟩)
    go_ret2
    exact ⟨rfl, rfl⟩
  · exfalso
    have e : (x * y).natAbs = x.natAbs * y.natAbs := Int.natAbs_mul x y
    unfold Inr at hr; omega
set_option maxHeartbeats 1000000 in
theorem rdo2_out (x y : Int) (w : World) (hx : Inr x) (hy : Inr y) (hr : ¬ Inr (x * y)) :
    Calls Tryd.prog 30 #[.int .i64 2, .int .i64 x, .int .i64 y] w (Done (.tuple #[.int .i64 0, .int .i64 9]) w) := by
  go_enter Tryd.func30, Tryd.ntmps30
  go_wp2_with fail
  refine (rtimes_any x y _ hx hy).mono ?_
  rintro e w' ⟨rfl, ⟨hle, rfl⟩ | ⟨hbig, rfl⟩⟩
  · have hd : decide (x * y ≤ 4611686018427387903) = false := by
      have e : (x * y).natAbs = x.natAbs * y.natAbs := Int.natAbs_mul x y
      unfold Inr at hr
      rw [decide_eq_false_iff_not]; omega
    rw [hd]
    go_wp2_with fail
    go_ret2
    exact ⟨rfl, rfl⟩
  · go_wp2_with fail
    go_ret2
    exact ⟨rfl, rfl⟩
set_option maxHeartbeats 1000000 in
theorem rdo10_right (x y : Int) (w : World) (hx : Inr x) (hy : Inr y) (hn : y < 0) (hr : Inr (shf x y)) :
    Calls Tryd.prog 30 #[.int .i64 10, .int .i64 x, .int .i64 y] w (Done (.tuple #[.int .i64 (shf x y), .int .i64 0]) w) := by
  go_enter Tryd.func30, Tryd.ntmps30
  go_wp2_with (first
    | (go_at_call 51; go_must (refine (rshift_right _ _ _ hx hy hn).mono ?_); rintro e w' ⟨rfl, rfl⟩)
    | (go_at_call 12; go_must (refine (rnumber_in _ _ (by assumption)).mono ?_); rintro e w' ⟨rfl, rfl⟩))
  go_ret2
  exact ⟨rfl, rfl⟩
set_option maxHeartbeats 1000000 in
theorem rdo10_in (x : Int) (y : Nat) (w : World) (hx : Inr x) (hy : (y : Int) ≤ 4611686018427387903) (hr : Inr (x * 2 ^ y)) :
    Calls Tryd.prog 30 #[.int .i64 10, .int .i64 x, .int .i64 y] w (Done (.tuple #[.int .i64 (x * 2 ^ y), .int .i64 0]) w) := by
  go_enter Tryd.func30, Tryd.ntmps30
  go_wp2_with fail
  refine (rshift_left x y _ hx hy).mono ?_
  rintro e w' ⟨rfl, ⟨_, rfl⟩ | ⟨hbig, _⟩⟩
  · go_wp2_with (go_at_call 12; go_must (refine (rnumber_in _ _ (by assumption)).mono ?_); rintro e w' ⟨rfl, rfl⟩)
    go_ret2
    exact ⟨rfl, rfl⟩
  · exact absurd hr hbig
set_option maxHeartbeats 1000000 in
theorem rdo10_out (x : Int) (y : Nat) (w : World) (hx : Inr x) (hy : (y : Int) ≤ 4611686018427387903) (hr : ¬ Inr (x * 2 ^ y)) :
    Calls Tryd.prog 30 #[.int .i64 10, .int .i64 x, .int .i64 y] w (Done (.tuple #[.int .i64 0, .int .i64 9]) w) := by
  go_enter Tryd.func30, Tryd.ntmps30
  go_wp2_with fail
  refine (rshift_left x y _ hx hy).mono ?_
  rintro e w' ⟨rfl, ⟨hin, _⟩ | ⟨_, rfl⟩⟩
  · exact absurd hin hr
  · go_wp2_with fail
    go_ret2
    exact ⟨rfl, rfl⟩
end Sm
end Go.Proofs.YtmmgpmdjpbalfaaDoor
