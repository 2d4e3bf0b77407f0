/- Contracts of package small's inner rules: floor, mod, quotient, remainder, shift, times. -/
import Derived.Test.YtmmgpmdjpbalfaaDoorSmOps1
import Derived.Test.YtmmgpmdjpbalfaaDoorSmMath
import Derived.Test.YtmmgpmdjpbalfaaDoorShelf
set_option linter.unusedVariables false
namespace Go.Proofs.YtmmgpmdjpbalfaaDoor
open Go.RowKit
namespace Sm
theorem wr {q : Int} (h : -9223372036854775808 ≤ q ∧ q ≤ 9223372036854775807) : wrap64 q = q := IntWalk.wrap64_in q h

set_option maxHeartbeats 1000000 in
theorem quo_rule (x y : Int) (w : World) (hx : Inr x) (hy : Inr y) (hn : ¬ y = 0) :
    Calls Tryd.prog 45 #[.int .i64 x, .int .i64 y] w (Done (.int .i64 (x.tdiv y)) w) := by
  obtain ⟨_, _, _, _, t5⟩ := tdm x y hn
  have hw : wrap64 (x.tdiv y) = x.tdiv y := wr (by unfold Inr at hx; omega)
  have HW := Lib.hid hw; clear hw t5 hx hy
  go_enter Tryd.func45, Tryd.ntmps45
  go_wp2
  go_ret
  exact ⟨ret1 (vint HW.out), rfl⟩
set_option maxHeartbeats 1000000 in
theorem rem_rule (x y : Int) (w : World) (hn : ¬ y = 0) :
    Calls Tryd.prog 46 #[.int .i64 x, .int .i64 y] w (Done (.int .i64 (x.tmod y)) w) := by
  go_enter Tryd.func46, Tryd.ntmps46
  go_wp2
  go_ret
  exact ⟨rfl, rfl⟩
set_option maxHeartbeats 1000000 in
theorem floor_rule (x y : Int) (w : World) (hx : Inr x) (hy : Inr y) (hn : ¬ y = 0) :
    Calls Tryd.prog 43 #[.int .i64 x, .int .i64 y] w (Done (.int .i64 (fl x y)) w) := by
  obtain ⟨_, _, _, _, t5⟩ := tdm x y hn
  obtain ⟨q, hq⟩ : ∃ q, wrap64 (x.tdiv y) = q := ⟨_, rfl⟩
  have hw : wrap64 (x.tdiv y) = x.tdiv y := wr (by unfold Inr at hx; omega)
  have q1 : -4611686018427387904 ≤ q ∧ q ≤ 4611686018427387904 := by rw [← hq, hw]; unfold Inr at hx; omega
  have HF : Hid (fl x y = if x.tmod y ≠ 0 ∧ (x < 0 ↔ ¬ y < 0) then q - 1 else q) := Lib.hid (by rw [← hq, hw]; rfl)
  obtain ⟨q2, q3⟩ := q1
  clear hw t5 hx hy
  obtain ⟨r, hr⟩ : ∃ r, x.tmod y = r := ⟨_, rfl⟩
  rw [hr] at HF
  have hc : fl x y = if (r != 0) && (decide (x < 0) != decide (y < 0)) then q - 1 else q := by
    rw [HF.out]
    by_cases h1 : r = 0 <;> by_cases h2 : x < 0 <;> by_cases h3 : y < 0 <;> simp [h1, h2, h3]
  clear HF
  have HC := Lib.hid hc; clear hc
  cases h1 : (r != 0) <;> cases h2 : decide (x < 0) <;> cases h3 : decide (y < 0)
  all_goals
    have hf := HC.out
    rw [h1, h2, h3] at hf
    have H := Lib.hid hf; clear hf HC
    go_enter Tryd.func43, Tryd.ntmps43
    go_wp2
    go_ret
    exact ⟨ret1 (vint (by rw [H.out]; first | rfl | exact hq | (rw [hq]; rfl))), rfl⟩
set_option maxHeartbeats 1000000 in
theorem mod_rule (x y : Int) (w : World) (hx : Inr x) (hy : Inr y) (hn : ¬ y = 0) :
    Calls Tryd.prog 44 #[.int .i64 x, .int .i64 y] w (Done (.int .i64 (md x y)) w) := by
  obtain ⟨m1, m2⟩ := md_bd x y hn
  have hm : wrap64 (fl x y * y) = fl x y * y := by
    have e := fl_md x y
    apply wr; unfold Inr at hx hy; omega
  have hw : wrap64 (x - fl x y * y) = md x y := wr (by unfold Inr at hx hy; unfold md at m1 m2; omega)
  have HX := Lib.hid hx; have HY := Lib.hid hy; have HM := Lib.hid hm; have HW := Lib.hid hw; clear hx hy m1 m2 hm hw
  go_enter Tryd.func44, Tryd.ntmps44
  go_wp2_with (go_at_call 43; go_must (refine (floor_rule _ _ _ HX.out HY.out hn).mono ?_); rintro e w' ⟨rfl, rfl⟩)
  go_ret
  exact ⟨ret1 (vint (by rw [HM.out]; exact HW.out)), rfl⟩

/-! ### shift -/
/-- What a shift comes to, in whole numbers. -/
def shf (x y : Int) : Int := if y < 0 then x / 2 ^ (min (-y) 63).toNat else x * 2 ^ y.toNat
set_option maxHeartbeats 1000000 in
theorem shift_right (x y : Int) (w : World) (hx : Inr x) (hy : Inr y) (hn : y < 0) :
    Calls Tryd.prog 47 #[.int .i64 x, .int .i64 y] w (Ruled (shf x y) 0 w) := by
  obtain ⟨x1, x2⟩ := hx
  obtain ⟨y1, y2⟩ := hy
  have hf : shf x y = x / 2 ^ (min (-y) 63).toNat := by unfold shf; rw [if_pos hn]
  have H := Lib.hid hf; clear hf
  by_cases h : 63 < -y
  all_goals
    go_enter Tryd.func47, Tryd.ntmps47
    go_wp2
    go_ret2
    exact ⟨ret2 (vint H.out.symm) rfl, rfl⟩
set_option maxHeartbeats 1000000 in
theorem shift_nought (y : Int) (w : World) (h : 0 ≤ y) (hy : Inr y) :
    Calls Tryd.prog 47 #[.int .i64 0, .int .i64 y] w (Ruled 0 0 w) := by
  obtain ⟨y1, y2⟩ := hy
  go_enter Tryd.func47, Tryd.ntmps47
  go_wp2
  go_ret2
  exact ⟨rfl, rfl⟩
set_option maxHeartbeats 1000000 in
theorem shift_far (x y : Int) (w : World) (hx : Inr x) (hy : Inr y) (hn : 62 < y) (h0 : (x == 0) = false) :
    Calls Tryd.prog 47 #[.int .i64 x, .int .i64 y] w (Ruled 0 9 w) := by
  obtain ⟨x1, x2⟩ := hx
  obtain ⟨y1, y2⟩ := hy
  go_enter Tryd.func47, Tryd.ntmps47
  go_wp2
  go_ret2
  exact ⟨rfl, rfl⟩
set_option maxHeartbeats 1000000 in
theorem shift_beyond (x y : Int) (w : World) (hx : Inr x) (h1 : 0 ≤ y) (hn : y ≤ 62) (h0 : (x == 0) = false) (hb : (wrap64 (x * 2 ^ y.toNat) / 2 ^ y.toNat != x) = true) :
    Calls Tryd.prog 47 #[.int .i64 x, .int .i64 y] w (Ruled 0 9 w) := by
  obtain ⟨x1, x2⟩ := hx
  go_enter Tryd.func47, Tryd.ntmps47
  go_wp2
  go_ret2
  exact ⟨rfl, rfl⟩
set_option maxHeartbeats 1000000 in
theorem shift_left (x y : Int) (w : World) (hx : Inr x) (h1 : 0 ≤ y) (hn : y ≤ 62) (h0 : (x == 0) = false) (hb : (wrap64 (x * 2 ^ y.toNat) / 2 ^ y.toNat != x) = false) :
    Calls Tryd.prog 47 #[.int .i64 x, .int .i64 y] w (Ruled (shf x y) 0 w) := by
  have hf : shf x y = wrap64 (x * 2 ^ y.toNat) := by
    unfold shf; rw [if_neg (by omega)]
    exact (shl_back x _ (by simpa using hb) (by omega)).symm
  have H := Lib.hid hf; clear hf
  obtain ⟨x1, x2⟩ := hx
  go_enter Tryd.func47, Tryd.ntmps47
  go_wp2
  go_ret2
  exact ⟨ret2 (vint H.out.symm) rfl, rfl⟩
end Sm
end Go.Proofs.YtmmgpmdjpbalfaaDoor
