/- SmallOrders, SmallBits: the walks. -/
import Derived.Test.YtmmgpmdjpbalfaaDoorSmAwake
import Derived.Test.YtmmgpmdjpbalfaaDoorSmRules
set_option linter.unusedVariables false
namespace Go.Proofs.YtmmgpmdjpbalfaaDoor
open Go.RowKit
namespace Sm

set_option maxHeartbeats 2000000 in
theorem orders_lt_ok (a b c x y z : Int) (w : World) (ea : a / 2 = x) (eb : b / 2 = y) (ec : c / 2 = z) (hx : Inr x) (hy : Inr y) (hz : Inr z) (ht : Pow10 w) (hxy : x < y) (hs : Inr (x - y)) :
    Calls Tryd.prog 4 #[.int .i64 a, .int .i64 b, .int .i64 c] w (Back (.bool true) w) := by
  have H := Lib.hid ht; clear ht
  have hn1 : (x - y == 0) = false := by simp; omega
  have hd : wd x ≠ wd y := fun h => by have := wd_inj hx hy h; omega
  have hlt : x - y < 0 := by omega
  by_cases hyz : y < z <;> by_cases hxz : x < z <;> first
        | (exfalso; omega)
        | (go_enter Tryd.func4, Tryd.ntmps4
           go_wp2_with fail
           refine (awake_any _ H.out).mono ?_; rintro e w' ⟨rfl, hb⟩
           go_wp2_with (first
             | (go_at_call 11; go_must (refine (of_in _ _ (by assumption)).mono ?_); rintro e w' ⟨rfl, rfl⟩)
             | (go_at_call 18; go_must (refine (less_wd _ _ _ (by assumption) (by assumption)).mono ?_); rintro e w' ⟨rfl, rfl⟩)
             | (go_at_call 13; go_must (refine (value_wd _ _ (by assumption)).mono ?_); rintro e w' ⟨rfl, rfl⟩)
             | (go_at_call 19; go_must (refine (sub_ok _ _ _ hx hy hs).mono ?_); rintro e w1 ⟨rfl, hb1⟩))
           go_ret
           exact ⟨rfl, hb.trans (hb1.mono hb.size)⟩)
set_option maxHeartbeats 2000000 in
theorem orders_lt_over (a b c x y z : Int) (w : World) (ea : a / 2 = x) (eb : b / 2 = y) (ec : c / 2 = z) (hx : Inr x) (hy : Inr y) (hz : Inr z) (ht : Pow10 w) (hxy : x < y) (hs : ¬ Inr (x - y)) :
    Calls Tryd.prog 4 #[.int .i64 a, .int .i64 b, .int .i64 c] w (Back (.bool true) w) := by
  have H := Lib.hid ht; clear ht
  have hn1 : (x - y == 0) = false := by simp; omega
  have hd : wd x ≠ wd y := fun h => by have := wd_inj hx hy h; omega
  have hlt : x - y < 0 := by omega
  by_cases hyz : y < z <;> by_cases hxz : x < z <;> first
        | (exfalso; omega)
        | (go_enter Tryd.func4, Tryd.ntmps4
           go_wp2_with fail
           refine (awake_any _ H.out).mono ?_; rintro e w' ⟨rfl, hb⟩
           go_wp2_with (first
             | (go_at_call 11; go_must (refine (of_in _ _ (by assumption)).mono ?_); rintro e w' ⟨rfl, rfl⟩)
             | (go_at_call 18; go_must (refine (less_wd _ _ _ (by assumption) (by assumption)).mono ?_); rintro e w' ⟨rfl, rfl⟩)
             | (go_at_call 13; go_must (refine (value_wd _ _ (by assumption)).mono ?_); rintro e w' ⟨rfl, rfl⟩)
             | (go_at_call 19; go_must (refine (sub_over _ _ _ hx hy hs).mono ?_); rintro e w1 ⟨rfl, hb1⟩))
           go_ret
           exact ⟨rfl, hb.trans (hb1.mono hb.size)⟩)
set_option maxHeartbeats 2000000 in
theorem orders_gt_ok (a b c x y z : Int) (w : World) (ea : a / 2 = x) (eb : b / 2 = y) (ec : c / 2 = z) (hx : Inr x) (hy : Inr y) (hz : Inr z) (ht : Pow10 w) (hxy : y < x) (hs : Inr (x - y)) :
    Calls Tryd.prog 4 #[.int .i64 a, .int .i64 b, .int .i64 c] w (Back (.bool true) w) := by
  have H := Lib.hid ht; clear ht
  have hn1 : (x - y == 0) = false := by simp; omega
  have hd : wd x ≠ wd y := fun h => by have := wd_inj hx hy h; omega
  have hlt : ¬ (x - y < 0) := by omega
  have hlt2 : (decide (x - y < 0)) = false := by simp; omega
  by_cases hyz : y < z <;> by_cases hxz : x < z <;> first
        | (exfalso; omega)
        | (go_enter Tryd.func4, Tryd.ntmps4
           go_wp2_with fail
           refine (awake_any _ H.out).mono ?_; rintro e w' ⟨rfl, hb⟩
           go_wp2_with (first
             | (go_at_call 11; go_must (refine (of_in _ _ (by assumption)).mono ?_); rintro e w' ⟨rfl, rfl⟩)
             | (go_at_call 18; go_must (refine (less_wd _ _ _ (by assumption) (by assumption)).mono ?_); rintro e w' ⟨rfl, rfl⟩)
             | (go_at_call 13; go_must (refine (value_wd _ _ (by assumption)).mono ?_); rintro e w' ⟨rfl, rfl⟩)
             | (go_at_call 19; go_must (refine (sub_ok _ _ _ hx hy hs).mono ?_); rintro e w1 ⟨rfl, hb1⟩))
           go_ret
           exact ⟨rfl, hb.trans (hb1.mono hb.size)⟩)
set_option maxHeartbeats 2000000 in
theorem orders_gt_over (a b c x y z : Int) (w : World) (ea : a / 2 = x) (eb : b / 2 = y) (ec : c / 2 = z) (hx : Inr x) (hy : Inr y) (hz : Inr z) (ht : Pow10 w) (hxy : y < x) (hs : ¬ Inr (x - y)) :
    Calls Tryd.prog 4 #[.int .i64 a, .int .i64 b, .int .i64 c] w (Back (.bool true) w) := by
  have H := Lib.hid ht; clear ht
  have hn1 : (x - y == 0) = false := by simp; omega
  have hd : wd x ≠ wd y := fun h => by have := wd_inj hx hy h; omega
  have hlt : ¬ (x - y < 0) := by omega
  have hlt2 : (decide (x - y < 0)) = false := by simp; omega
  by_cases hyz : y < z <;> by_cases hxz : x < z <;> first
        | (exfalso; omega)
        | (go_enter Tryd.func4, Tryd.ntmps4
           go_wp2_with fail
           refine (awake_any _ H.out).mono ?_; rintro e w' ⟨rfl, hb⟩
           go_wp2_with (first
             | (go_at_call 11; go_must (refine (of_in _ _ (by assumption)).mono ?_); rintro e w' ⟨rfl, rfl⟩)
             | (go_at_call 18; go_must (refine (less_wd _ _ _ (by assumption) (by assumption)).mono ?_); rintro e w' ⟨rfl, rfl⟩)
             | (go_at_call 13; go_must (refine (value_wd _ _ (by assumption)).mono ?_); rintro e w' ⟨rfl, rfl⟩)
             | (go_at_call 19; go_must (refine (sub_over _ _ _ hx hy hs).mono ?_); rintro e w1 ⟨rfl, hb1⟩))
           go_ret
           exact ⟨rfl, hb.trans (hb1.mono hb.size)⟩)
set_option maxHeartbeats 2000000 in
theorem orders_eq (a b c x z : Int) (w : World) (ea : a / 2 = x) (eb : b / 2 = x) (ec : c / 2 = z) (hx : Inr x) (hz : Inr z) (ht : Pow10 w) :
    Calls Tryd.prog 4 #[.int .i64 a, .int .i64 b, .int .i64 c] w (Back (.bool true) w) := by
  have H := Lib.hid ht; clear ht
  have hs : Inr (x - x) := by unfold Inr; omega
  have h0 : Inr 0 := by unfold Inr; omega
  by_cases hxz : x < z
  all_goals
           go_enter Tryd.func4, Tryd.ntmps4
           go_wp2_with fail
           refine (awake_any _ H.out).mono ?_; rintro e w' ⟨rfl, hb⟩
           go_wp2_with (first
             | (go_at_call 11; go_must (refine (of_in _ _ (by assumption)).mono ?_); rintro e w' ⟨rfl, rfl⟩)
             | (go_at_call 18; go_must (refine (less_wd _ _ _ (by assumption) (by assumption)).mono ?_); rintro e w' ⟨rfl, rfl⟩)
             | (go_at_call 13; go_must (refine (value_wd _ _ (by assumption)).mono ?_); rintro e w' ⟨rfl, rfl⟩)
             | (go_at_call 19; go_must (refine (sub_ok x x _ hx hx hs).mono ?_); rintro e w1 ⟨rfl, hb1⟩))
           go_ret
           exact ⟨rfl, hb.trans (hb1.mono hb.size)⟩
theorem half_in (a : Int) (h1 : -9223372036854775808 ≤ a) (h2 : a ≤ 9223372036854775807) : Inr (a / 2) := by unfold Inr; omega
theorem orders_walk (a b c : Int) (w : World) (a1 : -9223372036854775808 ≤ a) (a2 : a ≤ 9223372036854775807) (b1 : -9223372036854775808 ≤ b) (b2 : b ≤ 9223372036854775807) (c1 : -9223372036854775808 ≤ c) (c2 : c ≤ 9223372036854775807) (ht : Pow10 w) :
    Calls Tryd.prog 4 #[.int .i64 a, .int .i64 b, .int .i64 c] w (Back (.bool true) w) := by
  have ha := half_in a a1 a2
  have hb := half_in b b1 b2
  have hc := half_in c c1 c2
  rcases Int.lt_trichotomy (a / 2) (b / 2) with h | h | h
  · by_cases hs : Inr (a / 2 - b / 2)
    · exact orders_lt_ok a b c _ _ _ w rfl rfl rfl ha hb hc ht h hs
    · exact orders_lt_over a b c _ _ _ w rfl rfl rfl ha hb hc ht h hs
  · exact orders_eq a b c _ _ w rfl h.symm rfl ha hc ht
  · by_cases hs : Inr (a / 2 - b / 2)
    · exact orders_gt_ok a b c _ _ _ w rfl rfl rfl ha hb hc ht h hs
    · exact orders_gt_over a b c _ _ _ w rfl rfl rfl ha hb hc ht h hs
end Sm
end Go.Proofs.YtmmgpmdjpbalfaaDoor
