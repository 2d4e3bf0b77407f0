/- SmallBits: the walk. -/
import Derived.Test.YtmmgpmdjpbalfaaDoorSmAwake
import Derived.Test.YtmmgpmdjpbalfaaDoorSmRules
set_option linter.unusedVariables false
namespace Go.Proofs.YtmmgpmdjpbalfaaDoor
open Go.RowKit
namespace Sm

set_option maxHeartbeats 2000000 in
theorem bits_core (a b x y u v t : Int) (w : World) (ea : a / 4 = x) (eb : b / 4 = y) (hx : Inr x) (hy : Inr y) (hu : Inr u) (hv : Inr v) (ht' : Inr t) (hs : Inr (x + y))
    (eu : bits .and .i64 x y = u) (ev : bits .or .i64 x y = v) (et : bits .xor .i64 x y = t) (e1 : Hid (u + v = x + y)) (e2 : Hid (v - u = t)) (e3 : Hid (bits .xor .i64 t y = x)) (ht : Pow10 w) :
    Calls Tryd.prog 5 #[.int .i64 a, .int .i64 b] w (Back (.bool true) w) := by
  have H := Lib.hid ht; clear ht
  have EU := Lib.hid eu; have EV := Lib.hid ev; have ET := Lib.hid et; clear eu ev et
  go_enter Tryd.func5, Tryd.ntmps5
  go_wp2_with fail
  refine (awake_any _ H.out).mono ?_; rintro e w0 ⟨rfl, hb⟩
  go_wp2_with (go_at_call 11; go_must (refine (of_in _ _ (by assumption)).mono ?_); rintro e w' ⟨rfl, rfl⟩)
  refine (and_ok x y _ hx hy (by rw [EU.out]; exact hu)).mono ?_; rintro e w1 ⟨rfl, hb1⟩; rw [EU.out]
  go_wp2_with fail
  refine (or_ok x y _ hx hy (by rw [EV.out]; exact hv)).mono ?_; rintro e w2 ⟨rfl, hb2⟩; rw [EV.out]
  go_wp2_with fail
  refine (xor_ok x y _ hx hy (by rw [ET.out]; exact ht')).mono ?_; rintro e w3 ⟨rfl, hb3⟩; rw [ET.out]
  go_wp2_with fail
  refine (add_ok x y _ hx hy hs).mono ?_; rintro e w4 ⟨rfl, hb4⟩
  go_wp2_with fail
  refine (add_ok u v _ hu hv (by rw [e1.out]; exact hs)).mono ?_; rintro e w5 ⟨rfl, hb5⟩; rw [e1.out]
  go_wp2_with fail
  refine (sub_ok v u _ hv hu (by rw [e2.out]; exact ht')).mono ?_; rintro e w6 ⟨rfl, hb6⟩; rw [e2.out]
  go_wp2_with fail
  refine (xor_ok t y _ ht' hy (by rw [e3.out]; exact hx)).mono ?_; rintro e w7 ⟨rfl, hb7⟩; rw [e3.out]
  go_wp2_with fail
  go_ret
  refine ⟨rfl, ?_⟩
  have c1 := hb.trans (hb1.mono hb.size)
  have c2 := c1.trans (hb2.mono c1.size)
  have c3 := c2.trans (hb3.mono c2.size)
  have c4 := c3.trans (hb4.mono c3.size)
  have c5 := c4.trans (hb5.mono c4.size)
  have c6 := c5.trans (hb6.mono c5.size)
  exact c6.trans (hb7.mono c6.size)
theorem bits_walk (a b : Int) (w : World) (a1 : -9223372036854775808 ≤ a) (a2 : a ≤ 9223372036854775807) (b1 : -9223372036854775808 ≤ b) (b2 : b ≤ 9223372036854775807) (ht : Pow10 w) :
    Calls Tryd.prog 5 #[.int .i64 a, .int .i64 b] w (Back (.bool true) w) := by
  have hx : Qtr (a / 4) := by unfold Qtr; omega
  have hy : Qtr (b / 4) := by unfold Qtr; omega
  obtain ⟨i1, i2, i3, e1, e2, e3⟩ := bits_laws hx hy
  exact bits_core a b _ _ _ _ _ w rfl rfl (by unfold Qtr at hx; unfold Inr; omega) (by unfold Qtr at hy; unfold Inr; omega) i1 i2 i3 (by unfold Qtr at hx hy; unfold Inr; omega) rfl rfl rfl (Lib.hid e1) (Lib.hid e2) (Lib.hid e3) ht
end Sm
end Go.Proofs.YtmmgpmdjpbalfaaDoor
