/- Contracts of package small's plain functions and of the reference's, in this seat's numbers. -/
import Derived.Test.YtmmgpmdjpbalfaaDoorProg
import Derived.Test.YtmmgpmdjpbalfaaDoorSmNum
import Derived.WalkKit
import Derived.WalkSpells
import Derived.Lib.Hide
import Derived.Below
import Derived.WalkLawsBesides
namespace Go.Proofs.YtmmgpmdjpbalfaaDoor
open Go.RowKit
namespace Sm

theorem ret2 {a a' b b' : Value} (h : a = a') (h' : b = b') : Ending.returned (.tuple #[a, b]) = .returned (.tuple #[a', b']) := by rw [h, h']
theorem ret1 {a a' : Value} (h : a = a') : Ending.returned a = .returned a' := by rw [h]
theorem vint {k : IntKind} {a b : Int} (h : a = b) : Value.int k a = Value.int k b := by rw [h]
theorem vbool {a b : Bool} (h : a = b) : Value.bool a = Value.bool b := by rw [h]

set_option maxHeartbeats 400000 in
theorem of_in (n : Int) (w : World) (h : Inr n) :
    Calls Tryd.prog 11 #[.int .i64 n] w fun e w' => e = .returned (.tuple #[.int .u64 (wd n), .int .i64 0]) ∧ w = w' := by
  obtain ⟨h1, h2⟩ := h
  go_enter Tryd.func11, Tryd.ntmps11
  go_wp2
  go_ret2
  exact ⟨ret2 (vint (or_one n)) rfl, rfl⟩

set_option maxHeartbeats 400000 in
theorem of_out (n : Int) (w : World) (h : ¬ Inr n) (h1 : -9223372036854775808 ≤ n) (h2 : n ≤ 9223372036854775807) :
    Calls Tryd.prog 11 #[.int .i64 n] w fun e w' => e = .returned (.tuple #[.int .u64 0, .int .i64 9]) ∧ w = w' := by
  unfold Inr at h
  by_cases h3 : n < -4611686018427387904
  · clear h
    go_enter Tryd.func11, Tryd.ntmps11
    go_wp2
    go_ret2
    exact ⟨rfl, rfl⟩
  · have h4 : 4611686018427387903 < n := by omega
    clear h
    go_enter Tryd.func11, Tryd.ntmps11
    go_wp2
    go_ret2
    exact ⟨rfl, rfl⟩

set_option maxHeartbeats 400000 in
theorem is_any (n : Int) (w : World) (h1 : 0 ≤ n) (h2 : n ≤ 18446744073709551615) :
    Calls Tryd.prog 15 #[.int .u64 n] w fun e w' => e = .returned (.bool (isw n)) ∧ w = w' := by
  go_enter Tryd.func15, Tryd.ntmps15
  go_wp2
  go_ret
  exact ⟨ret1 (vbool (by rw [and_one n h1 h2]; rfl)), rfl⟩
theorem is_yes (n : Int) (w : World) (h1 : 0 ≤ n) (h2 : n ≤ 18446744073709551615) (h : isw n = true) :
    Calls Tryd.prog 15 #[.int .u64 n] w fun e w' => e = .returned (.bool true) ∧ w = w' :=
  (is_any n w h1 h2).mono fun _ _ ⟨he, hw⟩ => ⟨by rw [he, h], hw⟩
theorem is_no (n : Int) (w : World) (h1 : 0 ≤ n) (h2 : n ≤ 18446744073709551615) (h : isw n = false) :
    Calls Tryd.prog 15 #[.int .u64 n] w fun e w' => e = .returned (.bool false) ∧ w = w' :=
  (is_any n w h1 h2).mono fun _ _ ⟨he, hw⟩ => ⟨by rw [he, h], hw⟩
theorem is_wd (n : Int) (w : World) :
    Calls Tryd.prog 15 #[.int .u64 (wd n)] w fun e w' => e = .returned (.bool true) ∧ w = w' :=
  is_yes _ w (wd_bd n).1 (wd_bd n).2 (isw_wd n)

set_option maxHeartbeats 400000 in
theorem value_yes (n : Int) (w : World) (h1 : 0 ≤ n) (h2 : n ≤ 18446744073709551615) (h : isw n = true) :
    Calls Tryd.prog 13 #[.int .u64 n] w fun e w' => e = .returned (.tuple #[.int .i64 (vw n), .int .i64 0]) ∧ w = w' := by
  have H := Lib.hid h; clear h
  go_enter Tryd.func13, Tryd.ntmps13
  go_wp2_with (go_at_call 15; refine (is_yes _ _ h1 h2 H.out).mono ?_; rintro e w' ⟨rfl, rfl⟩)
  go_ret2
  exact ⟨rfl, rfl⟩
set_option maxHeartbeats 400000 in
theorem value_no (n : Int) (w : World) (h1 : 0 ≤ n) (h2 : n ≤ 18446744073709551615) (h : isw n = false) :
    Calls Tryd.prog 13 #[.int .u64 n] w fun e w' => e = .returned (.tuple #[.int .i64 0, .int .i64 13]) ∧ w = w' := by
  have H := Lib.hid h; clear h
  go_enter Tryd.func13, Tryd.ntmps13
  go_wp2_with (go_at_call 15; refine (is_no _ _ h1 h2 H.out).mono ?_; rintro e w' ⟨rfl, rfl⟩)
  go_ret2
  exact ⟨rfl, rfl⟩
theorem value_wd (n : Int) (w : World) (h : Inr n) :
    Calls Tryd.prog 13 #[.int .u64 (wd n)] w fun e w' => e = .returned (.tuple #[.int .i64 n, .int .i64 0]) ∧ w = w' :=
  (value_yes _ w (wd_bd n).1 (wd_bd n).2 (isw_wd n)).mono fun _ _ ⟨he, hw⟩ => ⟨by rw [he, vw_wd h], hw⟩

end Sm
end Go.Proofs.YtmmgpmdjpbalfaaDoor
