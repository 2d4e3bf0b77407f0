/- Contracts of the reference's plain number functions (layer 1). -/
import Derived.Test.YtmmgpmdjpbalfaaDoorSmWalk
namespace Go.Proofs.YtmmgpmdjpbalfaaDoor
open Go.RowKit
namespace Sm

set_option maxHeartbeats 400000 in
theorem rnumber_in (n : Int) (w : World) (h : Inr n) :
    Calls Tryd.prog 12 #[.int .i64 n] w fun e w' => e = .returned (.bool true) ∧ w = w' := by
  obtain ⟨h1, h2⟩ := h
  go_enter Tryd.func12, Tryd.ntmps12
  go_wp2
  go_ret
  exact ⟨rfl, rfl⟩
set_option maxHeartbeats 400000 in
theorem rnumber_out (n : Int) (w : World) (h : ¬ Inr n) :
    Calls Tryd.prog 12 #[.int .i64 n] w fun e w' => e = .returned (.bool false) ∧ w = w' := by
  unfold Inr at h
  by_cases h3 : n < -4611686018427387904
  · clear h
    go_enter Tryd.func12, Tryd.ntmps12
    go_wp2
    go_ret
    exact ⟨rfl, rfl⟩
  · have h4 : 4611686018427387903 < n := by omega
    clear h
    go_enter Tryd.func12, Tryd.ntmps12
    go_wp2
    go_ret
    exact ⟨ret1 (vbool (by simp; omega)), rfl⟩
set_option maxHeartbeats 400000 in
theorem rword_any (n : Int) (w : World) :
    Calls Tryd.prog 14 #[.int .i64 n] w fun e w' => e = .returned (.int .u64 (wd n)) ∧ w = w' := by
  go_enter Tryd.func14, Tryd.ntmps14
  go_wp2
  go_ret
  exact ⟨ret1 (vint (rword n)), rfl⟩
set_option maxHeartbeats 400000 in
theorem ris_any (n : Int) (w : World) (h1 : 0 ≤ n) (h2 : n ≤ 18446744073709551615) :
    Calls Tryd.prog 16 #[.int .u64 n] w fun e w' => e = .returned (.bool (isw n)) ∧ w = w' := by
  go_enter Tryd.func16, Tryd.ntmps16
  go_wp2
  go_ret
  exact ⟨rfl, rfl⟩
theorem ris_yes (n : Int) (w : World) (h1 : 0 ≤ n) (h2 : n ≤ 18446744073709551615) (h : isw n = true) :
    Calls Tryd.prog 16 #[.int .u64 n] w fun e w' => e = .returned (.bool true) ∧ w = w' :=
  (ris_any n w h1 h2).mono fun _ _ ⟨he, hw⟩ => ⟨by rw [he, h], hw⟩
theorem ris_no (n : Int) (w : World) (h1 : 0 ≤ n) (h2 : n ≤ 18446744073709551615) (h : isw n = false) :
    Calls Tryd.prog 16 #[.int .u64 n] w fun e w' => e = .returned (.bool false) ∧ w = w' :=
  (ris_any n w h1 h2).mono fun _ _ ⟨he, hw⟩ => ⟨by rw [he, h], hw⟩
set_option maxHeartbeats 400000 in
theorem rvalue_any (n : Int) (w : World) (h1 : 0 ≤ n) (h2 : n ≤ 18446744073709551615) :
    Calls Tryd.prog 17 #[.int .u64 n] w fun e w' => e = .returned (.int .i64 (vw n)) ∧ w = w' := by
  have hv := rvalue n h1 h2
  have H := Lib.hid hv; clear hv
  by_cases h : 4611686018427387904 ≤ n / 2
  · go_enter Tryd.func17, Tryd.ntmps17
    go_wp2
    go_ret
    exact ⟨ret1 (vint (by rw [← H.out, if_pos h])), rfl⟩
  · go_enter Tryd.func17, Tryd.ntmps17
    go_wp2
    go_ret
    exact ⟨ret1 (vint (by rw [← H.out, if_neg (by omega)])), rfl⟩
end Sm
end Go.Proofs.YtmmgpmdjpbalfaaDoor
