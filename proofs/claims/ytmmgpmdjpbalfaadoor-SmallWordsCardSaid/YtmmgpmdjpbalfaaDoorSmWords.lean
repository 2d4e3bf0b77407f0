/- SmallWords: the walk. -/
import Derived.Test.YtmmgpmdjpbalfaaDoorSmAwake
import Derived.Test.YtmmgpmdjpbalfaaDoorSmRef
set_option linter.unusedVariables false
namespace Go.Proofs.YtmmgpmdjpbalfaaDoor
open Go.RowKit
namespace Sm
theorem eqw {a : Int} : (a == a) = true := by simp
set_option maxHeartbeats 1000000 in
theorem words_walk (n a : Int) (w : World) (n1 : -9223372036854775808 ≤ n) (n2 : n ≤ 9223372036854775807) (a1 : 0 ≤ a) (a2 : a ≤ 18446744073709551615) (ht : Pow10 w) :
    Calls Tryd.prog 3 #[.int .i64 n, .int .u64 a] w (Back (.bool true) w) := by
  have H := Lib.hid ht; clear ht
  by_cases hn : Inr n
  · cases hw : isw a
    all_goals
      have HW := Lib.hid hw; clear hw
      go_enter Tryd.func3, Tryd.ntmps3
      go_wp2_with fail
      refine (awake_any _ H.out).mono ?_; rintro e w' ⟨rfl, hb⟩
      go_wp2_with (first
        | (go_at_call 11; go_must (refine (of_in _ _ hn).mono ?_); rintro e w' ⟨rfl, rfl⟩)
        | (go_at_call 12; go_must (refine (rnumber_in _ _ hn).mono ?_); rintro e w' ⟨rfl, rfl⟩)
        | (go_at_call_of 13 (Value.int .u64 (wd n)); go_must (refine (value_wd _ _ hn).mono ?_); rintro e w' ⟨rfl, rfl⟩)
        | (go_at_call_of 13 (Value.int .u64 a); first | (refine (value_yes _ _ a1 a2 HW.out).mono ?_; rintro e w' ⟨rfl, rfl⟩) | (refine (value_no _ _ a1 a2 HW.out).mono ?_; rintro e w' ⟨rfl, rfl⟩))
        | (go_at_call_of 15 (Value.int .u64 (wd n)); go_must (refine (is_wd _ _).mono ?_); rintro e w' ⟨rfl, rfl⟩)
        | (go_at_call_of 15 (Value.int .u64 a); first | (refine (is_yes _ _ a1 a2 HW.out).mono ?_; rintro e w' ⟨rfl, rfl⟩) | (refine (is_no _ _ a1 a2 HW.out).mono ?_; rintro e w' ⟨rfl, rfl⟩))
        | (go_at_call 16; first | (refine (ris_yes _ _ a1 a2 HW.out).mono ?_; rintro e w' ⟨rfl, rfl⟩) | (refine (ris_no _ _ a1 a2 HW.out).mono ?_; rintro e w' ⟨rfl, rfl⟩))
        | (go_at_call 17; go_must (refine (rvalue_any _ _ a1 a2).mono ?_); rintro e w' ⟨rfl, rfl⟩)
        | (go_at_call 14; go_must (refine (rword_any _ _).mono ?_); rintro e w' ⟨rfl, rfl⟩))
      go_ret
      exact ⟨rfl, hb⟩
  · go_enter Tryd.func3, Tryd.ntmps3
    go_wp2_with fail
    refine (awake_any _ H.out).mono ?_; rintro e w' ⟨rfl, hb⟩
    go_wp2_with (first
      | (go_at_call 11; go_must (refine (of_out _ _ hn n1 n2).mono ?_); rintro e w' ⟨rfl, rfl⟩)
      | (go_at_call 12; go_must (refine (rnumber_out _ _ hn).mono ?_); rintro e w' ⟨rfl, rfl⟩))
    go_ret
    exact ⟨rfl, hb⟩
end Sm
end Go.Proofs.YtmmgpmdjpbalfaaDoor
