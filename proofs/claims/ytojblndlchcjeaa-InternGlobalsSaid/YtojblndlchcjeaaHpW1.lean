/- Chapters 08 and 17, the walk, 1: small.Is, head.check. -/
import Derived.Test.YtojblndlchcjeaaHpMem
import Derived.Test.YtojblndlchcjeaaProg
import Derived.WalkSpells
import Derived.WalkLawsBesides
import Derived.Laws.Cover3
set_option linter.unusedVariables false
namespace Go.Proofs.Ytojblndlchcjeaa
open Go.RowKit
namespace Hp
open Bs Sm
abbrev HDT : Nat := 94
def hdV (h : Hdr) : Value := .agg #[uV h.cls, .int .i64 (h.kind : Int), .int .i64 (h.size : Int), .int .u32 (h.hash : Int), .bool h.mark]
set_option maxHeartbeats 400000 in
theorem isw_any (n : Nat) (w : World) (h2 : n < 18446744073709551616) : Calls Try.prog 74 #[.int .u64 (n : Int)] w (Done (.bool (n % 2 == 1)) w) := by
  have hb : ((bits .and .u64 (n : Int) 1) == 1) = (n % 2 == 1) := by
    rw [and_one n (by omega) (by omega)]
    rw [Bool.eq_iff_iff]; simp; omega
  have HB := Lib.hid hb; clear hb
  go_enter Try.func74, Try.ntmps74
  go_wp2_with fail
  go_ret
  exact ⟨by rw [HB.out]; rfl, rfl⟩
/-- Which error a head has; 0: none. -/
def chkL (c : Nat) (k s : Int) (x : Nat) : Int :=
  if c = 0 ∨ c % 2 = 1 then 1 else if s < 0 ∨ 1048576 < s then 2 else if 16777216 ≤ x then 9 else if k < 0 ∨ 2 < k then 13 else 0
theorem chk_ok {h : Hdr} (ok : okB h = true) : chkL h.cls h.kind h.size h.hash = 0 := by
  obtain ⟨h1, h2, h3, h4, h5⟩ := (okB_iff h).1 ok
  unfold chkL
  rw [if_neg (by omega), if_neg (by omega), if_neg (by omega), if_neg (by omega)]
set_option maxHeartbeats 1600000 in
theorem check_any (c : Nat) (k s : Int) (x : Nat) (m : Bool) (w : World) (hc : c < 18446744073709551616) :
    Calls Try.prog 76 #[.agg #[.int .u64 (c : Int), .int .i64 k, .int .i64 s, .int .u32 (x : Int), .bool m]] w (Back (.int .i64 (chkL c k s x)) w) := by
  have HB := Lib.hid (alloc_bel w (.cells #[.int .u64 (c : Int), .int .i64 k, .int .i64 s, .int .u32 (x : Int), .bool m] HDT))
  obtain ⟨r, hr⟩ : ∃ r, chkL c k s x = r := ⟨_, rfl⟩
  by_cases h0 : c = 0
  · have : r = 1 := by rw [← hr]; unfold chkL; rw [if_pos (.inl h0)]
    subst this; subst h0; rw [hr]; clear hr
    go_enter Try.func76, Try.ntmps76
    go_wp2_with fail
    go_ret
    exact ⟨rfl, HB.out⟩
  have hc0 : ((c : Int) == 0) = false := by simpa using h0
  by_cases h1 : c % 2 = 1
  · have : r = 1 := by rw [← hr]; unfold chkL; rw [if_pos (.inr h1)]
    subst this; rw [hr]; clear hr
    have h1b : (c % 2 == 1) = true := by simpa using h1
    have HI := Lib.hid (fun w => isw_any c w hc)
    rw [h1b] at HI
    clear h1 h1b h0
    go_enter Try.func76, Try.ntmps76
    go_wp2_with fail
    refine (HI.out _).mono ?_; rintro e w' ⟨rfl, rfl⟩
    go_wp2_with fail
    go_ret
    exact ⟨rfl, HB.out⟩
  have h1b : (c % 2 == 1) = false := by simpa using h1
  have HI := Lib.hid (fun w => isw_any c w hc)
  rw [h1b] at HI
  have HR := Lib.hid hr; clear hr
  clear h1b
  by_cases h2 : s < 0
  · have : r = 2 := by rw [← HR.out]; unfold chkL; rw [if_neg (by omega), if_pos (.inl h2)]
    rw [HR.out]; subst this; clear HR h0 h1
    go_enter Try.func76, Try.ntmps76
    go_wp2_with fail
    refine (HI.out _).mono ?_; rintro e w' ⟨rfl, rfl⟩
    go_wp2_with fail
    go_ret
    exact ⟨rfl, HB.out⟩
  by_cases h3 : 1048576 < s
  · have : r = 2 := by rw [← HR.out]; unfold chkL; rw [if_neg (by omega), if_pos (.inr h3)]
    rw [HR.out]; subst this; clear HR h0 h1
    go_enter Try.func76, Try.ntmps76
    go_wp2_with fail
    refine (HI.out _).mono ?_; rintro e w' ⟨rfl, rfl⟩
    go_wp2_with fail
    go_ret
    exact ⟨rfl, HB.out⟩
  by_cases h4 : 16777216 ≤ x
  · have : r = 9 := by rw [← HR.out]; unfold chkL; rw [if_neg (by omega), if_neg (by omega), if_pos h4]
    rw [HR.out]; subst this; clear HR h0 h1
    have h4b : decide ((16777216 : Int) ≤ (x : Int)) = true := by simp; omega
    go_enter Try.func76, Try.ntmps76
    go_wp2_with fail
    refine (HI.out _).mono ?_; rintro e w' ⟨rfl, rfl⟩
    go_wp2_with fail
    go_ret
    exact ⟨rfl, HB.out⟩
  have h4b : decide ((16777216 : Int) ≤ (x : Int)) = false := by simp; omega
  by_cases h5 : k < 0
  · have : r = 13 := by rw [← HR.out]; unfold chkL; rw [if_neg (by omega), if_neg (by omega), if_neg h4, if_pos (.inl h5)]
    rw [HR.out]; subst this; clear HR h0 h1
    go_enter Try.func76, Try.ntmps76
    go_wp2_with fail
    refine (HI.out _).mono ?_; rintro e w' ⟨rfl, rfl⟩
    go_wp2_with fail
    go_ret
    exact ⟨rfl, HB.out⟩
  by_cases h6 : 2 < k
  · have : r = 13 := by rw [← HR.out]; unfold chkL; rw [if_neg (by omega), if_neg (by omega), if_neg h4, if_pos (.inr h6)]
    rw [HR.out]; subst this; clear HR h0 h1
    go_enter Try.func76, Try.ntmps76
    go_wp2_with fail
    refine (HI.out _).mono ?_; rintro e w' ⟨rfl, rfl⟩
    go_wp2_with fail
    go_ret
    exact ⟨rfl, HB.out⟩
  have : r = 0 := by rw [← HR.out]; unfold chkL; rw [if_neg (by omega), if_neg (by omega), if_neg h4, if_neg (by omega)]
  rw [HR.out]; subst this; clear HR h0 h1
  go_enter Try.func76, Try.ntmps76
  go_wp2_with fail
  refine (HI.out _).mono ?_; rintro e w' ⟨rfl, rfl⟩
  go_wp2_with fail
  go_ret
  exact ⟨rfl, HB.out⟩
end Hp
end Go.Proofs.Ytojblndlchcjeaa
