/- Package lex, the walk, 2: operators; the kinds of bytes that 'run' is given. -/
import Derived.Test.YthdigbkcffihkaaGreatDoorLxW1
import Derived.Test.YthdigbkcffihkaaGreatDoorLxMem
set_option linter.unusedVariables false
namespace Go.Proofs.YthdigbkcffihkaaGreatDoor
open Go.RowKit
namespace Lx
theorem index_none (l : List UInt8) (c : UInt8) : Lib.indexByte l c = -1 ∨ 0 ≤ Lib.indexByte l c := by
  induction l with
  | nil => left; rfl
  | cons b l ih =>
    simp only [Lib.indexByte]
    split
    · right; omega
    · split
      · left; rfl
      · rename_i h1 h2
        rcases ih with h | h
        · rw [h] at h2; exact absurd rfl h2
        · right; omega
theorem index_mem (l : List UInt8) (c : UInt8) : 0 ≤ Lib.indexByte l c ↔ l.contains c = true := by
  induction l with
  | nil => simp [Lib.indexByte]
  | cons b l ih =>
    rw [List.contains_cons]
    simp only [Lib.indexByte]
    have hs : (c == b) = (b == c) := by rw [Bool.eq_iff_iff, beq_iff_eq, beq_iff_eq]; exact eq_comm
    rw [hs]
    cases hb : (b == c)
    · simp only [Bool.false_or, Bool.false_eq_true, if_false]
      rw [← ih]
      rcases index_none l c with h | h
      · rw [h]; simp
      · have : ¬ (Lib.indexByte l c == -1) = true := by rw [beq_iff_eq]; omega
        rw [if_neg this]; omega
    · simp
set_option maxHeartbeats 1000000 in
theorem op_any (c : UInt8) (w : World) : Calls Tryz.prog 109 #[.int .u8 (c.toNat : Int)] w (Done (.bool (opc c)) w) := by
  have hc := c.toNat_lt
  by_cases h0 : c = 0
  · subst h0
    go_enter Tryz.func109, Tryz.ntmps109
    go_wp2
    go_ret
    exact ⟨rfl, rfl⟩
  · have hn : ((c.toNat : Int) == 0) = false := by
      rw [beq_eq_false_iff_ne]; intro h; exact h0 (UInt8.toNat.inj (by show c.toNat = 0; omega))
    have hn2 : ((c.toNat : Int) != 0) = true := by simp [bne, hn]
    have ho : opc c = opsL.contains c := by unfold opc; simp [h0]
    have HO := Lib.hid ho
    clear ho h0
    go_enter Tryz.func109, Tryz.ntmps109
    go_wp2_with (go_at_call 81; go_must (refine (Tryz.strings_IndexByte _ _ _).mono ?_); rintro e w' ⟨rfl, rfl⟩)
    go_ret
    exact ⟨ret1 (vbool (by
      have hm := index_mem opsL c
      rw [HO.out, Bool.eq_iff_iff, decide_eq_true_iff]
      exact hm)), rfl⟩
set_option maxHeartbeats 1000000 in
theorem alnum_any (c : UInt8) (w : World) : Calls Tryz.prog 108 #[.int .u8 (c.toNat : Int)] w (Done (.bool (alnum c)) w) := by
  have ha : alnum c = (letter c || digit c) := rfl
  cases hl : letter c
  all_goals
    rw [hl] at ha
    have HA := Lib.hid ha; have HL := Lib.hid hl; clear ha hl
    go_enter Tryz.func108, Tryz.ntmps108
    go_wp2_with fail
    refine (letter_any c _).mono ?_; rintro e w' ⟨rfl, rfl⟩
    rw [HL.out]
    go_wp2_with (go_at_call 100; go_must (refine (digit_any c _).mono ?_); rintro e w' ⟨rfl, rfl⟩)
    go_ret
    exact ⟨ret1 (vbool (by rw [HA.out]; rfl)), rfl⟩
set_option maxHeartbeats 1000000 in
theorem blank_any (c : UInt8) (w : World) : Calls Tryz.prog 112 #[.int .u8 (c.toNat : Int)] w (Done (.bool (blank c)) w) := by
  go_enter Tryz.func112, Tryz.ntmps112
  go_wp2_with (go_at_call 81; go_must (refine (Tryz.strings_IndexByte _ _ _).mono ?_); rintro e w' ⟨rfl, rfl⟩)
  go_ret
  exact ⟨ret1 (vbool (by
    have hm := index_mem blanksL c
    rw [Bool.eq_iff_iff, decide_eq_true_iff]; exact hm)), rfl⟩
end Lx
end Go.Proofs.YthdigbkcffihkaaGreatDoor
