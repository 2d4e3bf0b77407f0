/- Package lex, the walk, 3: run (one text for each kind of bytes; wip/gen/gen_run.py prints this). -/
import Derived.Test.YthdigbkcffihkaaGreatDoorLxW2
set_option linter.unusedVariables false
namespace Go.Proofs.YthdigbkcffihkaaGreatDoor
open Go.RowKit
namespace Lx
/-- One value; the reader stands at k; nothing else has turned. -/
def Turn (T b : Nat) (s : ByteArray) (k : Nat) (x : Value) (w : World) (e : Ending) (w' : World) : Prop := e = .returned x ∧ Rd T b s k w' ∧ Mv b w w'
set_option maxHeartbeats 4000000 in
theorem run_alnum (b at_ z : Nat) (s : ByteArray) (w : World) (hs : s.size ≤ 140737488351232) (haz : at_ ≤ z) (hz : z ≤ s.size) (hin : ∀ k, (h : k < s.size) → at_ ≤ k → k < z → alnum s[k] = true) (hout : (h : z < s.size) → alnum s[z] = false) (h : Rd 139 b s at_ w) :
    Calls Tryz.prog 107 #[.pointer (some ⟨b, 0, none⟩), .func (.func 108) #[] #[]] w (Turn 139 b s z (.string (s.extract at_ z)) w) := by
  have c0 := h.c0
  have c1 := h.c1
  go_enter Tryz.func107, Tryz.ntmps107
  go_wp2
  go_loopw [10] (fun y wr => ∃ k, at_ ≤ k ∧ k ≤ z ∧ Rd 139 b s k wr ∧ Mv b w wr) (fun _ wr => s.size - atIn b wr)
  case atStart => exact ⟨at_, Nat.le_refl _, haz, h, Mv.refl _ _⟩
  case round =>
    clear c0 c1
    obtain ⟨k, hk1, hk2, hr, hmv⟩ := hrel
    have hat := hr.at_
    have d0 := hr.c0
    have d1 := hr.c1
    have df := hr.fz
    by_cases hlt : k < s.size
    · by_cases him : k < z
      · have hp := hin k hlt hk1 him
        have hcon : ∀ w : World, Calls Tryz.prog 108 #[.int .u8 ((s[k]).toNat : Int)] w fun e w' => e = .returned (.bool true) ∧ w' = w := fun w => (alnum_any s[k] w).mono fun e w' ⟨he, hw⟩ => ⟨by rw [he, hp], hw.symm⟩
        have hsum : IntKind.i64.wrap ((k : Int) + 1) = (k : Int) + 1 := IntWalk.i64_in _ (by omega)
        clear hp hin hout
        go_wp2
        go_quiet (first | (go_at_call 108; exact Calls.quiet_of_same (hcon _)))
        go_wp2
        have hS := (hr.drewN nq).set_ (k + 1)
        have hM := (hmv.drewN nq).set_ 1 (.int .i64 ((k : Int) + 1))
        have hcast : ((k + 1 : Nat) : Int) = (k : Int) + 1 := by omega
        rw [hcast] at hS
        refine ⟨⟨k + 1, by omega, by omega, hS, hM⟩, ?_⟩
        have hat2 := hS.at_
        rw [hat2, hat]; omega
      · obtain rfl : k = z := by omega
        have hp := hout hlt
        have hcon : ∀ w : World, Calls Tryz.prog 108 #[.int .u8 ((s[k]).toNat : Int)] w fun e w' => e = .returned (.bool false) ∧ w' = w := fun w => (alnum_any s[k] w).mono fun e w' ⟨he, hw⟩ => ⟨by rw [he, hp], hw.symm⟩
        clear hp hin hout
        go_wp2
        go_quiet (first | (go_at_call 108; exact Calls.quiet_of_same (hcon _)))
        go_wp2
        go_quiet (fail)
        go_wp2
        go_ret
        exact ⟨rfl, (hr.drewN _).drewN _, (hmv.drewN _).drewN _⟩
    · obtain rfl : k = z := by omega
      go_wp2
      go_quiet (fail)
      go_wp2
      go_quiet (fail)
      go_wp2
      go_ret
      exact ⟨rfl, (hr.drewN _).drewN _, (hmv.drewN _).drewN _⟩
set_option maxHeartbeats 4000000 in
theorem run_blank (b at_ z : Nat) (s : ByteArray) (w : World) (hs : s.size ≤ 140737488351232) (haz : at_ ≤ z) (hz : z ≤ s.size) (hin : ∀ k, (h : k < s.size) → at_ ≤ k → k < z → blank s[k] = true) (hout : (h : z < s.size) → blank s[z] = false) (h : Rd 139 b s at_ w) :
    Calls Tryz.prog 107 #[.pointer (some ⟨b, 0, none⟩), .func (.func 112) #[] #[]] w (Turn 139 b s z (.string (s.extract at_ z)) w) := by
  have c0 := h.c0
  have c1 := h.c1
  go_enter Tryz.func107, Tryz.ntmps107
  go_wp2
  go_loopw [10] (fun y wr => ∃ k, at_ ≤ k ∧ k ≤ z ∧ Rd 139 b s k wr ∧ Mv b w wr) (fun _ wr => s.size - atIn b wr)
  case atStart => exact ⟨at_, Nat.le_refl _, haz, h, Mv.refl _ _⟩
  case round =>
    clear c0 c1
    obtain ⟨k, hk1, hk2, hr, hmv⟩ := hrel
    have hat := hr.at_
    have d0 := hr.c0
    have d1 := hr.c1
    have df := hr.fz
    by_cases hlt : k < s.size
    · by_cases him : k < z
      · have hp := hin k hlt hk1 him
        have hcon : ∀ w : World, Calls Tryz.prog 112 #[.int .u8 ((s[k]).toNat : Int)] w fun e w' => e = .returned (.bool true) ∧ w' = w := fun w => (blank_any s[k] w).mono fun e w' ⟨he, hw⟩ => ⟨by rw [he, hp], hw.symm⟩
        have hsum : IntKind.i64.wrap ((k : Int) + 1) = (k : Int) + 1 := IntWalk.i64_in _ (by omega)
        clear hp hin hout
        go_wp2
        go_quiet (first | (go_at_call 112; exact Calls.quiet_of_same (hcon _)))
        go_wp2
        have hS := (hr.drewN nq).set_ (k + 1)
        have hM := (hmv.drewN nq).set_ 1 (.int .i64 ((k : Int) + 1))
        have hcast : ((k + 1 : Nat) : Int) = (k : Int) + 1 := by omega
        rw [hcast] at hS
        refine ⟨⟨k + 1, by omega, by omega, hS, hM⟩, ?_⟩
        have hat2 := hS.at_
        rw [hat2, hat]; omega
      · obtain rfl : k = z := by omega
        have hp := hout hlt
        have hcon : ∀ w : World, Calls Tryz.prog 112 #[.int .u8 ((s[k]).toNat : Int)] w fun e w' => e = .returned (.bool false) ∧ w' = w := fun w => (blank_any s[k] w).mono fun e w' ⟨he, hw⟩ => ⟨by rw [he, hp], hw.symm⟩
        clear hp hin hout
        go_wp2
        go_quiet (first | (go_at_call 112; exact Calls.quiet_of_same (hcon _)))
        go_wp2
        go_quiet (fail)
        go_wp2
        go_ret
        exact ⟨rfl, (hr.drewN _).drewN _, (hmv.drewN _).drewN _⟩
    · obtain rfl : k = z := by omega
      go_wp2
      go_quiet (fail)
      go_wp2
      go_quiet (fail)
      go_wp2
      go_ret
      exact ⟨rfl, (hr.drewN _).drewN _, (hmv.drewN _).drewN _⟩
set_option maxHeartbeats 4000000 in
theorem run_digit (b at_ z : Nat) (s : ByteArray) (w : World) (hs : s.size ≤ 140737488351232) (haz : at_ ≤ z) (hz : z ≤ s.size) (hin : ∀ k, (h : k < s.size) → at_ ≤ k → k < z → digit s[k] = true) (hout : (h : z < s.size) → digit s[z] = false) (h : Rd 139 b s at_ w) :
    Calls Tryz.prog 107 #[.pointer (some ⟨b, 0, none⟩), .func (.func 100) #[] #[]] w (Turn 139 b s z (.string (s.extract at_ z)) w) := by
  have c0 := h.c0
  have c1 := h.c1
  go_enter Tryz.func107, Tryz.ntmps107
  go_wp2
  go_loopw [10] (fun y wr => ∃ k, at_ ≤ k ∧ k ≤ z ∧ Rd 139 b s k wr ∧ Mv b w wr) (fun _ wr => s.size - atIn b wr)
  case atStart => exact ⟨at_, Nat.le_refl _, haz, h, Mv.refl _ _⟩
  case round =>
    clear c0 c1
    obtain ⟨k, hk1, hk2, hr, hmv⟩ := hrel
    have hat := hr.at_
    have d0 := hr.c0
    have d1 := hr.c1
    have df := hr.fz
    by_cases hlt : k < s.size
    · by_cases him : k < z
      · have hp := hin k hlt hk1 him
        have hcon : ∀ w : World, Calls Tryz.prog 100 #[.int .u8 ((s[k]).toNat : Int)] w fun e w' => e = .returned (.bool true) ∧ w' = w := fun w => (digit_any s[k] w).mono fun e w' ⟨he, hw⟩ => ⟨by rw [he, hp], hw.symm⟩
        have hsum : IntKind.i64.wrap ((k : Int) + 1) = (k : Int) + 1 := IntWalk.i64_in _ (by omega)
        clear hp hin hout
        go_wp2
        go_quiet (first | (go_at_call 100; exact Calls.quiet_of_same (hcon _)))
        go_wp2
        have hS := (hr.drewN nq).set_ (k + 1)
        have hM := (hmv.drewN nq).set_ 1 (.int .i64 ((k : Int) + 1))
        have hcast : ((k + 1 : Nat) : Int) = (k : Int) + 1 := by omega
        rw [hcast] at hS
        refine ⟨⟨k + 1, by omega, by omega, hS, hM⟩, ?_⟩
        have hat2 := hS.at_
        rw [hat2, hat]; omega
      · obtain rfl : k = z := by omega
        have hp := hout hlt
        have hcon : ∀ w : World, Calls Tryz.prog 100 #[.int .u8 ((s[k]).toNat : Int)] w fun e w' => e = .returned (.bool false) ∧ w' = w := fun w => (digit_any s[k] w).mono fun e w' ⟨he, hw⟩ => ⟨by rw [he, hp], hw.symm⟩
        clear hp hin hout
        go_wp2
        go_quiet (first | (go_at_call 100; exact Calls.quiet_of_same (hcon _)))
        go_wp2
        go_quiet (fail)
        go_wp2
        go_ret
        exact ⟨rfl, (hr.drewN _).drewN _, (hmv.drewN _).drewN _⟩
    · obtain rfl : k = z := by omega
      go_wp2
      go_quiet (fail)
      go_wp2
      go_quiet (fail)
      go_wp2
      go_ret
      exact ⟨rfl, (hr.drewN _).drewN _, (hmv.drewN _).drewN _⟩
end Lx
end Go.Proofs.YthdigbkcffihkaaGreatDoor
