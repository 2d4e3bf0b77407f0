/- Products: package small's by the library, the reference's bit by bit. -/
import Derived.Test.YtmmgpmdjpbalfaaDoorSmRules
import Derived.Test.YtmmgpmdjpbalfaaDoorSmRef
set_option linter.unusedVariables false
namespace Go.Proofs.YtmmgpmdjpbalfaaDoor
open Go.RowKit
namespace Sm
set_option maxHeartbeats 1000000 in
theorem amount_any (x : Int) (w : World) (hx : Inr x) :
    Calls Tryd.prog 56 #[.int .i64 x] w (Done (.int .u64 (x.natAbs : Int)) w) := by
  obtain ⟨x1, x2⟩ := hx
  by_cases h : x < 0
  · go_enter Tryd.func56, Tryd.ntmps56
    go_wp2
    go_ret
    exact ⟨ret1 (vint (by simp only [wrap_u64_eq]; omega)), rfl⟩
  · go_enter Tryd.func56, Tryd.ntmps56
    go_wp2
    go_ret
    exact ⟨ret1 (vint (by omega)), rfl⟩
set_option maxHeartbeats 1000000 in
theorem size_any (x : Int) (w : World) (hx : Inr x) :
    Calls Tryd.prog 59 #[.int .i64 x] w (Done (.int .u64 (x.natAbs : Int)) w) := by
  obtain ⟨x1, x2⟩ := hx
  by_cases h : x < 0
  · go_enter Tryd.func59, Tryd.ntmps59
    go_wp2
    go_ret
    exact ⟨ret1 (vint (by omega)), rfl⟩
  · go_enter Tryd.func59, Tryd.ntmps59
    go_wp2
    go_ret
    exact ⟨ret1 (vint (by omega)), rfl⟩
theorem prod_sign (x y : Int) : x * y = if (decide (x < 0) != decide (y < 0)) = true then -((y.natAbs * x.natAbs : Nat) : Int) else ((y.natAbs * x.natAbs : Nat) : Int) := by
  have e : (y.natAbs * x.natAbs : Nat) = (x * y).natAbs := by rw [Int.natAbs_mul, Nat.mul_comm]
  rw [e]
  by_cases hx : x < 0 <;> by_cases hy : y < 0 <;> simp only [hx, hy, decide_true, decide_false]
  · have := Int.mul_nonneg_of_nonpos_of_nonpos (a := x) (b := y) (by omega) (by omega)
    simp; omega
  · have := Int.mul_nonpos_of_nonpos_of_nonneg (a := x) (b := y) (by omega) (by omega)
    simp; omega
  · have := Int.mul_nonpos_of_nonneg_of_nonpos (a := x) (b := y) (by omega) (by omega)
    simp; omega
  · have := Int.mul_nonneg (a := x) (b := y) (by omega) (by omega)
    simp; omega
theorem bit_step (b a j m : Nat) (h : m = b / 2 ^ (j + 1) * a) : b / 2 ^ j * a = 2 * m + (b / 2 ^ j % 2) * a := by
  have e : b / 2 ^ (j + 1) = b / 2 ^ j / 2 := by rw [Nat.pow_succ, Nat.div_div_eq_div_mul]
  rw [h, e, ← Nat.mul_assoc, ← Nat.add_mul]
  congr 1; omega
/-- How a product ends: within 2^62 or beyond. -/
def RT (x y : Int) (w : World) (e : Ending) (w' : World) : Prop :=
  w = w' ∧ ((x.natAbs * y.natAbs ≤ 4611686018427387904 ∧ e = .returned (.tuple #[.int .i64 (x * y), .bool (decide (x * y ≤ 4611686018427387903))])) ∨
    (4611686018427387904 < x.natAbs * y.natAbs ∧ e = .returned (.tuple #[.int .i64 0, .bool false])))
theorem RT.big {x y : Int} {w : World} {e : Ending} (h : 4611686018427387904 < x.natAbs * y.natAbs) (he : e = .returned (.tuple #[.int .i64 0, .bool false])) : RT x y w e w := ⟨rfl, .inr ⟨h, he⟩⟩
theorem RT.fits {x y : Int} {w : World} {e : Ending} (h : x.natAbs * y.natAbs ≤ 4611686018427387904) (he : e = .returned (.tuple #[.int .i64 (x * y), .bool (decide (x * y ≤ 4611686018427387903))])) : RT x y w e w := ⟨rfl, .inl ⟨h, he⟩⟩
set_option maxRecDepth 100000 in
set_option maxHeartbeats 1000000 in
theorem rtimes_any (x y : Int) (w : World) (hx : Inr x) (hy : Inr y) :
    Calls Tryd.prog 49 #[.int .i64 x, .int .i64 y] w (RT x y w) := by
  have HP := Lib.hid (prod_sign x y)
  obtain ⟨a, ea⟩ : ∃ a, x.natAbs = a := ⟨_, rfl⟩
  obtain ⟨b, eb⟩ : ∃ b, y.natAbs = b := ⟨_, rfl⟩
  have a1 : a ≤ 4611686018427387904 := by unfold Inr at hx; omega
  have b1 : b ≤ 4611686018427387904 := by unfold Inr at hy; omega
  rw [ea, eb] at HP
  cases hsx : decide (x < 0) <;> cases hsy : decide (y < 0)
  all_goals
    rw [hsx, hsy] at HP
    go_enter Tryd.func49, Tryd.ntmps49
    go_wp2_with (go_at_call 56; go_must (refine (amount_any _ _ (by assumption)).mono ?_); rintro e w' ⟨rfl, rfl⟩)
    go_loop [8, 9] (fun s i => ∃ k m : Nat, k ≤ 63 ∧ i = .int .i64 ((k : Int) - 1) ∧ s = .int .u64 (m : Int) ∧ m = b / 2 ^ k * a) (fun _ i => (intOf i + 1).toNat)
    case atStart => exact ⟨63, 0, by omega, rfl, rfl, by rw [Nat.div_eq_of_lt (by omega)]; simp⟩
    case round =>
      obtain ⟨k, m, hk, rfl, rfl, hm⟩ := hrel
      have hle : m ≤ a * b := by rw [hm, Nat.mul_comm]; exact Nat.mul_le_mul_left _ (Nat.div_le_self _ _)
      have HL := Lib.hid hle
      have HM := Lib.hid hm
      clear hm hle
      by_cases hbig : 4611686018427387904 < m
      · have hfin : 4611686018427387904 < x.natAbs * y.natAbs := by rw [ea, eb]; have := HL.out; omega
        have HF := Lib.hid hfin; clear hfin
        cases k with
        | zero =>
          go_wp2
          go_ret2
          exact RT.big HF.out rfl
        | succ j =>
          have e1 : ((j + 1 : Nat) : Int) - 1 = (j : Int) := by omega
          rw [e1]
          clear e1
          go_wp2
          go_ret2
          exact RT.big HF.out rfl
      · cases k with
        | zero =>
          have hm : m = b * a := by have := HM.out; simpa using this
          have hfit : x.natAbs * y.natAbs ≤ 4611686018427387904 := by rw [ea, eb, Nat.mul_comm]; omega
          have hp := HP.out
          rw [← hm] at hp
          first | rw [if_neg (by decide)] at hp | rw [if_pos (by decide)] at hp
          have HQ := Lib.hid hp
          have HF := Lib.hid hfit
          have m2 : m ≤ 4611686018427387904 := by omega
          have e1 : ((0 : Nat) : Int) - 1 = -1 := by omega
          rw [e1]
          clear hm hp hfit HP HM HL hbig e1
          go_wp2
          go_ret2
          exact RT.fits HF.out (ret2 (vint HQ.out.symm) (vbool (by rw [HQ.out]; try (first | rfl | (simp; done) | (simp; omega)))))
        | succ j =>
          have hs := bit_step b a j m HM.out
          have hm2 : (m : Int) ≤ 4611686018427387904 := by omega
          have hj : j ≤ 62 := by omega
          have hq0 : 0 ≤ (b : Int) / 2 ^ j := Int.ediv_nonneg (by omega) (by have := pow_pos' j; omega)
          have e1 : ((j + 1 : Nat) : Int) - 1 = (j : Int) := by omega
          rw [e1]
          cases hb : b / 2 ^ j % 2 with
          | zero =>
            rw [hb] at hs
            have HS := Lib.hid hs
            have hbi : ((b : Int) / 2 ^ j % 2 == 1) = false := by
              have : ((b / 2 ^ j % 2 : Nat) : Int) = 0 := by rw [hb]; rfl
              simp only [Int.natCast_emod, Int.natCast_ediv, Int.natCast_pow] at this
              rw [show ((2 : Nat) : Int) = 2 from rfl] at this
              rw [this]; rfl
            clear hs hb e1 HM HL
            go_wp2
            go_round
            case rel => exact ⟨j, 2 * m, by omega, rfl, by go_num, by rw [HS.out]; omega⟩
            case measure => simp [intOf]
          | succ t =>
            have ht : t = 0 := by have := Nat.mod_lt (b / 2 ^ j) (show 0 < 2 by decide); omega
            subst ht
            rw [hb] at hs
            have HS := Lib.hid hs
            have hbi : ((b : Int) / 2 ^ j % 2 == 1) = true := by
              have : ((b / 2 ^ j % 2 : Nat) : Int) = 1 := by rw [hb]; rfl
              simp only [Int.natCast_emod, Int.natCast_ediv, Int.natCast_pow] at this
              rw [show ((2 : Nat) : Int) = 2 from rfl] at this
              rw [this]; rfl
            clear hs hb e1 HM HL
            go_wp2
            go_round
            case rel => exact ⟨j, 2 * m + a, by omega, rfl, by go_num, by rw [HS.out]; omega⟩
            case measure => simp [intOf]
end Sm
end Go.Proofs.YtmmgpmdjpbalfaaDoor
