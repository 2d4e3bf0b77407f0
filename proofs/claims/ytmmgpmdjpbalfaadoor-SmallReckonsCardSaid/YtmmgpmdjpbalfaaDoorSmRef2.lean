/- The reference's quotient and shift; package small's product. -/
import Derived.Test.YtmmgpmdjpbalfaaDoorSmTimes
set_option linter.unusedVariables false
namespace Go.Proofs.YtmmgpmdjpbalfaaDoor
open Go.RowKit
namespace Sm
/-- How package small's product ends. -/
def ST (x y : Int) (w : World) (e : Ending) (w' : World) : Prop :=
  w = w' ∧ ((x.natAbs * y.natAbs ≤ 4611686018427387904 ∧ e = .returned (.tuple #[.int .i64 (x * y), .int .i64 0])) ∨
    (4611686018427387904 < x.natAbs * y.natAbs ∧ e = .returned (.tuple #[.int .i64 0, .int .i64 9])))
theorem ST.big {x y : Int} {w : World} {e : Ending} (h : 4611686018427387904 < x.natAbs * y.natAbs) (he : e = .returned (.tuple #[.int .i64 0, .int .i64 9])) : ST x y w e w := ⟨rfl, .inr ⟨h, he⟩⟩
theorem ST.fits {x y : Int} {w : World} {e : Ending} (h : x.natAbs * y.natAbs ≤ 4611686018427387904) (he : e = .returned (.tuple #[.int .i64 (x * y), .int .i64 0])) : ST x y w e w := ⟨rfl, .inl ⟨h, he⟩⟩
set_option maxHeartbeats 1000000 in
theorem times_any (x y : Int) (w : World) (hx : Inr x) (hy : Inr y) :
    Calls Tryd.prog 60 #[.int .i64 x, .int .i64 y] w (ST x y w) := by
  have HP := Lib.hid (prod_sign x y)
  obtain ⟨a, ea⟩ : ∃ a, x.natAbs = a := ⟨_, rfl⟩
  obtain ⟨b, eb⟩ : ∃ b, y.natAbs = b := ⟨_, rfl⟩
  have a1 : a ≤ 4611686018427387904 := by unfold Inr at hx; omega
  have b1 : b ≤ 4611686018427387904 := by unfold Inr at hy; omega
  rw [ea, eb] at HP
  have hab : a * b ≤ 4611686018427387904 * 4611686018427387904 := Nat.mul_le_mul a1 b1
  obtain ⟨hi, ehi⟩ : ∃ hi, a * b / 18446744073709551616 = hi := ⟨_, rfl⟩
  obtain ⟨lo, elo⟩ : ∃ lo, a * b % 18446744073709551616 = lo := ⟨_, rfl⟩
  have hhi : hi < 18446744073709551616 := by omega
  have hlo : lo < 18446744073709551616 := by omega
  have EL := Lib.hid ehi
  have EH := Lib.hid elo
  clear ehi elo hab
  have call : ∀ w, Calls Tryd.prog 72 #[.int .u64 a, .int .u64 b] w (Done (.tuple #[.int .u64 hi, .int .u64 lo]) w) := fun w =>
    (Tryd.bits_Mul64 a b (by omega) (by omega) w).mono fun e w' ⟨he, hw⟩ => ⟨by rw [he, EL.out, EH.out], hw.symm⟩
  have HC := Lib.hid call; clear call
  cases hsx : decide (x < 0) <;> cases hsy : decide (y < 0)
  all_goals
    rw [hsx, hsy] at HP
    by_cases h1 : hi = 0
    · subst h1
      by_cases h2 : 4611686018427387904 < lo
      · have HF : Hid (4611686018427387904 < x.natAbs * y.natAbs) := Lib.hid (by rw [ea, eb]; have := EL.out; have := EH.out; omega)
        go_enter Tryd.func60, Tryd.ntmps60
        go_wp2_with (first
          | (go_at_call 59; go_must (refine (size_any _ _ (by assumption)).mono ?_); rintro e w' ⟨rfl, rfl⟩)
          | (go_at_call 72; go_must (refine (HC.out _).mono ?_); rintro e w' ⟨rfl, rfl⟩))
        go_ret2
        exact ST.big HF.out rfl
      · have hm : lo = b * a := by have := EL.out; have := EH.out; rw [Nat.mul_comm b a]; omega
        have HF : Hid (x.natAbs * y.natAbs ≤ 4611686018427387904) := Lib.hid (by rw [ea, eb, Nat.mul_comm, ← hm]; omega)
        have hp := HP.out
        rw [← hm] at hp
        first | rw [if_neg (by decide)] at hp | rw [if_pos (by decide)] at hp
        have HQ := Lib.hid hp
        have h3 : lo ≤ 4611686018427387904 := by omega
        clear hp hm HP h2
        go_enter Tryd.func60, Tryd.ntmps60
        go_wp2_with (first
          | (go_at_call 59; go_must (refine (size_any _ _ (by assumption)).mono ?_); rintro e w' ⟨rfl, rfl⟩)
          | (go_at_call 72; go_must (refine (HC.out _).mono ?_); rintro e w' ⟨rfl, rfl⟩))
        go_ret2
        exact ST.fits HF.out (ret2 (vint HQ.out.symm) rfl)
    · have HF : Hid (4611686018427387904 < x.natAbs * y.natAbs) := Lib.hid (by rw [ea, eb]; have := EL.out; have := EH.out; omega)
      have h4 : ((hi : Int) != 0) = true := by simp; omega
      go_enter Tryd.func60, Tryd.ntmps60
      go_wp2_with (first
        | (go_at_call 59; go_must (refine (size_any _ _ (by assumption)).mono ?_); rintro e w' ⟨rfl, rfl⟩)
        | (go_at_call 72; go_must (refine (HC.out _).mono ?_); rintro e w' ⟨rfl, rfl⟩))
      go_ret2
      exact ST.big HF.out rfl

set_option maxHeartbeats 1000000 in
theorem rfloor_any (x y : Int) (w : World) (hx : Inr x) (hy : Inr y) (hn : ¬ y = 0) :
    Calls Tryd.prog 50 #[.int .i64 x, .int .i64 y] w (Done (.int .i64 (fl x y)) w) := by
  obtain ⟨t1, t2, t3, t4, t5⟩ := tdm x y hn
  obtain ⟨q, hq⟩ : ∃ q, wrap64 (x.tdiv y) = q := ⟨_, rfl⟩
  have hw : wrap64 (x.tdiv y) = x.tdiv y := wr (by unfold Inr at hx; omega)
  have q1 : -4611686018427387904 ≤ q ∧ q ≤ 4611686018427387904 := by rw [← hq, hw]; unfold Inr at hx; omega
  obtain ⟨q2, q3⟩ := q1
  have hqy : q * y = y * x.tdiv y := by rw [← hq, hw, Int.mul_comm]
  obtain ⟨p, hp⟩ : ∃ p, wrap64 (q * y) = p := ⟨_, rfl⟩
  have hp' : p = x - x.tmod y := by rw [← hp, hqy, wr (by unfold Inr at hx hy; omega)]; omega
  have hpx : (p != x) = (x.tmod y != 0) := by
    rw [hp', Bool.eq_iff_iff]; simp only [bne_iff_ne, ne_eq]; omega
  have hc : fl x y = if (p != x) && (decide (x < 0) != decide (y < 0)) then q - 1 else q := by
    rw [hpx, ← hq, hw]
    unfold fl
    by_cases h1 : x.tmod y = 0 <;> by_cases h2 : x < 0 <;> by_cases h3 : y < 0 <;> simp [h1, h2, h3]
  have HC := Lib.hid hc
  clear hc hw t1 t2 t3 t4 t5 hx hy hqy hp' hpx
  cases h1 : (p != x) <;> cases h2 : decide (x < 0) <;> cases h3 : decide (y < 0)
  all_goals
    have hf := HC.out
    rw [h1, h2, h3] at hf
    have H := Lib.hid hf; clear hf HC
    go_enter Tryd.func50, Tryd.ntmps50
    go_wp2
    go_ret
    exact ⟨ret1 (vint (by rw [H.out]; first | rfl | exact hq | (rw [hq]; rfl))), rfl⟩
end Sm
end Go.Proofs.YtmmgpmdjpbalfaaDoor
