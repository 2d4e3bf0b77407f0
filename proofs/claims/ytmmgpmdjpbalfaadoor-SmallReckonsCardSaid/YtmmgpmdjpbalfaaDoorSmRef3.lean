/- The reference's shift, loop by loop. -/
import Derived.Test.YtmmgpmdjpbalfaaDoorSmRef2
set_option linter.unusedVariables false
namespace Go.Proofs.YtmmgpmdjpbalfaaDoor
open Go.RowKit
namespace Sm
theorem half_even (x : Int) (h : x.tmod 2 = 0) : x.tdiv 2 = x / 2 := by
  obtain ⟨t1, t2, t3, t4, t5⟩ := tdm x 2 (by omega); omega
theorem half_odd (x : Int) (hx : x < 0) (h : ¬ x.tmod 2 = 0) : x.tdiv 2 - 1 = x / 2 := by
  obtain ⟨t1, t2, t3, t4, t5⟩ := tdm x 2 (by omega); omega
theorem div_pow_succ (x : Int) (k : Nat) : x / 2 ^ (k + 1) = x / 2 / 2 ^ k := by
  rw [Int.pow_succ, Int.mul_comm, Int.ediv_ediv_of_nonneg (by omega)]
theorem neg_one_div (k : Nat) : (-1 : Int) / 2 ^ k = -1 := by
  induction k with
  | zero => rfl
  | succ k ih => rw [div_pow_succ]; exact ih
theorem zero_div' (k : Nat) : (0 : Int) / 2 ^ k = 0 := Int.zero_ediv _
theorem div_far (x : Int) (hx : Inr x) (k : Nat) (hk : 63 ≤ k) : x / 2 ^ k = if x < 0 then -1 else 0 := by
  obtain ⟨c, rfl⟩ := Nat.exists_eq_add_of_le hk
  rw [Int.pow_add, ← Int.ediv_ediv_of_nonneg (by decide)]
  have h : (2 : Int) ^ 63 = 9223372036854775808 := by decide
  rw [h]
  unfold Inr at hx
  split
  · rw [show x / 9223372036854775808 = -1 by omega]; exact neg_one_div c
  · rw [show x / 9223372036854775808 = 0 by omega]; exact zero_div' c
theorem shf_right (x y : Int) (hx : Inr x) (hy : y < 0) : shf x y = x / 2 ^ (-y).toNat := by
  unfold shf
  rw [if_pos hy]
  rcases Int.le_total (-y) 63 with h | h
  · rw [Int.min_eq_left h]
  · rw [Int.min_eq_right h, div_far x hx _ (by omega), div_far x hx _ (by omega)]
theorem half_inr {x : Int} (hx : Inr x) : Inr (x / 2) := by unfold Inr at *; omega
set_option maxRecDepth 100000 in
set_option maxHeartbeats 2000000 in
theorem rshift_right (x y : Int) (w : World) (hx : Inr x) (hy : Inr y) (hn : y < 0) :
    Calls Tryd.prog 51 #[.int .i64 x, .int .i64 y] w (Done (.tuple #[.int .i64 (shf x y), .bool true]) w) := by
  have HS := Lib.hid (shf_right x y hx hn)
  obtain ⟨R, hR⟩ : ∃ R, x / 2 ^ (-y).toNat = R := ⟨_, rfl⟩
  have hy1 : -4611686018427387904 ≤ y := hy.1
  have HX := Lib.hid hx
  rw [hR] at HS
  have HR := Lib.hid hR
  clear hR hx hy
  go_enter Tryd.func51, Tryd.ntmps51
  go_wp2_with fail
  go_loop [0, 1, 6] (fun a b _ => ∃ (xc : Int) (k : Nat), a = .int .i64 xc ∧ b = .int .i64 (-(k : Int)) ∧ (k : Int) ≤ 4611686018427387904 ∧ Inr xc ∧ xc / 2 ^ k = R) (fun _ b _ => (-intOf b).toNat)
  case atStart => exact ⟨x, (-y).toNat, rfl, by congr 1; omega, by omega, HX.out, HR.out⟩
  case round =>
    obtain ⟨xc, k, rfl, rfl, hk, hxc, hr⟩ := hrel
    obtain ⟨c1, c2⟩ := (show -4611686018427387904 ≤ xc ∧ xc ≤ 4611686018427387903 from hxc)
    have HI := Lib.hid hxc
    have HR2 := Lib.hid hr
    clear hxc hr
    by_cases h0 : xc = 0
    · subst h0
      have hf : shf x y = 0 := by rw [HS.out, ← HR2.out, zero_div']
      have HF := Lib.hid hf; clear hf HS
      by_cases hk0 : 0 < k
      all_goals
        go_wp2
        go_loop [0, 1] (fun a b => a = .int .i64 0 ∧ b = .int .i64 (-(k : Int))) (fun _ b => 0)
        case atStart => exact ⟨rfl, rfl⟩
        case round =>
          obtain ⟨rfl, rfl⟩ := hrel
          go_wp2
          go_ret2
          exact ⟨ret2 (vint HF.out.symm) rfl, rfl⟩
    · by_cases h1 : xc = -1
      · subst h1
        have hf : shf x y = -1 := by rw [HS.out, ← HR2.out, neg_one_div]
        have HF := Lib.hid hf; clear hf HS
        by_cases hk0 : 0 < k
        all_goals
          go_wp2
          go_loop [0, 1] (fun a b => a = .int .i64 (-1) ∧ b = .int .i64 (-(k : Int))) (fun _ b => 0)
          case atStart => exact ⟨rfl, rfl⟩
          case round =>
            obtain ⟨rfl, rfl⟩ := hrel
            go_wp2
            go_ret2
            exact ⟨ret2 (vint HF.out.symm) rfl, rfl⟩
      · cases k with
        | zero =>
          have hf : shf x y = xc := by rw [HS.out, ← HR2.out]; simp
          have HF := Lib.hid hf; clear hf HS
          go_wp2
          go_loop [0, 1] (fun a b => a = .int .i64 xc ∧ b = .int .i64 (-((0 : Nat) : Int))) (fun _ b => 0)
          case atStart => exact ⟨rfl, rfl⟩
          case round =>
            obtain ⟨rfl, rfl⟩ := hrel
            go_wp2
            go_ret2
            exact ⟨ret2 (vint HF.out.symm) rfl, rfl⟩
        | succ j =>
          have hstep : xc / 2 / 2 ^ j = R := by rw [← div_pow_succ]; exact HR2.out
          have HT := Lib.hid hstep
          have hi := half_inr HI.out
          have HJ := Lib.hid hi
          have b1 : (xc != 0) = true := by simpa using h0
          have b2 : (xc != -1) = true := by simpa using h1
          by_cases hs : xc < 0
          · by_cases ho : xc.tmod 2 = 0
            · have e : xc.tdiv 2 = xc / 2 := half_even xc ho
              have E := Lib.hid e
              have b3 : (xc.tmod 2 != 0) = false := by simpa using ho
              clear hstep hi e HS
              go_wp2
              go_round
              case rel => exact ⟨xc / 2, j, vint E.out, by go_num, by omega, HJ.out, HT.out⟩
              case measure => simp [intOf]; omega
            · have e : wrap64 (xc.tdiv 2 - 1) = xc / 2 := by rw [half_odd xc hs ho]; exact wr (by unfold Inr at hi; omega)
              have E := Lib.hid e
              have b3 : (xc.tmod 2 != 0) = true := by simpa using ho
              clear hstep hi e HS
              go_wp2
              go_round
              case rel => exact ⟨xc / 2, j, vint E.out, by go_num, by omega, HJ.out, HT.out⟩
              case measure => simp [intOf]; omega
          · have hs0 : 0 ≤ xc := by omega
            clear hstep hi HS
            go_wp2
            go_round
            case rel => exact ⟨xc / 2, j, rfl, by go_num, by omega, HJ.out, HT.out⟩
            case measure => simp [intOf]; omega
theorem double_over (xc : Int) (j : Nat) (h0 : ¬ Inr (2 * xc)) : ¬ Inr (xc * 2 ^ (j + 1)) := by
  intro h
  apply h0
  have e : xc * 2 ^ (j + 1) = 2 * xc * 2 ^ j := by rw [Int.pow_succ, Int.mul_comm 2 xc, Int.mul_assoc, Int.mul_comm 2]
  rw [e] at h
  have hp := pow_pos' j
  unfold Inr at *
  rcases Int.le_total 0 (2 * xc) with hs | hs
  · have : 2 * xc * 1 ≤ 2 * xc * 2 ^ j := Int.mul_le_mul_of_nonneg_left (by omega) hs
    omega
  · have : 2 * xc * 2 ^ j ≤ 2 * xc * 1 := Int.mul_le_mul_of_nonpos_left hs (by omega)
    omega
/-- How a shift to the left ends. -/
def LT (x : Int) (y : Nat) (w : World) (e : Ending) (w' : World) : Prop :=
  w = w' ∧ ((Inr (x * 2 ^ y) ∧ e = .returned (.tuple #[.int .i64 (x * 2 ^ y), .bool true])) ∨ (¬ Inr (x * 2 ^ y) ∧ e = .returned (.tuple #[.int .i64 0, .bool false])))
theorem LT.fits {x v : Int} {y : Nat} {w : World} {e : Ending} (h : Inr v) (hv : v = x * 2 ^ y) (he : e = .returned (.tuple #[.int .i64 v, .bool true])) : LT x y w e w := ⟨rfl, .inl ⟨hv ▸ h, by rw [he, hv]⟩⟩
theorem LT.over {x : Int} {y : Nat} {w : World} {e : Ending} (h : ¬ Inr (x * 2 ^ y)) (he : e = .returned (.tuple #[.int .i64 0, .bool false])) : LT x y w e w := ⟨rfl, .inr ⟨h, he⟩⟩
set_option maxRecDepth 100000 in
set_option maxHeartbeats 2000000 in
theorem rshift_left (x : Int) (y : Nat) (w : World) (hx : Inr x) (hy : (y : Int) ≤ 4611686018427387903) :
    Calls Tryd.prog 51 #[.int .i64 x, .int .i64 (y : Int)] w (LT x y w) := by
  have HX := Lib.hid hx
  clear hx
  go_enter Tryd.func51, Tryd.ntmps51
  go_wp2_with fail
  go_loop [0, 1] (fun a b => a = .int .i64 x ∧ b = .int .i64 (y : Int)) (fun _ _ => 0)
  case atStart => exact ⟨rfl, rfl⟩
  case round =>
    obtain ⟨rfl, rfl⟩ := hrel
    go_wp2_with fail
    go_loop [0, 1] (fun a b => ∃ (xc : Int) (k : Nat), a = .int .i64 xc ∧ b = .int .i64 (k : Int) ∧ k ≤ y ∧ Inr xc ∧ xc * 2 ^ k = x * 2 ^ y) (fun _ b => (intOf b).toNat)
    case atStart => exact ⟨x, y, rfl, rfl, Nat.le_refl _, HX.out, rfl⟩
    case round =>
      obtain ⟨xc, k, rfl, rfl, hk, hxc, hr⟩ := hrel
      obtain ⟨c1, c2⟩ := (show -4611686018427387904 ≤ xc ∧ xc ≤ 4611686018427387903 from hxc)
      have HI := Lib.hid hxc
      have HR := Lib.hid hr
      clear hxc hr
      by_cases h0 : xc = 0
      · subst h0
        by_cases hk0 : 0 < k
        all_goals
          go_wp2
          go_ret2
          exact LT.fits HI.out (by rw [← HR.out, Int.zero_mul]) rfl
      · cases k with
        | zero =>
          have hv : xc = x * 2 ^ y := by rw [← HR.out]; simp
          have HV := Lib.hid hv; clear hv
          go_wp2
          go_ret2
          exact LT.fits HI.out HV.out rfl
        | succ j =>
          have b1 : (xc != 0) = true := by simpa using h0
          have hj : (j : Int) ≤ 4611686018427387903 := by omega
          have e1 : ((j + 1 : Nat) : Int) = (j : Int) + 1 := by omega
          by_cases hi : Inr (2 * xc)
          · have hn : xc * 2 ^ (j + 1) = 2 * xc * 2 ^ j := by rw [Int.pow_succ, Int.mul_comm 2 xc, Int.mul_assoc, Int.mul_comm 2]
            have HN := Lib.hid (hn.symm.trans HR.out)
            clear hn
            rw [e1]
            have hk2 : j ≤ y := by omega
            clear e1 hk
            go_wp2_with (go_at_call 12; go_must (refine (rnumber_in _ _ hi).mono ?_); rintro e w' ⟨rfl, rfl⟩)
            go_round
            case rel => exact ⟨2 * xc, j, rfl, by go_num, hk2, hi, HN.out⟩
            case measure => simp [intOf]
          · have HO := Lib.hid (double_over xc j hi)
            rw [HR.out] at HO
            rw [e1]
            clear e1 hk
            go_wp2_with (go_at_call 12; go_must (refine (rnumber_out _ _ hi).mono ?_); rintro e w' ⟨rfl, rfl⟩)
            go_ret2
            exact LT.over HO.out rfl
end Sm
end Go.Proofs.YtmmgpmdjpbalfaaDoor
