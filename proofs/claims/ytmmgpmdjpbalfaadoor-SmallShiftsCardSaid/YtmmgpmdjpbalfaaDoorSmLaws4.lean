/- SmallShifts: the walk. Printed by wip/gen/gen_sh.py. -/
import Derived.Test.YtmmgpmdjpbalfaaDoorSmAwake
import Derived.Test.YtmmgpmdjpbalfaaDoorSmRules
set_option linter.unusedVariables false
namespace Go.Proofs.YtmmgpmdjpbalfaaDoor
open Go.RowKit
namespace Sm
theorem chain3 {w w0 w1 w2 : World} (hb : Below w.heap.size w w0) (hb1 : Below w0.heap.size w0 w1) (hb2 : Below w1.heap.size w1 w2) : Below w.heap.size w w2 :=
  have c1 := hb.trans (hb1.mono hb.size)
  c1.trans (hb2.mono c1.size)
set_option maxRecDepth 100000 in
set_option maxHeartbeats 4000000 in
theorem shifts_lt_ok (a n x k u d p : Int) (w : World) (ea : a / 2 = x) (ek : max 0 (min n 70) = k) (hk : Inr k) (hk' : Inr (-k)) (hu : Inr u) (hd : Inr d) (n1 : -9223372036854775808 ≤ n) (n2 : n ≤ 9223372036854775807) (hx : Inr x)
    (CU : Hid (∀ w, Calls Tryd.prog 28 #[.int .u64 (wd x), .int .u64 (wd k)] w (Out2 (wd u) 0 w)))
    (CB : Hid (∀ w, Calls Tryd.prog 28 #[.int .u64 (wd u), .int .u64 (wd (-k))] w (Out2 (wd x) 0 w)))
    (CX : Hid (∀ w, Calls Tryd.prog 28 #[.int .u64 (wd x), .int .u64 (wd (-k))] w (Out2 (wd d) 0 w)))
    (ep : wrap64 (2 ^ k.toNat) = p) (hp : Inr p) (CF : Hid (∀ w, Calls Tryd.prog 24 #[.int .u64 (wd x), .int .u64 (wd p)] w (Out2 (wd d) 0 w))) (k0 : 0 ≤ k) (k1 : k < 62) (ht : Pow10 w) :
    Calls Tryd.prog 7 #[.int .i64 a, .int .i64 n] w (Back (.bool true) w) := by
  have H := Lib.hid ht; clear ht
  go_enter Tryd.func7, Tryd.ntmps7
  go_wp2_with fail
  refine (awake_any _ H.out).mono ?_; rintro e w0 ⟨rfl, hb⟩
  go_wp2_with (go_at_call 11; go_must (refine (of_in _ _ (by assumption)).mono ?_); rintro e w' ⟨rfl, rfl⟩)
  refine (CU.out _).mono ?_; rintro e w1 ⟨rfl, hb1⟩
  go_wp2_with fail
  refine (CB.out _).mono ?_; rintro e w2 ⟨rfl, hb2⟩
  go_wp2_with fail
  refine (CX.out _).mono ?_; rintro e w3 ⟨rfl, hb3⟩
  go_wp2_with (go_at_call 11; go_must (refine (of_in _ _ hp).mono ?_); rintro e w' ⟨rfl, rfl⟩)
  refine (CF.out _).mono ?_; rintro e w4 ⟨rfl, hb4⟩
  go_wp2_with fail
  go_ret
  refine ⟨rfl, ?_⟩
  have c0 := hb.trans (hb1.mono hb.size)
  have c1 := c0.trans (hb2.mono c0.size)
  have c2 := c1.trans (hb3.mono c1.size)
  have c3 := c2.trans (hb4.mono c2.size)
  exact c3
set_option maxRecDepth 100000 in
set_option maxHeartbeats 4000000 in
theorem shifts_ge_ok (a n x k u d p : Int) (w : World) (ea : a / 2 = x) (ek : max 0 (min n 70) = k) (hk : Inr k) (hk' : Inr (-k)) (hu : Inr u) (hd : Inr d) (n1 : -9223372036854775808 ≤ n) (n2 : n ≤ 9223372036854775807) (hx : Inr x)
    (CU : Hid (∀ w, Calls Tryd.prog 28 #[.int .u64 (wd x), .int .u64 (wd k)] w (Out2 (wd u) 0 w)))
    (CB : Hid (∀ w, Calls Tryd.prog 28 #[.int .u64 (wd u), .int .u64 (wd (-k))] w (Out2 (wd x) 0 w)))
    (CX : Hid (∀ w, Calls Tryd.prog 28 #[.int .u64 (wd x), .int .u64 (wd (-k))] w (Out2 (wd d) 0 w)))
    (k0 : 62 ≤ k) (k1 : k ≤ 70) (hd1 : d = 0 ∧ 0 ≤ x ∨ d = -1 ∧ x < 0) (ht : Pow10 w) :
    Calls Tryd.prog 7 #[.int .i64 a, .int .i64 n] w (Back (.bool true) w) := by
  have H := Lib.hid ht; clear ht
  obtain ⟨x1, x2⟩ := (show -4611686018427387904 ≤ x ∧ x ≤ 4611686018427387903 from hx)
  have hxs : (x < 0 ∧ d = -1) ∨ (0 ≤ x ∧ d = 0) := by omega
  rcases (show k = 62 ∨ k = 63 ∨ k = 64 ∨ k = 65 ∨ k = 66 ∨ k = 67 ∨ k = 68 ∨ k = 69 ∨ k = 70 by omega) with rfl | rfl | rfl | rfl | rfl | rfl | rfl | rfl | rfl
  all_goals
    rcases hxs with ⟨hs1, rfl⟩ | ⟨hs1, rfl⟩
  all_goals
    clear hd1 k0 k1
    go_enter Tryd.func7, Tryd.ntmps7
    go_wp2_with fail
    refine (awake_any _ H.out).mono ?_; rintro e w0 ⟨rfl, hb⟩
    go_wp2_with (go_at_call 11; go_must (refine (of_in _ _ (by assumption)).mono ?_); rintro e w' ⟨rfl, rfl⟩)
    refine (CU.out _).mono ?_; rintro e w1 ⟨rfl, hb1⟩
    go_wp2_with fail
    refine (CB.out _).mono ?_; rintro e w2 ⟨rfl, hb2⟩
    go_wp2_with fail
    refine (CX.out _).mono ?_; rintro e w3 ⟨rfl, hb3⟩
    go_wp2_with (go_at_call 13; go_must (refine (value_wd _ _ hd).mono ?_); rintro e w' ⟨rfl, rfl⟩)
    go_ret
    refine ⟨by first | rfl | exact ret1 (vbool (by simp; omega)), ?_⟩
    have c0 := hb.trans (hb1.mono hb.size)
    have c1 := c0.trans (hb2.mono c0.size)
    have c2 := c1.trans (hb3.mono c1.size)
    exact c2
set_option maxRecDepth 100000 in
set_option maxHeartbeats 4000000 in
theorem shifts_lt_over (a n x k u d p : Int) (w : World) (ea : a / 2 = x) (ek : max 0 (min n 70) = k) (hk : Inr k) (hk' : Inr (-k)) (hu : Inr u) (hd : Inr d) (n1 : -9223372036854775808 ≤ n) (n2 : n ≤ 9223372036854775807) (hx : Inr x)
    (CU : Hid (∀ w, Calls Tryd.prog 28 #[.int .u64 (wd x), .int .u64 (wd k)] w (Out2 0 9 w))) (hx0 : (x == 0) = false)
    (CX : Hid (∀ w, Calls Tryd.prog 28 #[.int .u64 (wd x), .int .u64 (wd (-k))] w (Out2 (wd d) 0 w)))
    (ep : wrap64 (2 ^ k.toNat) = p) (hp : Inr p) (CF : Hid (∀ w, Calls Tryd.prog 24 #[.int .u64 (wd x), .int .u64 (wd p)] w (Out2 (wd d) 0 w))) (k0 : 0 ≤ k) (k1 : k < 62) (ht : Pow10 w) :
    Calls Tryd.prog 7 #[.int .i64 a, .int .i64 n] w (Back (.bool true) w) := by
  have H := Lib.hid ht; clear ht
  go_enter Tryd.func7, Tryd.ntmps7
  go_wp2_with fail
  refine (awake_any _ H.out).mono ?_; rintro e w0 ⟨rfl, hb⟩
  go_wp2_with (go_at_call 11; go_must (refine (of_in _ _ (by assumption)).mono ?_); rintro e w' ⟨rfl, rfl⟩)
  refine (CU.out _).mono ?_; rintro e w1 ⟨rfl, hb1⟩
  go_wp2_with fail
  refine (CX.out _).mono ?_; rintro e w3 ⟨rfl, hb3⟩
  go_wp2_with (go_at_call 11; go_must (refine (of_in _ _ hp).mono ?_); rintro e w' ⟨rfl, rfl⟩)
  refine (CF.out _).mono ?_; rintro e w4 ⟨rfl, hb4⟩
  go_wp2_with fail
  go_ret
  refine ⟨rfl, ?_⟩
  have c0 := hb.trans (hb1.mono hb.size)
  have c1 := c0.trans (hb3.mono c0.size)
  have c2 := c1.trans (hb4.mono c1.size)
  exact c2
set_option maxRecDepth 100000 in
set_option maxHeartbeats 4000000 in
theorem shifts_ge_over (a n x k u d p : Int) (w : World) (ea : a / 2 = x) (ek : max 0 (min n 70) = k) (hk : Inr k) (hk' : Inr (-k)) (hu : Inr u) (hd : Inr d) (n1 : -9223372036854775808 ≤ n) (n2 : n ≤ 9223372036854775807) (hx : Inr x)
    (CU : Hid (∀ w, Calls Tryd.prog 28 #[.int .u64 (wd x), .int .u64 (wd k)] w (Out2 0 9 w))) (hx0 : (x == 0) = false)
    (CX : Hid (∀ w, Calls Tryd.prog 28 #[.int .u64 (wd x), .int .u64 (wd (-k))] w (Out2 (wd d) 0 w)))
    (k0 : 62 ≤ k) (k1 : k ≤ 70) (hd1 : d = 0 ∧ 0 ≤ x ∨ d = -1 ∧ x < 0) (ht : Pow10 w) :
    Calls Tryd.prog 7 #[.int .i64 a, .int .i64 n] w (Back (.bool true) w) := by
  have H := Lib.hid ht; clear ht
  obtain ⟨x1, x2⟩ := (show -4611686018427387904 ≤ x ∧ x ≤ 4611686018427387903 from hx)
  have hxs : (x < 0 ∧ d = -1) ∨ (0 ≤ x ∧ d = 0) := by omega
  rcases (show k = 62 ∨ k = 63 ∨ k = 64 ∨ k = 65 ∨ k = 66 ∨ k = 67 ∨ k = 68 ∨ k = 69 ∨ k = 70 by omega) with rfl | rfl | rfl | rfl | rfl | rfl | rfl | rfl | rfl
  all_goals
    rcases hxs with ⟨hs1, rfl⟩ | ⟨hs1, rfl⟩
  all_goals
    clear hd1 k0 k1
    go_enter Tryd.func7, Tryd.ntmps7
    go_wp2_with fail
    refine (awake_any _ H.out).mono ?_; rintro e w0 ⟨rfl, hb⟩
    go_wp2_with (go_at_call 11; go_must (refine (of_in _ _ (by assumption)).mono ?_); rintro e w' ⟨rfl, rfl⟩)
    refine (CU.out _).mono ?_; rintro e w1 ⟨rfl, hb1⟩
    go_wp2_with fail
    refine (CX.out _).mono ?_; rintro e w3 ⟨rfl, hb3⟩
    go_wp2_with (go_at_call 13; go_must (refine (value_wd _ _ hd).mono ?_); rintro e w' ⟨rfl, rfl⟩)
    go_ret
    refine ⟨by first | rfl | exact ret1 (vbool (by simp; omega)), ?_⟩
    have c0 := hb.trans (hb1.mono hb.size)
    have c1 := c0.trans (hb3.mono c0.size)
    exact c1

theorem pow62 (k : Int) (h0 : 0 ≤ k) (h1 : k < 62) : Inr ((2 : Int) ^ k.toNat) := by
  have h2 := pow_pos' k.toNat
  have h3 : (2 : Int) ^ k.toNat ≤ 2 ^ 61 := pow_mono (by omega)
  have h4 : (2 : Int) ^ 61 = 2305843009213693952 := by decide
  unfold Inr; omega
theorem div_in (x : Int) (k : Nat) (hx : Inr x) : Inr (x / 2 ^ k) := by
  have hp := pow_pos' k
  unfold Inr at *
  constructor
  · exact Int.le_ediv_of_mul_le hp (by
      have : -4611686018427387904 * 2 ^ k ≤ -4611686018427387904 * 1 := Int.mul_le_mul_of_nonpos_left (by omega) (by omega)
      omega)
  · exact Int.ediv_le_of_le_mul hp (by
      have : 4611686018427387903 * 1 ≤ 4611686018427387903 * (2 : Int) ^ k := Int.mul_le_mul_of_nonneg_left (by omega) (by omega)
      omega)
/-- To the right by k. -/
theorem right_call (x k : Int) (hx : Inr x) (k0 : 0 ≤ k) (k1 : k ≤ 70) (w : World) :
    Calls Tryd.prog 28 #[.int .u64 (wd x), .int .u64 (wd (-k))] w (Out2 (wd (x / 2 ^ (min k 63).toNat)) 0 w) := by
  have hk : Inr (-k) := by unfold Inr; omega
  have hr := div_in x (min k 63).toNat hx
  by_cases h : k = 0
  · subst h
    have e : x / 2 ^ (min (0 : Int) 63).toNat = x := by
      have h1 : (min (0 : Int) 63).toNat = 0 := by decide
      rw [h1]; omega
    rw [e]
    by_cases h0 : x = 0
    · subst h0; exact shift_ok 0 (-0) w hx hk 0 (shift_nought 0 w (by omega) hk) hx
    · have hs : shf x 0 = x := by unfold shf; simp
      have hw : wrap64 x = x := wr (by unfold Inr at hx; omega)
      have := shift_left x 0 w hx (by omega) (by omega) (by simpa using h0) (by simp [hw])
      rw [hs] at this
      exact shift_ok x (-0) w hx hk x this hx
  · have hs : shf x (-k) = x / 2 ^ (min k 63).toNat := by unfold shf; rw [if_pos (by omega), Int.neg_neg]
    have := shift_right x (-k) w hx hk (by omega)
    rw [hs] at this
    exact shift_ok x (-k) w hx hk _ this hr
/-- To the left by k: it is a number of words. -/
theorem left_ok (x k : Int) (hx : Inr x) (k0 : 0 ≤ k) (k1 : k ≤ 70) (hu : Inr (x * 2 ^ k.toNat)) (w : World) :
    Calls Tryd.prog 28 #[.int .u64 (wd x), .int .u64 (wd k)] w (Out2 (wd (x * 2 ^ k.toNat)) 0 w) := by
  have hk : Inr k := by unfold Inr; omega
  by_cases h0 : x = 0
  · subst h0
    rw [Int.zero_mul]
    exact shift_ok 0 k w hx hk 0 (shift_nought k w k0 hk) hx
  · have h62 : k ≤ 62 := by
      rcases Int.le_total k 62 with h | h
      · exact h
      · by_cases h' : k = 62
        · omega
        · exact absurd hu (far_over x k.toNat h0 (by omega))
    have hw : wrap64 (x * 2 ^ k.toNat) = x * 2 ^ k.toNat := wr (by unfold Inr at hu; omega)
    have hs : shf x k = x * 2 ^ k.toNat := by unfold shf; rw [if_neg (by omega)]
    have := shift_left x k w hx k0 h62 (by simpa using h0) (by rw [hw, mul_pow_ediv]; simp)
    rw [hs] at this
    exact shift_ok x k w hx hk _ this hu
theorem left_over (x k : Int) (hx : Inr x) (k0 : 0 ≤ k) (hk : Inr k) (hu : ¬ Inr (x * 2 ^ k.toNat)) (w : World) :
    Calls Tryd.prog 28 #[.int .u64 (wd x), .int .u64 (wd k)] w (Out2 0 9 w) := by
  have h0 : x ≠ 0 := fun h => hu (by rw [h, Int.zero_mul]; unfold Inr; omega)
  by_cases h62 : k ≤ 62
  · by_cases hb : wrap64 (x * 2 ^ k.toNat) / 2 ^ k.toNat = x
    · have hw := shl_back x k.toNat hb (by omega)
      have hs : shf x k = x * 2 ^ k.toNat := by unfold shf; rw [if_neg (by omega)]
      have := shift_left x k w hx k0 h62 (by simpa using h0) (by rw [hb]; simp)
      rw [hs] at this
      have hr : -9223372036854775808 ≤ x * 2 ^ k.toNat ∧ x * 2 ^ k.toNat ≤ 9223372036854775807 := by rw [← hw]; unfold wrap64; omega
      exact shift_over x k w hx hk _ this hu hr.1 hr.2
    · exact shift_fail x k w hx hk (shift_beyond x k w hx k0 h62 (by simpa using h0) (by simpa using hb))
  · exact shift_fail x k w hx hk (shift_far x k w hx hk (by omega) (by simpa using h0))
theorem shifts_walk (a n : Int) (w : World) (a1 : -9223372036854775808 ≤ a) (a2 : a ≤ 9223372036854775807) (n1 : -9223372036854775808 ≤ n) (n2 : n ≤ 9223372036854775807) (ht : Pow10 w) :
    Calls Tryd.prog 7 #[.int .i64 a, .int .i64 n] w (Back (.bool true) w) := by
  have hx : Inr (a / 2) := by unfold Inr; omega
  have hk1 : 0 ≤ max 0 (min n 70) := by omega
  have hk2 : max 0 (min n 70) ≤ 70 := by omega
  generalize ek : max 0 (min n 70) = k at *
  generalize ea : a / 2 = x at *
  have hk : Inr k := by unfold Inr; omega
  have hk' : Inr (-k) := by unfold Inr; omega
  have hd := div_in x (min k 63).toNat hx
  have h0i : Inr 0 := by unfold Inr; omega
  have CX := Lib.hid (right_call x k hx hk1 hk2)
  have hback : Inr (x * 2 ^ k.toNat) → ∀ w, Calls Tryd.prog 28 #[.int .u64 (wd (x * 2 ^ k.toNat)), .int .u64 (wd (-k))] w (Out2 (wd x) 0 w) := fun hu w => by
    have e : x * 2 ^ k.toNat / 2 ^ (min k 63).toNat = x := by
      by_cases h63 : k ≤ 63
      · rw [Int.min_eq_left h63]; exact mul_pow_ediv x _
      · by_cases hx0 : x = 0
        · subst hx0; simp
        · exact absurd hu (far_over x k.toNat hx0 (by omega))
    have := right_call (x * 2 ^ k.toNat) k hu hk1 hk2 w
    rw [e] at this; exact this
  by_cases hlt : k < 62
  · have hp := pow62 k hk1 hlt
    have ep : wrap64 ((2 : Int) ^ k.toNat) = 2 ^ k.toNat := wr (by unfold Inr at hp; omega)
    have hn0 := pow_pos' k.toNat
    have hdd : x / 2 ^ (min k 63).toNat = x / 2 ^ k.toNat := by rw [Int.min_eq_left (by omega)]
    have hf : fl x (2 ^ k.toNat) = x / 2 ^ (min k 63).toNat := by rw [hdd]; exact fl_pos x _ hn0
    have CF : ∀ w, Calls Tryd.prog 24 #[.int .u64 (wd x), .int .u64 (wd (2 ^ k.toNat))] w (Out2 (wd (x / 2 ^ (min k 63).toNat)) 0 w) := fun w =>
      floor_ok x _ w hx hp _ (by simp; omega) (fun w => (floor_rule x _ w hx hp (by omega)).mono fun e w' h => by rw [hf] at h; exact h) hd
    by_cases hu : Inr (x * 2 ^ k.toNat)
    · exact shifts_lt_ok a n x k _ _ _ w ea ek hk hk' hu hd n1 n2 hx (Lib.hid (left_ok x k hx hk1 hk2 hu)) (Lib.hid (hback hu)) CX ep hp (Lib.hid CF) hk1 hlt ht
    · have h0 : x ≠ 0 := fun h => hu (by rw [h, Int.zero_mul]; unfold Inr; omega)
      exact shifts_lt_over a n x k 0 _ _ w ea ek hk hk' h0i hd n1 n2 hx (Lib.hid (left_over x k hx hk1 hk hu)) (by simpa using h0) CX ep hp (Lib.hid CF) hk1 hlt ht
  · have hdv : x / 2 ^ (min k 63).toNat = 0 ∧ 0 ≤ x ∨ x / 2 ^ (min k 63).toNat = -1 ∧ x < 0 := by
      unfold Inr at hx
      rcases (show k = 62 ∨ 63 ≤ k by omega) with h | h
      · subst h
        have : (2 : Int) ^ (min (62 : Int) 63).toNat = 4611686018427387904 := by decide
        rw [this]; omega
      · rw [Int.min_eq_right h]
        have : (2 : Int) ^ (63 : Int).toNat = 9223372036854775808 := by decide
        rw [this]; omega
    by_cases hu : Inr (x * 2 ^ k.toNat)
    · exact shifts_ge_ok a n x k _ _ 0 w ea ek hk hk' hu hd n1 n2 hx (Lib.hid (left_ok x k hx hk1 hk2 hu)) (Lib.hid (hback hu)) CX (by omega) hk2 hdv ht
    · have h0 : x ≠ 0 := fun h => hu (by rw [h, Int.zero_mul]; unfold Inr; omega)
      exact shifts_ge_over a n x k 0 _ 0 w ea ek hk hk' h0i hd n1 n2 hx (Lib.hid (left_over x k hx hk1 hk hu)) (by simpa using h0) CX (by omega) hk2 hdv ht
end Sm
end Go.Proofs.YtmmgpmdjpbalfaaDoor
