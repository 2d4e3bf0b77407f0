/- SmallReckons: the walk. Printed by wip/gen/gen_rk.py. -/
import Derived.Test.YtmmgpmdjpbalfaaDoorSmAwake
import Derived.Test.YtmmgpmdjpbalfaaDoorSmDo
set_option linter.unusedVariables false
namespace Go.Proofs.YtmmgpmdjpbalfaaDoor
open Go.RowKit
namespace Sm
theorem div_inr (x : Int) (k : Nat) (hx : Inr x) : Inr (x / 2 ^ k) := by
  have hp := pow_pos' k
  unfold Inr at *
  constructor
  · exact Int.le_ediv_of_mul_le hp (by
      have : -4611686018427387904 * 2 ^ k ≤ -4611686018427387904 * 1 := Int.mul_le_mul_of_nonpos_left (by omega) (by omega)
      omega)
  · exact Int.ediv_le_of_le_mul hp (by
      have : 4611686018427387903 * 1 ≤ 4611686018427387903 * (2 : Int) ^ k := Int.mul_le_mul_of_nonneg_left (by omega) (by omega)
      omega)
theorem half_iff (v : BitVec 64) : Inr v.toInt ↔ (v.sshiftRight 62).toInt = 0 ∨ (v.sshiftRight 62).toInt = -1 := by
  rw [BitVec.toInt_sshiftRight, Int.shiftRight_eq_div_pow]
  have h : ((2 ^ 62 : Nat) : Int) = 4611686018427387904 := by decide
  rw [h]
  unfold Inr
  omega
theorem half_bits {x y : BitVec 64} (hx : Inr x.toInt) (hy : Inr y.toInt) : Inr (x &&& y).toInt ∧ Inr (x ||| y).toInt ∧ Inr (x ^^^ y).toInt := by
  rw [half_iff, sgn_iff] at hx hy
  simp only [half_iff, sgn_iff, BitVec.sshiftRight_and_distrib, BitVec.sshiftRight_or_distrib, BitVec.sshiftRight_xor_distrib]
  rcases hx with hx | hx <;> rcases hy with hy | hy <;> rw [hx, hy] <;> simp
theorem half_all {x y : Int} (hx : Inr x) (hy : Inr y) : Inr (bits .and .i64 x y) ∧ Inr (bits .or .i64 x y) ∧ Inr (bits .xor .i64 x y) := by
  have ex := toInt_ofInt_of x (by unfold Inr at hx; omega)
  have ey := toInt_ofInt_of y (by unfold Inr at hy; omega)
  rw [bits_i64_and, bits_i64_or, bits_i64_xor]
  exact half_bits (by rw [ex]; exact hx) (by rw [ey]; exact hy)
theorem bits_half_and {x y : Int} (hx : Inr x) (hy : Inr y) : Inr (bits .and .i64 x y) := (half_all hx hy).1
theorem bits_half_or {x y : Int} (hx : Inr x) (hy : Inr y) : Inr (bits .or .i64 x y) := (half_all hx hy).2.1
theorem bits_half_xor {x y : Int} (hx : Inr x) (hy : Inr y) : Inr (bits .xor .i64 x y) := (half_all hx hy).2.2
theorem kind_any (n a b : Int) (w : World) (h0 : 0 ≤ n) (h1 : n ≤ 10) (ha : 0 ≤ a) (ha' : a ≤ 18446744073709551615) (hb : 0 ≤ b) (hb' : b ≤ 18446744073709551615) (h : isw a = false ∨ isw b = false) :
    Calls Tryd.prog 29 #[.int .i64 n, .int .u64 a, .int .u64 b] w (Out2 0 13 w) := by
  rcases (show n = 0 ∨ n = 1 ∨ n = 2 ∨ n = 3 ∨ n = 4 ∨ n = 5 ∨ n = 6 ∨ n = 7 ∨ n = 8 ∨ n = 9 ∨ n = 10 by omega) with rfl | rfl | rfl | rfl | rfl | rfl | rfl | rfl | rfl | rfl | rfl
  · exact ldo0 _ _ _ _ w (add_kind a b w ha ha' hb hb' h)
  · exact ldo1 _ _ _ _ w (sub_kind a b w ha ha' hb hb' h)
  · exact ldo2 _ _ _ _ w (mul_kind a b w ha ha' hb hb' h)
  · exact ldo3 _ _ _ _ w (floor_kind a b w ha ha' hb hb' h)
  · exact ldo4 _ _ _ _ w (mod_kind a b w ha ha' hb hb' h)
  · exact ldo5 _ _ _ _ w (quo_kind a b w ha ha' hb hb' h)
  · exact ldo6 _ _ _ _ w (rem_kind a b w ha ha' hb hb' h)
  · exact ldo7 _ _ _ _ w (and_kind a b w ha ha' hb hb' h)
  · exact ldo8 _ _ _ _ w (or_kind a b w ha ha' hb hb' h)
  · exact ldo9 _ _ _ _ w (xor_kind a b w ha ha' hb hb' h)
  · exact ldo10 _ _ _ _ w (shift_kind a b w ha ha' hb hb' h)
set_option maxRecDepth 100000 in
set_option maxHeartbeats 4000000 in
theorem reckons_ok (op a b t n r : Int) (w : World) (n1 : -9223372036854775808 ≤ op) (n2 : op ≤ 9223372036854775807) (et : op.tmod 11 = t) (t1 : -10 ≤ t) (t2 : t ≤ 10) (en : t % 11 = n) (ha : 0 ≤ a) (ha' : a ≤ 18446744073709551615) (hb0 : 0 ≤ b) (hb' : b ≤ 18446744073709551615)
    (Ha : Hid (isw a = true)) (Hb : Hid (isw b = true)) (hr : Inr r)
    (CD : Hid (∀ w, Calls Tryd.prog 29 #[.int .i64 n, .int .u64 a, .int .u64 b] w (Out2 (wd r) 0 w)))
    (CL : Hid (∀ w, Calls Tryd.prog 18 #[.int .u64 a, .int .u64 b] w (Done (.tuple #[.bool (decide (vw a < vw b)), .int .i64 0]) w)))
    (CR : Hid (∀ w, Calls Tryd.prog 30 #[.int .i64 n, .int .i64 (vw a), .int .i64 (vw b)] w (Done (.tuple #[.int .i64 r, .int .i64 0]) w))) (ht : Pow10 w) :
    Calls Tryd.prog 8 #[.int .i64 op, .int .u64 a, .int .u64 b] w (Back (.bool true) w) := by
  have H := Lib.hid ht; clear ht
  by_cases hlt : vw a < vw b
  all_goals
    go_enter Tryd.func8, Tryd.ntmps8
    go_wp2_with fail
    refine (awake_any _ H.out).mono ?_; rintro e w0 ⟨rfl, hb⟩
    go_wp2_with fail
    refine (CD.out _).mono ?_; rintro e w1 ⟨rfl, hb1⟩
    go_wp2_with fail
    refine (CL.out _).mono ?_; rintro e w' ⟨rfl, rfl⟩
    go_wp2_with (first
      | (go_at_call_of 16 (Value.int .u64 a); go_must (refine (ris_yes _ _ ha ha' Ha.out).mono ?_); rintro e w' ⟨rfl, rfl⟩)
      | (go_at_call_of 16 (Value.int .u64 b); go_must (refine (ris_yes _ _ hb0 hb' Hb.out).mono ?_); rintro e w' ⟨rfl, rfl⟩)
      | (go_at_call_of 17 (Value.int .u64 a); go_must (refine (rvalue_any _ _ ha ha').mono ?_); rintro e w' ⟨rfl, rfl⟩)
      | (go_at_call_of 17 (Value.int .u64 b); go_must (refine (rvalue_any _ _ hb0 hb').mono ?_); rintro e w' ⟨rfl, rfl⟩)
      | (go_at_call 30; go_must (refine (CR.out _).mono ?_); rintro e w' ⟨rfl, rfl⟩)
      | (go_at_call 14; go_must (refine (rword_any _ _).mono ?_); rintro e w' ⟨rfl, rfl⟩))
    go_ret
    exact ⟨rfl, hb.trans (hb1.mono hb.size)⟩
set_option maxRecDepth 100000 in
set_option maxHeartbeats 4000000 in
theorem reckons_err (op a b t n er : Int) (w : World) (n1 : -9223372036854775808 ≤ op) (n2 : op ≤ 9223372036854775807) (et : op.tmod 11 = t) (t1 : -10 ≤ t) (t2 : t ≤ 10) (en : t % 11 = n) (ha : 0 ≤ a) (ha' : a ≤ 18446744073709551615) (hb0 : 0 ≤ b) (hb' : b ≤ 18446744073709551615)
    (Ha : Hid (isw a = true)) (Hb : Hid (isw b = true)) (he : (er == 0) = false) (he2 : (er != 0) = true) (he3 : -9223372036854775808 ≤ er) (he4 : er ≤ 9223372036854775807)
    (CD : Hid (∀ w, Calls Tryd.prog 29 #[.int .i64 n, .int .u64 a, .int .u64 b] w (Out2 0 er w)))
    (CL : Hid (∀ w, Calls Tryd.prog 18 #[.int .u64 a, .int .u64 b] w (Done (.tuple #[.bool (decide (vw a < vw b)), .int .i64 0]) w)))
    (CR : Hid (∀ w, Calls Tryd.prog 30 #[.int .i64 n, .int .i64 (vw a), .int .i64 (vw b)] w (Done (.tuple #[.int .i64 0, .int .i64 er]) w))) (ht : Pow10 w) :
    Calls Tryd.prog 8 #[.int .i64 op, .int .u64 a, .int .u64 b] w (Back (.bool true) w) := by
  have H := Lib.hid ht; clear ht
  by_cases hlt : vw a < vw b
  all_goals
    go_enter Tryd.func8, Tryd.ntmps8
    go_wp2_with fail
    refine (awake_any _ H.out).mono ?_; rintro e w0 ⟨rfl, hb⟩
    go_wp2_with fail
    refine (CD.out _).mono ?_; rintro e w1 ⟨rfl, hb1⟩
    go_wp2_with fail
    refine (CL.out _).mono ?_; rintro e w' ⟨rfl, rfl⟩
    go_wp2_with (first
      | (go_at_call_of 16 (Value.int .u64 a); go_must (refine (ris_yes _ _ ha ha' Ha.out).mono ?_); rintro e w' ⟨rfl, rfl⟩)
      | (go_at_call_of 16 (Value.int .u64 b); go_must (refine (ris_yes _ _ hb0 hb' Hb.out).mono ?_); rintro e w' ⟨rfl, rfl⟩)
      | (go_at_call_of 17 (Value.int .u64 a); go_must (refine (rvalue_any _ _ ha ha').mono ?_); rintro e w' ⟨rfl, rfl⟩)
      | (go_at_call_of 17 (Value.int .u64 b); go_must (refine (rvalue_any _ _ hb0 hb').mono ?_); rintro e w' ⟨rfl, rfl⟩)
      | (go_at_call 30; go_must (refine (CR.out _).mono ?_); rintro e w' ⟨rfl, rfl⟩)
      | (go_at_call 14; go_must (refine (rword_any _ _).mono ?_); rintro e w' ⟨rfl, rfl⟩))
    go_ret
    exact ⟨rfl, hb.trans (hb1.mono hb.size)⟩
set_option maxRecDepth 100000 in
set_option maxHeartbeats 4000000 in
theorem reckons_kind_a (op a b t n : Int) (w : World) (n1 : -9223372036854775808 ≤ op) (n2 : op ≤ 9223372036854775807) (et : op.tmod 11 = t) (t1 : -10 ≤ t) (t2 : t ≤ 10) (en : t % 11 = n) (ha : 0 ≤ a) (ha' : a ≤ 18446744073709551615) (hb0 : 0 ≤ b) (hb' : b ≤ 18446744073709551615)
    (Ha : Hid (isw a = false))
    (CD : Hid (∀ w, Calls Tryd.prog 29 #[.int .i64 n, .int .u64 a, .int .u64 b] w (Out2 0 13 w)))
    (CL : Hid (∀ w, Calls Tryd.prog 18 #[.int .u64 a, .int .u64 b] w (Done (.tuple #[.bool false, .int .i64 13]) w))) (ht : Pow10 w) :
    Calls Tryd.prog 8 #[.int .i64 op, .int .u64 a, .int .u64 b] w (Back (.bool true) w) := by
  have H := Lib.hid ht; clear ht
  go_enter Tryd.func8, Tryd.ntmps8
  go_wp2_with fail
  refine (awake_any _ H.out).mono ?_; rintro e w0 ⟨rfl, hb⟩
  go_wp2_with fail
  refine (CD.out _).mono ?_; rintro e w1 ⟨rfl, hb1⟩
  go_wp2_with fail
  refine (CL.out _).mono ?_; rintro e w' ⟨rfl, rfl⟩
  go_wp2_with (first
      | (go_at_call_of 16 (Value.int .u64 a); go_must (refine (ris_no _ _ ha ha' Ha.out).mono ?_); rintro e w' ⟨rfl, rfl⟩))
  go_ret
  exact ⟨rfl, hb.trans (hb1.mono hb.size)⟩
set_option maxRecDepth 100000 in
set_option maxHeartbeats 4000000 in
theorem reckons_kind_b (op a b t n : Int) (w : World) (n1 : -9223372036854775808 ≤ op) (n2 : op ≤ 9223372036854775807) (et : op.tmod 11 = t) (t1 : -10 ≤ t) (t2 : t ≤ 10) (en : t % 11 = n) (ha : 0 ≤ a) (ha' : a ≤ 18446744073709551615) (hb0 : 0 ≤ b) (hb' : b ≤ 18446744073709551615)
    (Ha : Hid (isw a = true)) (Hb : Hid (isw b = false))
    (CD : Hid (∀ w, Calls Tryd.prog 29 #[.int .i64 n, .int .u64 a, .int .u64 b] w (Out2 0 13 w)))
    (CL : Hid (∀ w, Calls Tryd.prog 18 #[.int .u64 a, .int .u64 b] w (Done (.tuple #[.bool false, .int .i64 13]) w))) (ht : Pow10 w) :
    Calls Tryd.prog 8 #[.int .i64 op, .int .u64 a, .int .u64 b] w (Back (.bool true) w) := by
  have H := Lib.hid ht; clear ht
  go_enter Tryd.func8, Tryd.ntmps8
  go_wp2_with fail
  refine (awake_any _ H.out).mono ?_; rintro e w0 ⟨rfl, hb⟩
  go_wp2_with fail
  refine (CD.out _).mono ?_; rintro e w1 ⟨rfl, hb1⟩
  go_wp2_with fail
  refine (CL.out _).mono ?_; rintro e w' ⟨rfl, rfl⟩
  go_wp2_with (first
      | (go_at_call_of 16 (Value.int .u64 a); go_must (refine (ris_yes _ _ ha ha' Ha.out).mono ?_); rintro e w' ⟨rfl, rfl⟩)
      | (go_at_call_of 16 (Value.int .u64 b); go_must (refine (ris_no _ _ hb0 hb' Hb.out).mono ?_); rintro e w' ⟨rfl, rfl⟩))
  go_ret
  exact ⟨rfl, hb.trans (hb1.mono hb.size)⟩

/-- What is reckoned, and by both the same: a number, or an error. -/
def Both (n a b : Int) : Prop :=
  (∃ r, Inr r ∧ (∀ w, Calls Tryd.prog 29 #[.int .i64 n, .int .u64 a, .int .u64 b] w (Out2 (wd r) 0 w)) ∧ (∀ w, Calls Tryd.prog 30 #[.int .i64 n, .int .i64 (vw a), .int .i64 (vw b)] w (Done (.tuple #[.int .i64 r, .int .i64 0]) w))) ∨
  (∃ er : Int, (er = 1 ∨ er = 9) ∧ (∀ w, Calls Tryd.prog 29 #[.int .i64 n, .int .u64 a, .int .u64 b] w (Out2 0 er w)) ∧ (∀ w, Calls Tryd.prog 30 #[.int .i64 n, .int .i64 (vw a), .int .i64 (vw b)] w (Done (.tuple #[.int .i64 0, .int .i64 er]) w)))
theorem both_any (n x y : Int) (h0 : 0 ≤ n) (h1 : n ≤ 10) (hx : Inr x) (hy : Inr y) (ex : vw (wd x) = x) (ey : vw (wd y) = y) : Both n (wd x) (wd y) := by
  unfold Both
  rw [ex, ey]
  obtain ⟨x1, x2⟩ := (show -4611686018427387904 ≤ x ∧ x ≤ 4611686018427387903 from hx)
  obtain ⟨y1, y2⟩ := (show -4611686018427387904 ≤ y ∧ y ≤ 4611686018427387903 from hy)
  rcases (show n = 0 ∨ n = 1 ∨ n = 2 ∨ n = 3 ∨ n = 4 ∨ n = 5 ∨ n = 6 ∨ n = 7 ∨ n = 8 ∨ n = 9 ∨ n = 10 by omega) with rfl | rfl | rfl | rfl | rfl | rfl | rfl | rfl | rfl | rfl | rfl
  · by_cases h : Inr (x + y)
    · exact .inl ⟨x + y, h, fun w => ldo0 _ _ _ _ w (add_ok x y w hx hy h), fun w => rdo0_in x y w hx hy h⟩
    · exact .inr ⟨9, .inr rfl, fun w => ldo0 _ _ _ _ w (add_over x y w hx hy h), fun w => rdo0_out x y w hx hy h⟩
  · by_cases h : Inr (x - y)
    · exact .inl ⟨x - y, h, fun w => ldo1 _ _ _ _ w (sub_ok x y w hx hy h), fun w => rdo1_in x y w hx hy h⟩
    · exact .inr ⟨9, .inr rfl, fun w => ldo1 _ _ _ _ w (sub_over x y w hx hy h), fun w => rdo1_out x y w hx hy h⟩
  · have e : (x * y).natAbs = x.natAbs * y.natAbs := Int.natAbs_mul x y
    by_cases h : Inr (x * y)
    · refine .inl ⟨x * y, h, fun w => ldo2 _ _ _ _ w (mul_ok x y w hx hy (x * y) ?_ h), fun w => rdo2_in x y w hx hy h⟩
      exact (times_any x y w hx hy).mono fun e' w' ⟨hw, hh⟩ => by
        rcases hh with ⟨_, he⟩ | ⟨hbig, _⟩
        · exact ⟨he, hw⟩
        · exfalso; unfold Inr at h; omega
    · refine .inr ⟨9, .inr rfl, fun w => ldo2 _ _ _ _ w ?_, fun w => rdo2_out x y w hx hy h⟩
      by_cases hp : x.natAbs * y.natAbs ≤ 4611686018427387904
      · exact mul_over x y w hx hy (x * y) ((times_any x y w hx hy).mono fun e' w' ⟨hw, hh⟩ => by
          rcases hh with ⟨_, he⟩ | ⟨hbig, _⟩
          · exact ⟨he, hw⟩
          · exfalso; omega) h (by omega) (by omega)
      · exact mul_fail x y w hx hy ((times_any x y w hx hy).mono fun e' w' ⟨hw, hh⟩ => by
          rcases hh with ⟨hle, _⟩ | ⟨_, he⟩
          · exfalso; omega
          · exact ⟨he, hw⟩)
  · by_cases h0 : y = 0
    · subst h0
      exact .inr ⟨1, .inl rfl, fun w => ldo3 _ _ _ _ w (floor_nought x w hx), fun w => rdo3_nought x w⟩
    · have hn : (y == 0) = false := by simpa using h0
      by_cases h : Inr (fl x y)
      · exact .inl ⟨_, h, fun w => ldo3 _ _ _ _ w (floor_ok x y w hx hy _ hn (fun w => floor_rule x y w hx hy h0) h), fun w => rdo3_in x y w hx hy h0 h⟩
      · have := fl_bd x y hx h0
        exact .inr ⟨9, .inr rfl, fun w => ldo3 _ _ _ _ w (floor_over x y w hx hy _ hn (fun w => floor_rule x y w hx hy h0) h (by omega) (by omega)), fun w => rdo3_out x y w hx hy h0 h⟩
  · by_cases h0 : y = 0
    · subst h0
      exact .inr ⟨1, .inl rfl, fun w => ldo4 _ _ _ _ w (mod_nought x w hx), fun w => rdo4_nought x w⟩
    · have hn : (y == 0) = false := by simpa using h0
      have h : Inr (md x y) := by
        have := md_bd x y h0
        unfold Inr; omega
      exact .inl ⟨_, h, fun w => ldo4 _ _ _ _ w (mod_ok x y w hx hy _ hn (fun w => mod_rule x y w hx hy h0) h), fun w => rdo4_in x y w hx hy h0 h⟩
  · by_cases h0 : y = 0
    · subst h0
      exact .inr ⟨1, .inl rfl, fun w => ldo5 _ _ _ _ w (quo_nought x w hx), fun w => rdo5_nought x w⟩
    · have hn : (y == 0) = false := by simpa using h0
      by_cases h : Inr (x.tdiv y)
      · exact .inl ⟨_, h, fun w => ldo5 _ _ _ _ w (quo_ok x y w hx hy _ hn (fun w => quo_rule x y w hx hy h0) h), fun w => rdo5_in x y w hx hy h0 h⟩
      · have := tdm x y h0
        exact .inr ⟨9, .inr rfl, fun w => ldo5 _ _ _ _ w (quo_over x y w hx hy _ hn (fun w => quo_rule x y w hx hy h0) h (by omega) (by omega)), fun w => rdo5_out x y w hx hy h0 h⟩
  · by_cases h0 : y = 0
    · subst h0
      exact .inr ⟨1, .inl rfl, fun w => ldo6 _ _ _ _ w (rem_nought x w hx), fun w => rdo6_nought x w⟩
    · have hn : (y == 0) = false := by simpa using h0
      have h : Inr (x.tmod y) := by
        have := tdm x y h0
        unfold Inr; omega
      exact .inl ⟨_, h, fun w => ldo6 _ _ _ _ w (rem_ok x y w hx hy _ hn (fun w => rem_rule x y w h0) h), fun w => rdo6_in x y w hx hy h0 h⟩
  · have h : Inr (bits .and .i64 x y) := bits_half_and hx hy
    exact .inl ⟨_, h, fun w => ldo7 _ _ _ _ w (and_ok x y w hx hy h), fun w => rdo7_in x y w hx hy h⟩
  · have h : Inr (bits .or .i64 x y) := bits_half_or hx hy
    exact .inl ⟨_, h, fun w => ldo8 _ _ _ _ w (or_ok x y w hx hy h), fun w => rdo8_in x y w hx hy h⟩
  · have h : Inr (bits .xor .i64 x y) := bits_half_xor hx hy
    exact .inl ⟨_, h, fun w => ldo9 _ _ _ _ w (xor_ok x y w hx hy h), fun w => rdo9_in x y w hx hy h⟩
  · by_cases hn : y < 0
    · have h : Inr (shf x y) := by
        unfold shf; rw [if_pos hn]; exact div_inr x _ hx
      exact .inl ⟨_, h, fun w => ldo10 _ _ _ _ w (shift_ok x y w hx hy _ (shift_right x y w hx hy hn) h), fun w => rdo10_right x y w hx hy hn h⟩
    · obtain ⟨k, rfl⟩ := Int.eq_ofNat_of_zero_le (show 0 ≤ y by omega)
      by_cases h : Inr (x * 2 ^ k)
      · refine .inl ⟨_, h, fun w => ldo10 _ _ _ _ w ?_, fun w => rdo10_in x k w hx y2 h⟩
        by_cases h0 : x = 0
        · subst h0
          rw [Int.zero_mul]
          exact shift_ok 0 k w hx hy 0 (shift_nought k w (by omega) hy) hx
        · have h62 : (k : Int) ≤ 62 := by
            rcases Int.le_total (k : Int) 62 with h' | h'
            · exact h'
            · by_cases h'' : (k : Int) = 62
              · omega
              · exact absurd h (far_over x k h0 (by omega))
          have hw : wrap64 (x * 2 ^ k) = x * 2 ^ k := wr (by unfold Inr at h; omega)
          have hs : shf x k = x * 2 ^ k := by unfold shf; rw [if_neg (by omega)]; rfl
          have := shift_left x k w hx (by omega) h62 (by simpa using h0) (by
            show (wrap64 (x * 2 ^ k) / 2 ^ k != x) = false
            rw [hw, mul_pow_ediv]; simp)
          rw [hs] at this
          exact shift_ok x k w hx hy _ this h
      · refine .inr ⟨9, .inr rfl, fun w => ldo10 _ _ _ _ w ?_, fun w => rdo10_out x k w hx y2 h⟩
        have h0 : x ≠ 0 := fun h' => h (by rw [h', Int.zero_mul]; unfold Inr; omega)
        by_cases h62 : (k : Int) ≤ 62
        · by_cases hb : wrap64 (x * 2 ^ k) / 2 ^ k = x
          · have hw := shl_back x k hb (by omega)
            have hs : shf x k = x * 2 ^ k := by unfold shf; rw [if_neg (by omega)]; rfl
            have := shift_left x k w hx (by omega) h62 (by simpa using h0) (by
              show (wrap64 (x * 2 ^ k) / 2 ^ k != x) = false
              rw [hb]; simp)
            rw [hs] at this
            have hr : -9223372036854775808 ≤ x * 2 ^ k ∧ x * 2 ^ k ≤ 9223372036854775807 := by rw [← hw]; unfold wrap64; omega
            exact shift_over x k w hx hy _ this h hr.1 hr.2
          · exact shift_fail x k w hx hy (shift_beyond x k w hx (by omega) h62 (by simpa using h0) (by
              show (wrap64 (x * 2 ^ k) / 2 ^ k != x) = true
              simpa using hb))
        · exact shift_fail x k w hx hy (shift_far x k w hx hy (by omega) (by simpa using h0))
theorem reckons_walk (op a b : Int) (w : World) (n1 : -9223372036854775808 ≤ op) (n2 : op ≤ 9223372036854775807) (ha : 0 ≤ a) (ha' : a ≤ 18446744073709551615) (hb0 : 0 ≤ b) (hb' : b ≤ 18446744073709551615) (ht : Pow10 w) :
    Calls Tryd.prog 8 #[.int .i64 op, .int .u64 a, .int .u64 b] w (Back (.bool true) w) := by
  obtain ⟨_, _, _, t4, _⟩ := tdm op 11 (by omega)
  cases hia : isw a with
  | false =>
    obtain ⟨n, hn⟩ : ∃ n, op.tmod 11 % 11 = n := ⟨_, rfl⟩
    refine reckons_kind_a op a b _ n w n1 n2 rfl (by omega) (by omega) hn ha ha' hb0 hb' (Lib.hid hia) (Lib.hid fun w => ?_) (Lib.hid fun w => less_kind a b w ha ha' hb0 hb' (.inl hia)) ht
    exact kind_any n a b w (by omega) (by omega) ha ha' hb0 hb' (.inl hia)
  | true =>
    cases hib : isw b with
    | false =>
      obtain ⟨n, hn⟩ : ∃ n, op.tmod 11 % 11 = n := ⟨_, rfl⟩
      refine reckons_kind_b op a b _ n w n1 n2 rfl (by omega) (by omega) hn ha ha' hb0 hb' (Lib.hid hia) (Lib.hid hib) (Lib.hid fun w => ?_) (Lib.hid fun w => less_kind a b w ha ha' hb0 hb' (.inr hib)) ht
      exact kind_any n a b w (by omega) (by omega) ha ha' hb0 hb' (.inr hib)
    | true =>
      obtain ⟨n, hn⟩ : ∃ n, op.tmod 11 % 11 = n := ⟨_, rfl⟩
      have ea := wd_vw ha ha' hia
      have eb := wd_vw hb0 hb' hib
      have CL : ∀ w, Calls Tryd.prog 18 #[.int .u64 a, .int .u64 b] w (Done (.tuple #[.bool (decide (vw a < vw b)), .int .i64 0]) w) := fun w => by
        have := less_wd (vw a) (vw b) w (vw_in a) (vw_in b)
        rw [ea, eb] at this; exact this
      have hB := both_any n (vw a) (vw b) (by omega) (by omega) (vw_in a) (vw_in b) (vw_wd (vw_in a)) (vw_wd (vw_in b))
      rw [ea, eb] at hB
      rcases hB with ⟨r, hr, c1, c2⟩ | ⟨er, he, c1, c2⟩
      · exact reckons_ok op a b _ n r w n1 n2 rfl (by omega) (by omega) hn ha ha' hb0 hb' (Lib.hid hia) (Lib.hid hib) hr (Lib.hid c1) (Lib.hid CL) (Lib.hid c2) ht
      · exact reckons_err op a b _ n er w n1 n2 rfl (by omega) (by omega) hn ha ha' hb0 hb' (Lib.hid hia) (Lib.hid hib) (by rcases he with rfl | rfl <;> rfl) (by rcases he with rfl | rfl <;> rfl) (by omega) (by omega) (Lib.hid c1) (Lib.hid CL) (Lib.hid c2) ht
end Sm
end Go.Proofs.YtmmgpmdjpbalfaaDoor
