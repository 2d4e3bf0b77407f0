/- Plain mathematics of layer 1: quotients, shifts, bits: no program. -/
import Derived.Test.YtmmgpmdjpbalfaaDoorSmNum
namespace Go.Proofs.YtmmgpmdjpbalfaaDoor
open Go.RowKit
namespace Sm

/-! ### quotients -/
theorem tdm (x y : Int) (hy : y ≠ 0) : x.tmod y + y * x.tdiv y = x ∧ (0 ≤ x → 0 ≤ x.tmod y) ∧ (x ≤ 0 → x.tmod y ≤ 0) ∧ (x.tmod y).natAbs < y.natAbs ∧ (x.tdiv y).natAbs ≤ x.natAbs := by
  refine ⟨Int.tmod_add_mul_tdiv x y, fun h => Int.tmod_nonneg y h, fun h => ?_, ?_, Int.natAbs_tdiv_le_natAbs x y⟩
  · have := Int.tmod_nonneg y (a := -x) (by omega)
    rw [Int.neg_tmod] at this; omega
  · rw [Int.natAbs_tmod]; exact Nat.mod_lt _ (by omega)
/-- Down to the next whole number. -/
def fl (x y : Int) : Int := if x.tmod y ≠ 0 ∧ (x < 0 ↔ ¬ y < 0) then x.tdiv y - 1 else x.tdiv y
def md (x y : Int) : Int := x - fl x y * y
theorem md_eq (x y : Int) (hy : y ≠ 0) : md x y = if x.tmod y ≠ 0 ∧ (x < 0 ↔ ¬ y < 0) then x.tmod y + y else x.tmod y := by
  obtain ⟨h, _⟩ := tdm x y hy
  unfold md fl
  generalize x.tmod y = r at *
  generalize x.tdiv y = q at *
  subst h
  split
  · rw [Int.sub_mul, Int.mul_comm q y]; omega
  · rw [Int.mul_comm q y]; omega
theorem fl_bd (x y : Int) (hx : Inr x) (hy : y ≠ 0) : -4611686018427387904 ≤ fl x y ∧ fl x y ≤ 4611686018427387904 := by
  obtain ⟨h, h1, h2, h3, h4⟩ := tdm x y hy
  unfold Inr at hx
  unfold fl
  split
  · rename_i hc
    by_cases hm : x.tdiv y = -4611686018427387904
    · exfalso
      have hx' : x = -4611686018427387904 := by omega
      subst hx'
      by_cases hy1 : y = 1
      · subst hy1; simp at hc
      · by_cases hy2 : y = -1
        · subst hy2; omega
        · rw [hm] at h
          have h5 : 2 ≤ y ∨ y ≤ -2 := by omega
          omega
    · omega
  · omega
theorem md_bd (x y : Int) (hy : y ≠ 0) : (md x y ≠ 0 → (md x y < 0 ↔ y < 0)) ∧ (md x y).natAbs < y.natAbs := by
  obtain ⟨h, h1, h2, h3, h4⟩ := tdm x y hy
  rw [md_eq x y hy]
  split <;> omega
theorem fl_md (x y : Int) : fl x y * y + md x y = x := by unfold md; omega
theorem small_tmod (m b : Int) (h : m.natAbs < b.natAbs) : m.tmod b = m := by
  rcases Int.le_total 0 m with h0 | h0
  · rw [Int.tmod_eq_emod_of_nonneg h0]
    rcases Int.le_total 0 b with hb | hb
    · exact Int.emod_eq_of_lt h0 (by omega)
    · rw [← Int.emod_neg]; exact Int.emod_eq_of_lt h0 (by omega)
  · have hh : (-m).tmod b = -m := by
      rw [Int.tmod_eq_emod_of_nonneg (by omega)]
      rcases Int.le_total 0 b with hb | hb
      · exact Int.emod_eq_of_lt (by omega) (by omega)
      · rw [← Int.emod_neg]; exact Int.emod_eq_of_lt (by omega) (by omega)
    rw [Int.neg_tmod] at hh; omega
theorem fl_pos (x y : Int) (hy : 0 < y) : fl x y = x / y := by
  have hm := md_bd x y (by omega)
  have he := fl_md x y
  have h0 : 0 ≤ md x y := by
    by_cases h : md x y = 0
    · omega
    · have := hm.1 h; omega
  have h1 : md x y < y := by omega
  have e : x = md x y + y * fl x y := by rw [Int.mul_comm y]; omega
  rw [e, Int.add_mul_ediv_left _ _ (by omega : y ≠ 0), Int.ediv_eq_zero_of_lt h0 h1]
  rw [← e]; omega

/-! ### bits -/
theorem nat_bits (n : Nat) : ∀ a b : Nat, a < 2 ^ n → b < 2 ^ n → (a &&& b) + (a ||| b) = a + b ∧ (a ^^^ b) + (a &&& b) = a ||| b := by
  induction n with
  | zero => intro a b ha hb; obtain rfl : a = 0 := by omega
            obtain rfl : b = 0 := by omega
            simp
  | succ n ih =>
    intro a b ha hb
    obtain ⟨h1, h2⟩ := ih (a / 2) (b / 2) (by omega) (by omega)
    have e1 : (a &&& b) / 2 = a / 2 &&& b / 2 := Nat.and_div_two
    have e2 : (a ||| b) / 2 = a / 2 ||| b / 2 := Nat.or_div_two
    have e3 : (a ^^^ b) / 2 = a / 2 ^^^ b / 2 := Nat.xor_div_two
    have f1 : (a &&& b) % 2 = (a % 2) &&& (b % 2) := by rw [← Nat.and_mod_two_pow (n := 1)]
    have f2 : (a ||| b) % 2 = (a % 2) ||| (b % 2) := by rw [← Nat.or_mod_two_pow (n := 1)]
    have f3 : (a ^^^ b) % 2 = (a % 2) ^^^ (b % 2) := by rw [← Nat.xor_mod_two_pow (n := 1)]
    rw [← e1, ← e2] at h1
    rw [← e1, ← e2, ← e3] at h2
    have ha2 : a % 2 = 0 ∨ a % 2 = 1 := by omega
    have hb2 : b % 2 = 0 ∨ b % 2 = 1 := by omega
    rcases ha2 with ha2 | ha2 <;> rcases hb2 with hb2 | hb2 <;> rw [ha2, hb2] at f1 f2 f3 <;> simp only [Nat.reduceAnd, Nat.reduceOr, Nat.reduceXor] at f1 f2 f3 <;> omega
theorem bits_i64_and (x y : Int) : bits .and .i64 x y = (BitVec.ofInt 64 x &&& BitVec.ofInt 64 y).toInt := by
  show IntKind.i64.wrap ((BitVec.ofInt 64 x &&& BitVec.ofInt 64 y).toNat : Int) = _
  rw [IntKind.wrap_i64, BitVec.toInt_eq_toNat_cond]
  have := (BitVec.ofInt 64 x &&& BitVec.ofInt 64 y).isLt
  split <;> omega
theorem bits_i64_or (x y : Int) : bits .or .i64 x y = (BitVec.ofInt 64 x ||| BitVec.ofInt 64 y).toInt := by
  show IntKind.i64.wrap ((BitVec.ofInt 64 x ||| BitVec.ofInt 64 y).toNat : Int) = _
  rw [IntKind.wrap_i64, BitVec.toInt_eq_toNat_cond]
  have := (BitVec.ofInt 64 x ||| BitVec.ofInt 64 y).isLt
  split <;> omega
theorem bits_i64_xor (x y : Int) : bits .xor .i64 x y = (BitVec.ofInt 64 x ^^^ BitVec.ofInt 64 y).toInt := by
  show IntKind.i64.wrap ((BitVec.ofInt 64 x ^^^ BitVec.ofInt 64 y).toNat : Int) = _
  rw [IntKind.wrap_i64, BitVec.toInt_eq_toNat_cond]
  have := (BitVec.ofInt 64 x ^^^ BitVec.ofInt 64 y).isLt
  split <;> omega
theorem toInt_ofInt_of (x : Int) (h : -9223372036854775808 ≤ x ∧ x ≤ 9223372036854775807) : (BitVec.ofInt 64 x).toInt = x := by
  rw [BitVec.toInt_ofInt]
  unfold Int.bmod
  simp only [Nat.reducePow]
  omega
/-- Twice a number's bits: within the quarter. -/
def Qtr (x : Int) : Prop := -2305843009213693952 ≤ x ∧ x ≤ 2305843009213693951
theorem qtr_iff (v : BitVec 64) : Qtr v.toInt ↔ (v.sshiftRight 61).toInt = 0 ∨ (v.sshiftRight 61).toInt = -1 := by
  rw [BitVec.toInt_sshiftRight, Int.shiftRight_eq_div_pow]
  have h : ((2 ^ 61 : Nat) : Int) = 2305843009213693952 := by decide
  rw [h]
  unfold Qtr
  omega
theorem sgn_iff (v : BitVec 64) : v.toInt = 0 ∨ v.toInt = -1 ↔ v = 0#64 ∨ v = BitVec.allOnes 64 := by
  constructor
  · rintro (h | h)
    · left; exact BitVec.eq_of_toInt_eq (by rw [h]; rfl)
    · right; exact BitVec.eq_of_toInt_eq (by rw [h]; rfl)
  · rintro (rfl | rfl)
    · left; rfl
    · right; rfl
theorem qtr_bits {x y : BitVec 64} (hx : Qtr x.toInt) (hy : Qtr y.toInt) : Qtr (x &&& y).toInt ∧ Qtr (x ||| y).toInt ∧ Qtr (x ^^^ y).toInt := by
  rw [qtr_iff, sgn_iff] at hx hy
  simp only [qtr_iff, sgn_iff, BitVec.sshiftRight_and_distrib, BitVec.sshiftRight_or_distrib, BitVec.sshiftRight_xor_distrib]
  rcases hx with hx | hx <;> rcases hy with hy | hy <;> rw [hx, hy] <;> simp
/-- What two numbers have in common and together; what one has alone. -/
theorem bits_laws {x y : Int} (hx : Qtr x) (hy : Qtr y) :
    Inr (bits .and .i64 x y) ∧ Inr (bits .or .i64 x y) ∧ Inr (bits .xor .i64 x y) ∧ bits .and .i64 x y + bits .or .i64 x y = x + y ∧
    bits .or .i64 x y - bits .and .i64 x y = bits .xor .i64 x y ∧ bits .xor .i64 (bits .xor .i64 x y) y = x := by
  have ex := toInt_ofInt_of x (by unfold Qtr at hx; omega)
  have ey := toInt_ofInt_of y (by unfold Qtr at hy; omega)
  have exr : bits .xor .i64 (bits .xor .i64 x y) y = x := by
    rw [bits_i64_xor, bits_i64_xor, BitVec.ofInt_toInt, BitVec.xor_assoc, BitVec.xor_self, BitVec.xor_zero, ex]
  suffices hs : Inr (bits .and .i64 x y) ∧ Inr (bits .or .i64 x y) ∧ Inr (bits .xor .i64 x y) ∧ bits .and .i64 x y + bits .or .i64 x y = x + y ∧ bits .or .i64 x y - bits .and .i64 x y = bits .xor .i64 x y from
    ⟨hs.1, hs.2.1, hs.2.2.1, hs.2.2.2.1, hs.2.2.2.2, exr⟩
  clear exr
  rw [bits_i64_and, bits_i64_or, bits_i64_xor]
  generalize BitVec.ofInt 64 x = u at *
  generalize BitVec.ofInt 64 y = v at *
  subst ex ey
  obtain ⟨q1, q2, q3⟩ := qtr_bits hx hy
  obtain ⟨n1, n2⟩ := nat_bits 64 u.toNat v.toNat u.isLt v.isLt
  rw [← BitVec.toNat_and, ← BitVec.toNat_or] at n1
  rw [← BitVec.toNat_and, ← BitVec.toNat_or, ← BitVec.toNat_xor] at n2
  have b1 := (u &&& v).isLt
  have b2 := (u ||| v).isLt
  have b3 := (u ^^^ v).isLt
  have b4 := u.isLt
  have b5 := v.isLt
  have t : ∀ z : BitVec 64, z.toInt = if 2 * z.toNat < 18446744073709551616 then (z.toNat : Int) else (z.toNat : Int) - 18446744073709551616 := fun z => BitVec.toInt_eq_toNat_cond z
  have t1 := t (u &&& v)
  have t2 := t (u ||| v)
  have t3 := t (u ^^^ v)
  have t4 := t u
  have t5 := t v
  clear t
  unfold Qtr at q1 q2 q3 hx hy
  unfold Inr
  refine ⟨by omega, by omega, by omega, ?_, ?_⟩
  · split at t1 <;> split at t2 <;> split at t4 <;> split at t5 <;> omega
  · split at t1 <;> split at t2 <;> split at t3 <;> omega

/-! ### shifts -/
theorem pow_pos' (k : Nat) : (0 : Int) < 2 ^ k := Int.pow_pos (by decide)
theorem mul_pow_ediv (x : Int) (k : Nat) : x * 2 ^ k / 2 ^ k = x := Int.mul_ediv_cancel _ (by have := pow_pos' k; omega)
/-- A number that a shift to the left, and back, gives again: it was not beyond 64 bits. -/
theorem shl_back (x : Int) (k : Nat) (h : wrap64 (x * 2 ^ k) / 2 ^ k = x) (hk : k ≤ 62) : wrap64 (x * 2 ^ k) = x * 2 ^ k := by
  have hp := pow_pos' k
  have hd : (2 : Int) ^ k * 2 ^ (64 - k) = 18446744073709551616 := by rw [← Int.pow_add, show k + (64 - k) = 64 by omega]; decide
  have hw : ∃ m, wrap64 (x * 2 ^ k) = x * 2 ^ k + 18446744073709551616 * m := ⟨-((x * 2 ^ k + 9223372036854775808) / 18446744073709551616), by unfold wrap64; omega⟩
  obtain ⟨m, hm⟩ := hw
  rw [hm, ← hd, Int.mul_assoc, Int.mul_comm x, ← Int.mul_add, Int.mul_ediv_cancel_left _ (by omega)] at h
  have h2 : 0 < (2 : Int) ^ (64 - k) := pow_pos' _
  have h3 : 2 ^ (64 - k) * m = 0 := by omega
  rcases Int.mul_eq_zero.1 h3 with h4 | h4
  · omega
  · rw [hm, h4]; omega
theorem shl_over (x : Int) (k : Nat) (h : ¬ wrap64 (x * 2 ^ k) / 2 ^ k = x) : ¬ Inr (x * 2 ^ k) := by
  intro hi
  apply h
  have : wrap64 (x * 2 ^ k) = x * 2 ^ k := by unfold Inr at hi; unfold wrap64; omega
  rw [this, mul_pow_ediv]
theorem pow_mono {a b : Nat} (h : a ≤ b) : (2 : Int) ^ a ≤ 2 ^ b := by
  obtain ⟨c, rfl⟩ := Nat.exists_eq_add_of_le h
  rw [Int.pow_add]
  have h1 := pow_pos' a
  have h2 := pow_pos' c
  have h3 : (2 : Int) ^ a * 1 ≤ 2 ^ a * 2 ^ c := Int.mul_le_mul_of_nonneg_left (by omega) (by omega)
  omega
theorem far_over (x : Int) (k : Nat) (hx : x ≠ 0) (hk : 63 ≤ k) : ¬ Inr (x * 2 ^ k) := by
  have hp : (9223372036854775808 : Int) ≤ 2 ^ k := by have := pow_mono hk; simpa using this
  unfold Inr
  rcases Int.lt_or_gt_of_ne hx with h | h
  · have : x * 2 ^ k ≤ (-1) * 2 ^ k := Int.mul_le_mul_of_nonneg_right (by omega) (by omega)
    omega
  · have : 1 * 2 ^ k ≤ x * 2 ^ k := Int.mul_le_mul_of_nonneg_right (by omega) (by omega)
    omega
end Sm
end Go.Proofs.YtmmgpmdjpbalfaaDoor
