/- Plain facts on numbers of words (layer 1): no program. -/
import Derived.Laws.BitsAllLaws
import Derived.RowKit
import Derived.IntWalk
namespace Go.Proofs.YtaaknnmnkgnbjaaDoor
open Go.RowKit
namespace Sm

/-- The word of a number. -/
def wd (n : Int) : Int := (2 * n + 1) % 18446744073709551616
/-- Is a word a number's? -/
def isw (w : Int) : Bool := w % 2 == 1
/-- The number of a word. -/
def vw (w : Int) : Int := wrap64 w / 2
/-- May it be a number of a word? -/
def Inr (n : Int) : Prop := -4611686018427387904 ≤ n ∧ n ≤ 4611686018427387903

theorem wd_bd (n : Int) : 0 ≤ wd n ∧ wd n ≤ 18446744073709551615 := by unfold wd; omega
theorem isw_wd (n : Int) : isw (wd n) = true := by unfold isw wd; simp
theorem vw_wd {n : Int} (h : Inr n) : vw (wd n) = n := by unfold vw wd wrap64; unfold Inr at h; omega
theorem wd_vw {w : Int} (h0 : 0 ≤ w) (h1 : w ≤ 18446744073709551615) (h : isw w = true) : wd (vw w) = w := by
  unfold isw at h; simp at h
  unfold vw wd wrap64; omega
theorem vw_in (w : Int) : Inr (vw w) := by unfold Inr vw wrap64; omega
theorem wd_inj {n m : Int} (hn : Inr n) (hm : Inr m) (h : wd n = wd m) : n = m := by
  rw [← vw_wd hn, ← vw_wd hm, h]
theorem lt_wd {n m : Int} (hn : Inr n) (hm : Inr m) : wrap64 (wd n) < wrap64 (wd m) ↔ n < m := by unfold wd wrap64; unfold Inr at hn hm; omega
theorem shr_wd {n : Int} (h : Inr n) : wrap64 (wd n) / 2 = n := vw_wd h

theorem wrap_u64_range (n : Int) : 0 ≤ IntKind.u64.wrap n ∧ IntKind.u64.wrap n ≤ 18446744073709551615 := by
  simp [IntKind.wrap, IntKind.bits, IntKind.signed]; omega
theorem wrap_u64_eq (n : Int) : IntKind.u64.wrap n = n % 18446744073709551616 := by
  simp [IntKind.wrap, IntKind.bits, IntKind.signed]
theorem or_one (n : Int) : bits .or .u64 (IntKind.u64.wrap (IntKind.u64.wrap n * 2)) 1 = wd n := by
  have hr := wrap_u64_range (IntKind.u64.wrap n * 2)
  rw [u64_or _ _ hr.1 (by omega) (by omega) (by omega)]
  have he : IntKind.u64.wrap (IntKind.u64.wrap n * 2) = (2 * n) % 18446744073709551616 := by
    rw [wrap_u64_eq, wrap_u64_eq]; omega
  rw [he] at hr ⊢
  have hj := nat_join 1 ((2 * n) % 18446744073709551616).toNat 1 (by omega) (by decide)
  have h1 : (1 : Int).toNat = 1 := rfl
  rw [h1, hj]
  unfold wd
  omega
theorem or_one' (n : Int) : bits .or .u64 (IntKind.u64.wrap (n * 2)) 1 = wd n := by
  rw [← or_one, wrap_u64_eq, wrap_u64_eq, wrap_u64_eq]
  congr 1; omega
theorem and_one (n : Int) (h0 : 0 ≤ n) (h1 : n ≤ 18446744073709551615) : bits .and .u64 n 1 = n % 2 := by
  rw [u64_and _ _ h0 (by omega) (by omega) (by omega)]
  have h1 : (1 : Int).toNat = 1 := rfl
  rw [h1, nat_mask1]; omega
theorem rword (n : Int) : IntKind.u64.wrap (IntKind.u64.wrap (IntKind.u64.wrap n * 2) + 1) = wd n := by
  simp only [wrap_u64_eq]; unfold wd; omega
theorem rvalue (w : Int) (h0 : 0 ≤ w) (h1 : w ≤ 18446744073709551615) : (if 4611686018427387904 ≤ w / 2 then w / 2 - 4611686018427387904 + -4611686018427387904 else w / 2) = vw w := by
  unfold vw wrap64; split <;> omega
end Sm
end Go.Proofs.YtaaknnmnkgnbjaaDoor
