/- Plain facts on numbers of words (layer 1): no program. · Plain facts on numerals: what Parse gives of a list of bytes; a number's digits are read back. No program. -/
import Derived.Laws.BitsAllLaws
import Derived.RowKit
import Derived.IntWalk
import Derived.Lib.ParseIntBCases
import Derived.Lib.ItoaNum
import Derived.Lib.SlTrimSet
import Derived.Lib.Strings
namespace Go.Proofs.YtfbhokdcnjekiaaGreatDoor
open Go.RowKit
namespace Sm

/-- The word of a number. -/
def wd (n : Int) : Int := (2 * n + 1) % 18446744073709551616
/-- May it be a number of a word? -/
def Inr (n : Int) : Prop := -4611686018427387904 ≤ n ∧ n ≤ 4611686018427387903

theorem wrap_u64_range (n : Int) : 0 ≤ IntKind.u64.wrap n ∧ IntKind.u64.wrap n ≤ 18446744073709551615 := by
 simp [IntKind.wrap, IntKind.bits, IntKind.signed]; omega
theorem wrap_u64_eq (n : Int) : IntKind.u64.wrap n = n % 18446744073709551616 := by
 simp [IntKind.wrap, IntKind.bits, IntKind.signed]
theorem or_one (n : Int) : bits .or .u64 (IntKind.u64.wrap (IntKind.u64.wrap n * 2)) 1 = wd n := by
 have hr := wrap_u64_range (IntKind.u64.wrap n * 2)
 rw [u64_or _ _ hr.1 (by omega) (by omega) (by omega)]
 have he : IntKind.u64.wrap (IntKind.u64.wrap n * 2) = (2 * n) % 18446744073709551616 := by
  rw [wrap_u64_eq, wrap_u64_eq]; omega
 rw [he] at hr ⊢
 have hj := nat_join 1 ((2 * n) % 18446744073709551616).toNat 1 (by omega) (by decide)
 have h1 : (1 : Int).toNat = 1 := rfl
 rw [h1, hj]
 unfold wd
 omega
end Sm
end Go.Proofs.YtfbhokdcnjekiaaGreatDoor
namespace Go.Proofs.YtfbhokdcnjekiaaGreatDoor
open Go.RowKit
namespace Sm
def isd (c : UInt8) : Bool := decide (48 ≤ c.toNat) && decide (c.toNat ≤ 57)
/-- The value of digits behind what was read before. -/
def vstep (m : Nat) (c : UInt8) : Nat := m * 10 + (c.toNat - 48)
def vfrom (acc : Nat) (l : List UInt8) : Nat := l.foldl vstep acc
def digs (l : List UInt8) : List UInt8 := Lib.trimPrefix l [45]
def okd (l : List UInt8) : Bool := !(digs l).isEmpty && (digs l).all isd
def neg (l : List UInt8) : Bool := Lib.hasPrefix l [45]
def num (l : List UInt8) : Int := if neg l then -(vfrom 0 (digs l) : Int) else (vfrom 0 (digs l) : Int)

/-! ### a number's digits are read back -/
/-- What Parse gives: the number or 0, and the error. -/
def pe (l : List UInt8) : Int := if okd l = true then (if -4611686018427387904 ≤ num l ∧ num l ≤ 4611686018427387903 then 0 else 9) else 3
def pv (l : List UInt8) : Int := if pe l = 0 then num l else 0
end Sm
end Go.Proofs.YtfbhokdcnjekiaaGreatDoor
