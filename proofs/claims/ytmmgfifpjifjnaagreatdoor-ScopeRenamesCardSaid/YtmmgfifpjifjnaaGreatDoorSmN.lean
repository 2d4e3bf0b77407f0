/- Plain facts on numbers of words (layer 1): no program. · Plain facts on numerals: what Parse gives of a list of bytes; a number's digits are read back. No program. -/
import Derived.Laws.BitsAllLaws
import Derived.RowKit
import Derived.IntWalk
import Derived.Lib.ParseIntBCases
import Derived.Lib.ItoaNum
import Derived.Lib.SlTrimSet
import Derived.Lib.Strings
namespace Go.Proofs.YtmmgfifpjifjnaaGreatDoor
open Go.RowKit
namespace Sm

def wd (n : Int) : Int := (2 * n + 1) % 18446744073709551616
def Inr (n : Int) : Prop := -4611686018427387904 ≤ n ∧ n ≤ 4611686018427387903

theorem wrap_u64_range (n : Int) : 0 ≤ IntKind.u64.wrap n ∧ IntKind.u64.wrap n ≤ 18446744073709551615 := by
 simp [IntKind.wrap, IntKind.bits, IntKind.signed]; omega
theorem wrap_u64_eq (n : Int) : IntKind.u64.wrap n = n % 18446744073709551616 := by
 simp [IntKind.wrap, IntKind.bits, IntKind.signed]
theorem or_one (n : Int) : bits .or .u64 (IntKind.u64.wrap (IntKind.u64.wrap n * 2)) 1 = wd n := by
 have hr := wrap_u64_range (IntKind.u64.wrap n * 2)
 rw [u64_or _ _ hr.1 (by omega) (by omega) (by omega)]
 have he : IntKind.u64.wrap (IntKind.u64.wrap n * 2) = (2 * n) % 18446744073709551616 := by
  rw [wrap_u64_eq, wrap_u64_eq]; omega
 rw [he] at hr ⊢
 have hj := nat_join 1 ((2 * n) % 18446744073709551616).toNat 1 (by omega) (by decide)
 have h1 : (1 : Int).toNat = 1 := rfl
 rw [h1, hj]
 unfold wd
 omega
end Sm
end Go.Proofs.YtmmgfifpjifjnaaGreatDoor
namespace Go.Proofs.YtmmgfifpjifjnaaGreatDoor
open Go.RowKit
namespace Sm
def isd (c : UInt8) : Bool := decide (48 ≤ c.toNat) && decide (c.toNat ≤ 57)
def vstep (m : Nat) (c : UInt8) : Nat := m * 10 + (c.toNat - 48)
def vfrom (acc : Nat) (l : List UInt8) : Nat := l.foldl vstep acc
theorem vfrom_nil (a : Nat) : vfrom a [] = a := by unfold vfrom; rw [List.foldl_nil]
theorem vfrom_cons (a : Nat) (c : UInt8) (r : List UInt8) : vfrom a (c :: r) = vfrom (a * 10 + (c.toNat - 48)) r := by unfold vfrom; rw [List.foldl_cons, vstep]
def digs (l : List UInt8) : List UInt8 := Lib.trimPrefix l [45]
def okd (l : List UInt8) : Bool := !(digs l).isEmpty && (digs l).all isd
def neg (l : List UInt8) : Bool := Lib.hasPrefix l [45]
def num (l : List UInt8) : Int := if neg l then -(vfrom 0 (digs l) : Int) else (vfrom 0 (digs l) : Int)

theorem vfrom_le (l : List UInt8) : ∀ a, a ≤ vfrom a l := by
 induction l with
 | nil => intro a; rw [vfrom_nil]; exact Nat.le_refl a
 | cons c r ih => intro a; rw [vfrom_cons]; have := ih (a * 10 + (c.toNat - 48)); omega
theorem parseM (l : List UInt8) : ∀ a, a ≤ 18446744073709551615 → l.all isd = true →
  Lib.parseUintM 18446744073709551615 a l = if vfrom a l ≤ 18446744073709551615 then .ok (vfrom a l) else .range := by
 induction l with
 | nil =>
  intro a ha _
  rw [vfrom_nil, if_pos ha]
  rfl
 | cons c r ih =>
  intro a ha h
  simp only [List.all_cons, Bool.and_eq_true, isd, decide_eq_true_eq] at h
  obtain ⟨⟨h1, h2⟩, h3⟩ := h
  have hv := vfrom_le r (a * 10 + (c.toNat - 48))
  rw [vfrom_cons]
  rw [Lib.parseUintM]
  rw [if_pos ⟨h1, h2⟩]
  by_cases hb : 1844674407370955162 ≤ a
  · rw [if_pos hb, if_neg (by omega)]
  rw [if_neg hb]
  by_cases hc : 18446744073709551615 < a * 10 + (c.toNat - 48)
  · rw [if_pos hc, if_neg (by omega)]
  rw [if_neg hc]; exact ih _ (by omega) h3
theorem parseB (l : List UInt8) (hne : l ≠ []) (h : l.all isd = true) :
  Lib.parseUintB 64 l = if vfrom 0 l ≤ 18446744073709551615 then .ok (vfrom 0 l) else .range := by
 unfold Lib.parseUintB
 rw [if_neg hne]
 exact parseM l 0 (by omega) h
theorem digs_cases (l : List UInt8) : (∃ r, l = 45 :: r ∧ digs l = r ∧ neg l = true) ∨ (digs l = l ∧ neg l = false) := by
 cases l with
 | nil => right; exact ⟨rfl, rfl⟩
 | cons c r =>
  by_cases h : c = 45
  · subst h; left; exact ⟨r, rfl, by simp [digs, Lib.trimPrefix, Lib.hasPrefix, List.isPrefixOf], by simp [neg, Lib.hasPrefix, List.isPrefixOf]⟩
  right
  have h' : ¬ (45 : UInt8) = c := fun e => h e.symm
  exact ⟨by simp [digs, Lib.trimPrefix, Lib.hasPrefix, List.isPrefixOf, h'], by simp [neg, Lib.hasPrefix, List.isPrefixOf, h']⟩
theorem parse_num (l : List UInt8) (h : okd l = true) :
  (Lib.parseIntB 64 l = .ok (num l) ∧ -9223372036854775808 ≤ num l ∧ num l ≤ 9223372036854775807) ∨ (Lib.parseIntB 64 l = .range ∧ ¬ Inr (num l)) := by
 unfold okd at h
 simp only [Bool.and_eq_true, Bool.not_eq_true', List.isEmpty_eq_false_iff] at h
 obtain ⟨hne, hall⟩ := h
 have hp := parseB (digs l) hne hall
 have c63 : 2 ^ (64 - 1) = 9223372036854775808 := by decide
 unfold num Inr
 rcases digs_cases l with ⟨r, e1, e2, e3⟩ | ⟨e2, e3⟩
 · rw [e2] at hp ⊢
   rw [e3, e1, Lib.parseIntB_minus, hp, c63]
   by_cases hb : vfrom 0 r ≤ 18446744073709551615
   · rw [if_pos hb]
     simp only [Lib.signedC]
     by_cases hc : 9223372036854775808 < vfrom 0 r
     · right; rw [if_pos hc]; exact ⟨rfl, by simp; omega⟩
     left; rw [if_neg hc]; exact ⟨rfl, by simp; omega⟩
   right; rw [if_neg hb]; exact ⟨rfl, by simp; omega⟩
 rw [e2] at hp hne hall ⊢
 rw [e3]
 cases l with
 | nil => exact absurd rfl hne
 | cons c r =>
  simp only [List.all_cons, Bool.and_eq_true, isd, decide_eq_true_eq] at hall
  rw [Lib.parseIntB_plain 64 c r (by omega) (by omega), hp, c63]
  by_cases hb : vfrom 0 (c :: r) ≤ 18446744073709551615
  · rw [if_pos hb]
    simp only [Lib.signlessC]
    by_cases hc : 9223372036854775808 ≤ vfrom 0 (c :: r)
    · right; rw [if_pos hc]; exact ⟨rfl, by simp; omega⟩
    left; rw [if_neg hc]; exact ⟨rfl, by simp; omega⟩
  right; rw [if_neg hb]; exact ⟨rfl, by simp; omega⟩
/-! ### a number's digits are read back -/
theorem dw_nil (p : UInt8 → Bool) (l : List UInt8) : l.dropWhile p = [] ↔ ∀ x ∈ l, p x = true := by
 induction l with
 | nil => simp
 | cons c r ih =>
  rw [List.dropWhile_cons]
  split
  · rename_i h; rw [ih]; simp [h]
  rename_i h; simp [h]
set_option maxRecDepth 100000 in
theorem trim_all (l : List UInt8) : Lib.trimS l [48, 49, 50, 51, 52, 53, 54, 55, 56, 57] = [] ↔ l.all isd = true := by
 have hc : ∀ c : UInt8, [48, 49, 50, 51, 52, 53, 54, 55, 56, 57].contains c = isd c := fun c => by
  have h : ∀ n : Fin 256, [48, 49, 50, 51, 52, 53, 54, 55, 56, 57].contains (UInt8.ofNat n.val) = isd (UInt8.ofNat n.val) := by decide
  have := h ⟨c.toNat, c.toNat_lt⟩
  simpa using this
 unfold Lib.trimS Lib.trimLeftS Lib.trimRightS
 simp only [hc]
 constructor
 · intro h
   rw [dw_nil] at h
   by_cases hr : l.reverse.dropWhile isd = []
   · rw [dw_nil] at hr
     rw [List.all_eq_true]
     intro x hx; exact hr x (List.mem_reverse.2 hx)
   exfalso
   have hh := List.head_dropWhile_not isd hr
   have := h (List.head _ hr) (List.mem_reverse.2 (List.head_mem hr))
   rw [this] at hh; exact absurd hh (by simp)
 intro h
 rw [List.all_eq_true] at h
 have : l.reverse.dropWhile isd = [] := by rw [dw_nil]; intro x hx; exact h x (List.mem_reverse.1 hx)
 rw [this]; rfl
def pe (l : List UInt8) : Int := if okd l = true then (if -4611686018427387904 ≤ num l ∧ num l ≤ 4611686018427387903 then 0 else 9) else 3
def pv (l : List UInt8) : Int := if pe l = 0 then num l else 0
end Sm
end Go.Proofs.YtmmgfifpjifjnaaGreatDoor
