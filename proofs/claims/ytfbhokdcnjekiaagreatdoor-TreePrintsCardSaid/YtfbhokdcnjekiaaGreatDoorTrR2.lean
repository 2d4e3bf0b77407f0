/- The reference's one (printed by gen_trone.py). -/
import Derived.Test.YtfbhokdcnjekiaaGreatDoorTrR1
set_option linter.unusedVariables false
namespace Go.Proofs.YtfbhokdcnjekiaaGreatDoor
open Go.RowKit
namespace Tr
open Bs Sm
def oneB (x : Nd) : Bool := shapeB x && kidsB x
/-- The kids' values, as they are reckoned one by one. -/
def valF (k7 : Bool) (l : List Nd) : Nat → Bool
 | 0 => true
 | k + 1 => valF k7 l k && (match l[k]? with | none => true | some y => y.kind != 10 && (y.kind != 11 || (k7 && k == 0)))
theorem valF_step (k7 : Bool) (l : List Nd) (k : Nat) (y : Nd) (hy : l[k]? = some y) : valF k7 l (k + 1) = (valF k7 l k && (y.kind != 10 && (y.kind != 11 || (k7 && k == 0)))) := by
 show (valF k7 l k && (match l[k]? with | none => true | some y => y.kind != 10 && (y.kind != 11 || (k7 && k == 0)))) = _
 rw [hy]
theorem valF_all (l : List Nd) : ∀ k, k ≤ l.length → valF false l k = (l.take k).all valB
 | 0, _ => by rw [List.take_zero]; rfl
 | k + 1, h => by
  have hy := List.getElem?_eq_getElem (show k < l.length by omega)
  rw [valF_step false l k _ hy, valF_all l k (by omega), List.take_add_one, hy, List.all_append]
  simp [valB]
theorem valF_seven (y : Nd) (l : List Nd) : ∀ k, k ≤ l.length → valF true (y :: l) (k + 1) = (y.kind != 10 && (l.take k).all valB)
 | 0, _ => by
  rw [valF_step true (y :: l) 0 y rfl]
  simp [valF]
 | k + 1, h => by
  have hy := List.getElem?_eq_getElem (show k < l.length by omega)
  rw [valF_step true (y :: l) (k + 1) l[k] (by simp [hy]), valF_seven y l k (by omega), List.take_add_one, hy, List.all_append]
  simp [valB, Bool.and_assoc]
theorem valF_end (l : List Nd) : valF false l l.length = l.all valB := by rw [valF_all l _ (Nat.le_refl _), List.take_length]
section
variable {x : Nd}
theorem one1 (hK : x.kind = 1) : oneB x = (x.name == [] && (x.kids.length : Int) == 0 && (x.names.length : Int) == 0) := by
 unfold oneB shapeB kidsB bareB
 rw [hK]
 cases h : x.kids with
 | nil => simp
 | cons y l => simp; omega
theorem one23 (hK : x.kind = 2 ∨ x.kind = 3) : oneB x = (x.num == 0 && (x.kids.length : Int) == 0 && (x.names.length : Int) == 0) := by
 unfold oneB shapeB kidsB bareB
 rcases hK with hK | hK <;> rw [hK] <;> cases h : x.kids with
 | nil => simp
 | cons y l => simp; omega
theorem one4 (hK : x.kind = 4) : oneB x = (x.name == [] && x.num == 0 && (x.names.length : Int) == 0 && x.kids.all litB) := by
 unfold oneB shapeB kidsB bareB
 rw [hK]; simp [Bool.and_assoc]
theorem one5 (hK : x.kind = 5) : oneB x = (x.num == 0 && (x.names.length : Int) == 0 && (x.kids.length : Int) == 0 && isName x.name) := by
 unfold oneB shapeB kidsB bareB
 rw [hK]
 cases h : x.kids with
 | nil => simp [Bool.and_comm]
 | cons y l =>
  have h1 : ((l.length : Int) + 1 == 0) = false := by rw [beq_eq_false_iff_ne]; omega
  simp [h1]
theorem one6 (hK : x.kind = 6) : oneB x = (x.num == 0 && (x.names.length : Int) == 0 && (x.kids.length : Int) == 1 && isName x.name && x.kids.all valB) := by
 unfold oneB shapeB kidsB bareB
 rw [hK]; simp [Bool.and_comm, Bool.and_left_comm]
theorem one10 (hK : x.kind = 10) : oneB x = (x.name == [] && x.num == 0 && (x.names.length : Int) == 0 && (x.kids.length : Int) == 1 && x.kids.all valB) := by
 unfold oneB shapeB kidsB bareB
 rw [hK]; simp [Bool.and_comm, Bool.and_left_comm]
theorem one9 (hK : x.kind = 9) : oneB x = (x.name == [] && decide (0 ≤ x.num) && decide (x.num ≤ (x.names.length : Int)) && x.names.all isName && bodyB x.kids) := by
 unfold oneB shapeB kidsB bareB
 rw [hK]; simp [Bool.and_assoc]
theorem one8 (hK : x.kind = 8) : oneB x = (x.name == [] && x.num == 0 && (x.names.length : Int) == 0 && decide (2 ≤ x.kids.length) && kidsB x) := by
 unfold oneB shapeB bareB
 rw [hK]; simp [Bool.and_comm, Bool.and_left_comm]
theorem one7 (hK : x.kind = 7) : oneB x = (x.num == 0 && (x.names.length : Int) == 0 && decide (0 ≤ Lx.arityL x.name) && (x.kids.length : Int) == Lx.arityL x.name + 1 && valF true x.kids x.kids.length) := by
 have e : kidsB x = (match x.kids with | [] => false | y :: l => l.all valB && y.kind != 10) := by
  unfold kidsB
  rw [hK, if_neg (by decide), if_neg (by decide), if_neg (by decide), if_pos rfl]
  cases x.kids <;> rfl
 unfold oneB
 rw [e]
 unfold shapeB bareB
 rw [hK]
 cases h : x.kids with
 | nil =>
  simp
  intros
  omega
 | cons y l =>
  have := valF_seven y l l.length (Nat.le_refl _)
  rw [List.take_length] at this
  show _ = (_ && _ && _ && _ && valF true (y :: l) (l.length + 1))
  rw [this]
  have e1 : decide (1 + Lx.arityL x.name < 0) = decide (Lx.arityL x.name + 1 < 0) := by rw [Int.add_comm]
  by_cases ha : 0 ≤ Lx.arityL x.name
  · have e2 : decide (1 + Lx.arityL x.name < 0) = false := decide_eq_false (by omega)
    simp [e2, ha, Int.add_comm, Bool.and_assoc, Bool.and_comm, Bool.and_left_comm]
  · simp [ha]
theorem one11 (hK : x.kind = 11) : oneB x = (x.name == [] && x.num == 0 && (x.names.length : Int) == 0 && (x.kids.length : Int) == 0) := by
 unfold oneB shapeB kidsB bareB
 rw [hK]
 cases h : x.kids with
 | nil => simp [Bool.and_comm, Bool.and_left_comm]
 | cons y l =>
  have h1 : ((l.length : Int) + 1 == 0) = false := by rw [beq_eq_false_iff_ne]; omega
  simp [h1]
theorem oneX (h : x.kind < 1 ∨ 11 < x.kind) : oneB x = false := by
 unfold oneB shapeB
 rw [if_neg (by omega), if_neg (by omega), if_neg (by omega), if_neg (by omega), if_neg (by omega), if_neg (by omega), if_neg (by omega), if_neg (by omega), if_neg (by omega)]
 have : (x.kind == 11) = false := beq_eq_false_iff_ne.2 (by omega)
 simp [this]
end
end Tr
end Go.Proofs.YtfbhokdcnjekiaaGreatDoor
