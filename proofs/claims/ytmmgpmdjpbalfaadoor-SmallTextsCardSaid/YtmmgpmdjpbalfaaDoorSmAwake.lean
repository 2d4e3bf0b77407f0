/- The law package's fixed fact: awake returns true; where the library's table of powers lies as it was laid. -/
import Derived.Test.YtmmgpmdjpbalfaaDoorSmOps1
import Derived.Test.YtmmgpmdjpbalfaaDoorSmMath
import Derived.Test.YtmmgpmdjpbalfaaDoorShelf
import Derived.Below
namespace Go.Proofs.YtmmgpmdjpbalfaaDoor
open Go.RowKit
namespace Sm
theorem below_grows (w : World) (k : Nat) (os : Array Obj) : Below w.heap.size w (Sort.grow (w.drewN k) os) :=
  ⟨rfl, rfl, rfl, by show w.heap.size ≤ (w.heap ++ os).size; rw [Array.size_append]; omega, fun j hj => by
    show (w.heap ++ os)[j]? = w.heap[j]?
    exact Array.getElem?_append_left hj⟩
def Pow10 (w : World) : Prop := Lib.TabIs Tryd.prog w "internal/strconv.uint64pow10" .u64 Lib.pow10Tab
/-- A value; new blocks alone. -/
def Back (v : Value) (w : World) (e : Ending) (w' : World) : Prop := e = .returned v ∧ Below w.heap.size w w'
theorem text_any (n : Int) (h0 : -9223372036854775808 ≤ n) (h1 : n ≤ 9223372036854775807) (w : World) (ht : Pow10 w) :
    Calls Tryd.prog 31 #[.int .i64 n] w (Back (.string ⟨(Lib.itoa n).toArray⟩) w) := by
  go_enter Tryd.func31, Tryd.ntmps31
  go_wp2_with fail
  refine (Tryd.strconv_FormatInt_10 n h0 h1 w ht).mono ?_
  rintro e w' ⟨rfl, k, os, rfl⟩
  go_wp2_with fail
  go_ret
  exact ⟨rfl, below_grows _ _ _⟩
theorem wd5 : wd 5 = 11 := by decide
theorem itoa7 : Lib.itoa (-7) = [45, 55] := by simp [Lib.itoa, Lib.decDigits]
set_option maxHeartbeats 1000000 in
theorem awake_any (w : World) (ht : Pow10 w) : Calls Tryd.prog 10 #[] w (Back (.bool true) w) := by
  have H := Lib.hid ht; clear ht
  go_enter Tryd.func10, Tryd.ntmps10
  go_wp2_with fail
  refine (of_in 5 _ ⟨by omega, by omega⟩).mono ?_; rintro e w' ⟨rfl, rfl⟩
  rw [wd5]
  go_wp2_with fail
  refine (is_yes 11 _ (by omega) (by omega) rfl).mono ?_; rintro e w' ⟨rfl, rfl⟩
  go_wp2_with fail
  refine (is_no 12 _ (by omega) (by omega) rfl).mono ?_; rintro e w' ⟨rfl, rfl⟩
  go_wp2_with fail
  refine (text_any (-7) (by omega) (by omega) _ H.out).mono ?_; rintro e w' ⟨rfl, hb⟩
  rw [itoa7]
  go_wp2_with fail
  go_ret
  exact ⟨rfl, hb⟩
end Sm
end Go.Proofs.YtmmgpmdjpbalfaaDoor
