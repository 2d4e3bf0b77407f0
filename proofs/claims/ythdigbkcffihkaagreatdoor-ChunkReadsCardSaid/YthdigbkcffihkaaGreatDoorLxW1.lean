/- Package lex, the walk, 1: bytes of a kind; a byte ahead. -/
import Derived.Test.YthdigbkcffihkaaGreatDoorProg
import Derived.Test.YthdigbkcffihkaaGreatDoorLxJoin
import Derived.WalkKit
import Derived.WalkSpells
import Derived.WalkLawsBesides
import Derived.Lib.Hide
import Derived.Below
import Derived.Deep.QuietTactic
import Derived.BigQuiet
import Derived.Deep.RegionWith
import Derived.Test.YthdigbkcffihkaaGreatDoorShelf
set_option linter.unusedVariables false
namespace Go.Proofs.YthdigbkcffihkaaGreatDoor
open Go.RowKit
namespace Lx
/-- One value; the world stays. -/
def Done (x : Value) (w : World) (e : Ending) (w' : World) : Prop := e = .returned x ∧ w = w'
/-- One value; some draws. -/
def Quiet (x : Value) (w : World) (e : Ending) (w' : World) : Prop := e = .returned x ∧ ∃ k, w' = w.drewN k
theorem Done.quiet {P : Program} {f : FuncId} {args : Array Value} {x : Value} {w : World} (h : Calls P f args w (Done x w)) : Calls P f args w (Quiet x w) :=
  h.mono fun _ _ ⟨he, hw⟩ => ⟨he, 0, hw.symm⟩
theorem ret1 {a a' : Value} (h : a = a') : Ending.returned a = .returned a' := by rw [h]
theorem vbool {a b : Bool} (h : a = b) : Value.bool a = Value.bool b := by rw [h]
theorem vint {k : IntKind} {a b : Int} (h : a = b) : Value.int k a = Value.int k b := by rw [h]
theorem drew_two (w : World) (a b : Nat) : ∃ k, (w.drewN a).drewN b = w.drewN k := ⟨a + b, by simp [World.drewN, Nat.add_assoc]⟩
theorem drew_one (w : World) (a : Nat) : ∃ k, w.drewN a = w.drewN k := ⟨a, rfl⟩

set_option maxHeartbeats 1000000 in
theorem letter_any (c : UInt8) (w : World) : Calls Tryz.prog 97 #[.int .u8 (c.toNat : Int)] w (Done (.bool (letter c)) w) := by
  have hc := c.toNat_lt
  have hl : letter c = ((decide (97 ≤ c.toNat) && decide (c.toNat ≤ 122)) || (decide (65 ≤ c.toNat) && decide (c.toNat ≤ 90))) := rfl
  have HL := Lib.hid hl; clear hl
  rcases (show c.toNat < 65 ∨ (65 ≤ c.toNat ∧ c.toNat ≤ 90) ∨ (91 ≤ c.toNat ∧ c.toNat ≤ 96) ∨ (97 ≤ c.toNat ∧ c.toNat ≤ 122) ∨ 122 < c.toNat by omega) with h | ⟨h, h'⟩ | ⟨h, h'⟩ | ⟨h, h'⟩ | h
  all_goals
    go_enter Tryz.func97, Tryz.ntmps97
    go_wp2
    go_ret
    exact ⟨ret1 (vbool (by rw [HL.out, Bool.eq_iff_iff]; constructor <;> intro hh <;> simp at hh ⊢ <;> omega)), rfl⟩
set_option maxHeartbeats 1000000 in
theorem digit_any (c : UInt8) (w : World) : Calls Tryz.prog 100 #[.int .u8 (c.toNat : Int)] w (Done (.bool (digit c)) w) := by
  have hc := c.toNat_lt
  have hl : digit c = (decide (48 ≤ c.toNat) && decide (c.toNat ≤ 57)) := rfl
  have HL := Lib.hid hl; clear hl
  rcases (show c.toNat < 48 ∨ (48 ≤ c.toNat ∧ c.toNat ≤ 57) ∨ 57 < c.toNat by omega) with h | ⟨h, h'⟩ | h
  all_goals
    go_enter Tryz.func100, Tryz.ntmps100
    go_wp2
    go_ret
    exact ⟨ret1 (vbool (by rw [HL.out, Bool.eq_iff_iff]; constructor <;> intro hh <;> simp at hh ⊢ <;> omega)), rfl⟩
theorem hd_drop (s : ByteArray) (at_ n : Nat) (h : at_ + n < s.size) : hd (s.data.toList.drop at_) n = s[at_ + n] := by
  unfold hd
  rw [List.getD_eq_getElem?_getD, List.getElem?_drop, List.getElem?_eq_getElem (show at_ + n < s.data.toList.length from h)]
  rfl
theorem hd_past (s : ByteArray) (at_ n : Nat) (h : s.size ≤ at_ + n) : hd (s.data.toList.drop at_) n = 0 :=
  hd_out _ _ (by rw [List.length_drop]; show s.size - at_ ≤ n; omega)
set_option maxHeartbeats 1000000 in
theorem peek_any (b at_ n : Nat) (s : ByteArray) (w : World) (hs : s.size ≤ 140737488351232) (hat : at_ ≤ s.size) (hn : n ≤ 1) (c0 : w.cell? ⟨b, 0, none⟩ = some (.string s)) (c1 : w.cell? ⟨b, 1, none⟩ = some (.int .i64 (at_ : Int))) :
    Calls Tryz.prog 96 #[.pointer (some ⟨b, 0, none⟩), .int .i64 (n : Int)] w (Quiet (.int .u8 ((hd (s.data.toList.drop at_) n).toNat : Int)) w) := by
  have hsum : IntKind.i64.wrap ((at_ : Int) + (n : Int)) = (at_ : Int) + (n : Int) := IntWalk.i64_in _ (by omega)
  have hsum0 : (0 : Int) ≤ (at_ : Int) + (n : Int) := by omega
  have hsumN : ((at_ : Int) + (n : Int)).toNat = at_ + n := by omega
  by_cases h : at_ + n < s.size
  · have he := hd_drop s at_ n h
    have HE := Lib.hid he; clear he
    go_enter Tryz.func96, Tryz.ntmps96
    go_wp2
    go_quiet (fail)
    go_wp2
    go_quiet (fail)
    go_wp2
    go_ret
    exact ⟨ret1 (vint (by rw [HE.out])), drew_two _ _ _⟩
  · have he := hd_past s at_ n (by omega)
    have HE := Lib.hid he; clear he
    have h' : s.size ≤ at_ + n := by omega
    clear h
    go_enter Tryz.func96, Tryz.ntmps96
    go_wp2
    go_quiet (fail)
    go_wp2
    go_ret
    exact ⟨ret1 (vint (by rw [HE.out]; rfl)), drew_one _ _⟩
theorem peek0 (b at_ : Nat) (s : ByteArray) (w : World) (hs : s.size ≤ 140737488351232) (hat : at_ ≤ s.size) (c0 : w.cell? ⟨b, 0, none⟩ = some (.string s)) (c1 : w.cell? ⟨b, 1, none⟩ = some (.int .i64 (at_ : Int))) :
    Calls Tryz.prog 96 #[.pointer (some ⟨b, 0, none⟩), .int .i64 0] w (Quiet (.int .u8 ((hd (s.data.toList.drop at_) 0).toNat : Int)) w) :=
  peek_any b at_ 0 s w hs hat (by omega) c0 c1
theorem peek1 (b at_ : Nat) (s : ByteArray) (w : World) (hs : s.size ≤ 140737488351232) (hat : at_ ≤ s.size) (c0 : w.cell? ⟨b, 0, none⟩ = some (.string s)) (c1 : w.cell? ⟨b, 1, none⟩ = some (.int .i64 (at_ : Int))) :
    Calls Tryz.prog 96 #[.pointer (some ⟨b, 0, none⟩), .int .i64 1] w (Quiet (.int .u8 ((hd (s.data.toList.drop at_) 1).toNat : Int)) w) :=
  peek_any b at_ 1 s w hs hat (by omega) c0 c1
end Lx
end Go.Proofs.YthdigbkcffihkaaGreatDoor
