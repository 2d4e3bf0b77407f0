/- Chapter 17, the walk: InternGlobals. -/
import Derived.Test.YtojblndlchcjeaaHpAd
import Derived.Test.YtojblndlchcjeaaHpRl
set_option linter.unusedVariables false
namespace Go.Proofs.Ytojblndlchcjeaa
open Go.RowKit
namespace Hp
open Bs Sm
theorem idx_of {l : List Ob} {x : Nat} {o : Ob} (h : findO l x = some o) : ∃ k, idxO l x = some k ∧ l[k]? = some o := by
  cases hi : idxO l x with
  | none => rw [idx_none hi] at h; cases h
  | some k =>
    obtain ⟨o', h1, -, h3⟩ := idx_some hi
    rw [h] at h3
    cases h3
    exact ⟨k, rfl, h1⟩
theorem find_lt {N last x : Nat} {l : List Ob} {o : Ob} (hf : Fine N l last) (h : findO l x = some o) : x < 18446744073709551616 := by
  obtain ⟨hm, hw⟩ := find_some h
  obtain ⟨i, hi⟩ := List.getElem?_of_mem hm
  have := place_lt hf hi
  have := hf.hi
  omega
theorem at_le {N last : Nat} {l : List Ob} (hf : Fine N l last) : ∀ o ∈ l, o.at_ ≤ 16777216 := fun o ho => by
  obtain ⟨i, hi⟩ := List.getElem?_of_mem ho
  have := place_lt hf hi
  have := hf.hi
  omega
/-- Both searches in a town. -/
theorem both_glob (B : Bks) (N : Nat) (n : Nat) (hn : n ≤ 6) (sup flds : List Int) (s : Bts) (w : World) (hm : Mem B N (layL n sup flds) 0 w) :
    Calls Try.prog 9 #[.pointer (some ⟨B.h, 0, none⟩), .int .u64 4, .string ⟨s.toArray⟩] w (Back (.tuple #[.int .u64 (globR n s : Int), .bool (decide (globR n s ≠ 0))]) w) := by
  have hg := get_root (sup := sup) (flds := flds) hn 3 (by omega)
  have h3 : (rootW n).getD 3 0 = 2 * globAt n := rfl
  rw [h3] at hg
  have hgi : getL (layL n sup flds) 4 3 = (2 * globAt n, 0) := hg
  have := global_any B N (layL n sup flds) 0 4 _ (globT n) s w hm (by omega) (by rw [hgi]; exact find_glob hn) (by rw [hgi]; exact glob_texts hn) (glob_rise n hn)
  rw [hgi] at this
  dsimp only at this
  rw [seek_glob hn] at this
  have hd : decide ((globT n)[spotL (globT n) s]? = some s) = decide (globR n s ≠ 0) := by
    by_cases h : (globT n)[spotL (globT n) s]? = some s
    · rw [decide_eq_true h, decide_eq_true (glob_some h)]
    · rw [decide_eq_false h, decide_eq_false (by unfold globR; rw [if_neg h]; simp)]
  rw [hd] at this
  exact this
end Hp
end Go.Proofs.Ytojblndlchcjeaa
