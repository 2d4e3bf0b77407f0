/- The lexer's law package: short; rows of tokens. -/
import Derived.Test.YtpfaldcfnhjlgaaGreatDoorLxAwX
import Derived.Test.YtpfaldcfnhjlgaaGreatDoorLxPl
set_option linter.unusedVariables false
namespace Go.Proofs.YtpfaldcfnhjlgaaGreatDoor
open Go.RowKit
namespace Lx
/-- At most n bytes. -/
def shortB (s : ByteArray) (n : Nat) : ByteArray := if n < s.size then s.extract 0 n else s
theorem shortB_le (s : ByteArray) (n : Nat) : (shortB s n).size ≤ n := by
  unfold shortB; split
  · rw [ByteArray.size_extract]; omega
  · omega
theorem short_any (s : ByteArray) (n : Nat) (w : World) : Calls Tryz.prog 7 #[.string s, .int .i64 (n : Int)] w (Done (.string (shortB s n)) w) := by
  have hsh : shortB s n = if n < s.size then s.extract 0 n else s := rfl
  by_cases h : n < s.size
  · rw [if_pos h] at hsh
    rw [hsh]
    have h1 : (n : Int) < (s.size : Int) := by omega
    have h2 : n ≤ s.size := by omega
    clear hsh
    go_enter Tryz.func7, Tryz.ntmps7
    go_wp2
    go_ret
    exact ⟨rfl, rfl⟩
  · rw [if_neg h] at hsh
    rw [hsh]
    have h1 : ¬ (n : Int) < (s.size : Int) := by omega
    clear hsh
    go_enter Tryz.func7, Tryz.ntmps7
    go_wp2
    go_ret
    exact ⟨rfl, rfl⟩
theorem Rows_.below {g : Nat} {l : List Tok} {w w' : World} (h : Rows_ g l w) (hb : Below w.heap.size w w') (hg : g < w.heap.size) : Rows_ g l w' := fun i t ht => by
  obtain ⟨h0, h1, h2, h3⟩ := h i t ht
  exact ⟨(hb.cell (p := ⟨g, _, none⟩) hg).trans h0, (hb.cell (p := ⟨g, _, none⟩) hg).trans h1, (hb.cell (p := ⟨g, _, none⟩) hg).trans h2, (hb.cell (p := ⟨g, _, none⟩) hg).trans h3⟩
end Lx
end Go.Proofs.YtpfaldcfnhjlgaaGreatDoor
