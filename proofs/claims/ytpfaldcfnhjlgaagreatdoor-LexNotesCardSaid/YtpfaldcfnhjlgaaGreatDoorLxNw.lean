/- LexNotes: the walk. -/
import Derived.Test.YtpfaldcfnhjlgaaGreatDoorLxSp
import Derived.Test.YtpfaldcfnhjlgaaGreatDoorLxNt
import Derived.Lib.ConvBytes
set_option linter.unusedVariables false
namespace Go.Proofs.YtpfaldcfnhjlgaaGreatDoor
open Go.RowKit
namespace Lx
/-- A slice of strings, in memory. -/
def StrsAt (w : World) (v : Value) (ns : List ByteArray) : Prop :=
  (ns = [] ∧ ∃ a cap, v = .slice a 0 cap) ∨ ∃ b off cap, v = .slice (some ⟨b, off, none⟩) ns.length cap ∧ b < w.heap.size ∧ ns.length ≤ cap ∧ cap ≤ maxLen ∧ ∀ i s, ns[i]? = some s → w.cell? ⟨b, off + i, none⟩ = some (.string s)
/-- What is written ahead of token i. -/
def noteAt (ns : List ByteArray) (i : Nat) : Bytes := if ns = [] then [] else (shortB (ns.getD (i % ns.length) ByteArray.empty) 30).data.toList
def pairs (ns : List ByteArray) (l : List Tok) : List (Bytes × Tok) := l.zipIdx.map fun x => (noteAt ns x.2, x.1)
def pcs (l : List (Bytes × Tok)) : Bytes := l.flatMap fun x => piece x.1 x.2
theorem whole_pcs (l : List (Bytes × Tok)) : wholeT l = pcs l ++ [32] := by
  induction l with
  | nil => rfl
  | cons x l ih => obtain ⟨a, t⟩ := x; unfold wholeT pcs; rw [List.flatMap_cons, ih]; unfold pcs; simp
theorem pairs_snd (ns : List ByteArray) (l : List Tok) : (pairs ns l).map Prod.snd = l := by
  unfold pairs; rw [List.map_map]
  have : (Prod.snd ∘ fun x : Tok × Nat => (noteAt ns x.2, x.1)) = Prod.fst := rfl
  rw [this, List.zipIdx_map_fst]
theorem pairs_at (ns : List ByteArray) (l : List Tok) (i : Nat) (t : Tok) (h : l[i]? = some t) : (pairs ns l)[i]? = some (noteAt ns i, t) := by
  unfold pairs; rw [List.getElem?_map, List.getElem?_zipIdx, h]; simp
theorem pcs_step (l : List (Bytes × Tok)) (i : Nat) (x : Bytes × Tok) (h : l[i]? = some x) : pcs (l.take (i + 1)) = pcs (l.take i) ++ piece x.1 x.2 := by
  unfold pcs
  rw [List.take_add_one, h]; simp
theorem notesL_app (a : Bytes) (c : UInt8) : notesL (a ++ [c]) = notesL a ++ (if c = 34 then [] else [34, c, 34, 10, 32]) := by
  induction a with
  | nil => simp only [List.nil_append, notesL]
  | cons d a ih =>
    simp only [List.cons_append, notesL]
    split
    · exact ih
    · rw [ih]; rfl
theorem notesL_len (a : Bytes) : (notesL a).length ≤ 5 * a.length := by
  induction a with
  | nil => simp [notesL]
  | cons d a ih => simp only [notesL]; split <;> simp <;> omega
theorem noteAt_len (ns : List ByteArray) (i : Nat) : (noteAt ns i).length ≤ 30 := by
  unfold noteAt; split
  · simp
  · exact shortB_le _ 30
end Lx
end Go.Proofs.YtpfaldcfnhjlgaaGreatDoor
