/- Rows of one's own that are made whole: make([]T, n). No program in sight. -/
import Derived.Test.YtojblndlchcjeaaHpMem
import Derived.Laws.OwnMore
import Derived.Laws.IdiomStrings
import Derived.Laws.BytesArg
set_option linter.unusedVariables false
namespace Go.Proofs.Ytojblndlchcjeaa
open Go.RowKit
namespace Hp
open Bs Sm
def rowV {α : Type} (f : α → Value) (l : List α) : Array Value := (l.map f).toArray
theorem rowV_get {α : Type} {f : α → Value} {l : List α} {i : Nat} {x : α} (h : l[i]? = some x) : (rowV f l)[i]? = some (f x) := by
  unfold rowV
  rw [List.getElem?_toArray, List.getElem?_map, h]; rfl
theorem rowV_set {α : Type} (f : α → Value) (l : List α) (i : Nat) (x : α) : (rowV f l).setIfInBounds i (f x) = rowV f (l.set i x) := by
  unfold rowV
  rw [List.setIfInBounds_toArray, List.map_set]
theorem make_row {P : Program} (t e : TypeId) (i : TypeInfo) (z : Value) (h1 : P.underlying t = some (.slice e)) (h2 : P.info? e = some i) (h3 : i.zero = some z) (h4 : i.size = 1) (h6 : z.cells = #[z]) (kl kc : IntKind) (n : Nat) (hb : i.bytes * n ≤ 281474976710656) (hn : n ≤ maxLen) (w : World) :
    (Instr.makeSlice t (.int kl (n : Int)) (.int kc (n : Int))).run P w = .ok (.slice (some ⟨w.heap.size, 0, none⟩) n n) (w.alloc (.cells (List.replicate n z).toArray e)) := by
  unfold maxLen at hn
  have hb2 : (i.bytes : Int) * (n : Int) ≤ 281474976710656 := by
    have : ((i.bytes * n : Nat) : Int) ≤ 281474976710656 := by omega
    rwa [Int.natCast_mul] at this
  have hr := run_make (P := P) w t e i z h1 h2 h3 kl kc (n : Int) (n : Int) (by omega) (Int.le_refl _) hb2 (by omega)
  rw [hr, Int.toNat_natCast, h4, Nat.mul_one, h6]
  congr 3
  apply Array.ext'
  rw [toList_madeCells_one]
theorem own_blk {α : Type} {f : α → Value} {w : World} {B e g : Nat} {l : List α} (h : Blk e g (rowV f l) w) (hB : B ≤ g) (hl : l.length ≤ maxLen) : w.ownsRow B e 1 (.slice (some ⟨g, 0, none⟩) l.length l.length) l.length (l.map f) := by
  refine ⟨by simp, .inr ⟨g, l.length, rowV f l, rfl, hB, h, Nat.le_refl _, hl, by unfold rowV; simp, ?_⟩⟩
  unfold rowV
  rw [Nat.mul_one, List.take_of_length_le (by simp)]
/-- A slice of bytes of one's own, as a text. -/
def byV (b : UInt8) : Value := .int .u8 (b.toNat : Int)
theorem own_text {P : Program} (t dst e : TypeId) (h1 : P.underlying t = some (.slice e)) (h2 : P.underlying e = some (.int .u8)) (h3 : P.underlying dst = some .string) {w : World} {B : Nat} {v : Value} {l : List UInt8} (h : w.ownsRow B e 1 v l.length (l.map byV)) :
    (convert t dst v).run P w = .ok (.string ⟨l.toArray⟩) w := by
  rcases h.2 with ⟨rfl, hn⟩ | ⟨g, cap, cur, rfl, hb, hg, hnc, hcm, _⟩
  · obtain rfl : l = [] := List.eq_nil_of_length_eq_zero hn
    rw [run_convert_bytes_string w t dst e none 0 0 h1 h2 h3]
    rfl
  · refine run_convert_bytes_back w t dst e _ cap l h1 h2 h3 fun j hj => ?_
    exact World.ownsRow.cells h (g := g) rfl j _ (by rw [List.getElem?_map, List.getElem?_eq_getElem hj]; rfl)
end Hp
end Go.Proofs.Ytojblndlchcjeaa
