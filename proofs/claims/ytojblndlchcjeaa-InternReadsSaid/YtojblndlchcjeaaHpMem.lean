/- Chapters 08 and 17: the program's heap in memory: its block, its cells, its set of starts. -/
import Derived.Test.YtojblndlchcjeaaHpBs
import Derived.Test.YtojblndlchcjeaaHpAa
set_option linter.unusedVariables false
namespace Go.Proofs.Ytojblndlchcjeaa
open Go.RowKit
namespace Hp
open Bs Sm
abbrev HT : Nat := 126
abbrev BT : Nat := 159
abbrev WT : Nat := 40
abbrev UT : Nat := 38
/-- A word. -/
def uV (x : Nat) : Value := .int .u64 (x : Int)
def rowA (l : List Nat) : Array Value := (l.map uV).toArray
theorem row_get {l : List Nat} {i x : Nat} (h : l[i]? = some x) : (rowA l)[i]? = some (uV x) := by
  unfold rowA
  rw [List.getElem?_toArray, List.getElem?_map, h]; rfl
theorem row_set (l : List Nat) (i x : Nat) : (rowA l).setIfInBounds i (uV x) = rowA (l.set i x) := by
  unfold rowA
  rw [List.setIfInBounds_toArray, List.map_set]
/-- Where the parts of a heap lie. -/
structure Bks where
  h : Nat
  c : Nat
  s : Nat
  b : Nat
def nwL (N : Nat) : Nat := (N + 63) / 64
/-- A set of numbers below n. -/
structure BitsM (sb wb n : Nat) (ws : List Nat) (w : World) : Prop where
  st : Blk BT sb #[.int .i64 (n : Int), .slice (some ⟨wb, 0, none⟩) ws.length ws.length] w
  rs : Blk UT wb (rowA ws) w
/-- A heap, its cells whatever they are. -/
structure Raw (B : Bks) (cs : List Nat) (free : Nat) (ws : List Nat) (last : Nat) (w : World) : Prop where
  hp : Blk HT B.h #[.slice (some ⟨B.c, 0, none⟩) cs.length cs.length, .int .i64 (free : Int), .pointer (some ⟨B.s, 0, none⟩), .int .u32 (last : Int)] w
  rc : Blk WT B.c (rowA cs) w
  bs : BitsM B.s B.b cs.length ws w
/-- The cells of memory: two that are none, the objects, what is free. -/
def cellsN (N : Nat) (l : List Ob) : List Nat := 0 :: 0 :: (heapW l ++ List.replicate (N - endL 2 l) 0)
/-- What is right of a heap of objects. -/
structure Fine (N : Nat) (l : List Ob) (last : Nat) : Prop where
  ch : Chain 2 l
  ok : ∀ o ∈ l, OkO o
  fit : endL 2 l ≤ N
  lo : 16 ≤ N
  hi : N ≤ 16777216
  la : last < 16777216
/-- The heap of a list of objects. -/
def Mem (B : Bks) (N : Nat) (l : List Ob) (last : Nat) (w : World) : Prop := Fine N l last ∧ ∃ ws, BitsOf (startB l) N ws ∧ Raw B (cellsN N l) (endL 2 l) ws last w
section
variable {B : Bks} {N n sb wb free last : Nat} {l : List Ob} {cs ws : List Nat} {w w' : World}
theorem BitsM.bel (h : BitsM sb wb n ws w) (hb : Below w.heap.size w w') : BitsM sb wb n ws w' := ⟨h.st.below hb h.st.lt, h.rs.below hb h.rs.lt⟩
theorem Raw.bel (h : Raw B cs free ws last w) (hb : Below w.heap.size w w') : Raw B cs free ws last w' := ⟨h.hp.below hb h.hp.lt, h.rc.below hb h.rc.lt, h.bs.bel hb⟩
theorem Mem.bel (h : Mem B N l last w) (hb : Below w.heap.size w w') : Mem B N l last w' := by
  obtain ⟨hf, ws, h1, h2⟩ := h
  exact ⟨hf, ws, h1, h2.bel hb⟩
theorem cells_len (hok : ∀ o ∈ l, OkO o) (hN : endL 2 l ≤ N) : (cellsN N l).length = N := by
  have h := heapW_len l 2 hok
  unfold cellsN
  rw [List.length_cons, List.length_cons, List.length_append, List.length_replicate]
  omega
theorem Fine.len (h : Fine N l last) : (cellsN N l).length = N := cells_len h.ok h.fit
theorem ht_bt : HT ≠ BT := by decide
theorem ht_wt : HT ≠ WT := by decide
theorem ht_ut : HT ≠ UT := by decide
theorem bt_wt : BT ≠ WT := by decide
theorem bt_ut : BT ≠ UT := by decide
theorem wt_ut : WT ≠ UT := by decide
theorem blk_ne {T T' k k' : Nat} {cs cs' : Array Value} (h : Blk T k cs w) (h' : Blk T' k' cs' w) (hne : T ≠ T') : k ≠ k' := by
  rintro rfl
  unfold Blk at h h'
  rw [h] at h'
  cases h'
  exact hne rfl
end
end Hp
end Go.Proofs.Ytojblndlchcjeaa
