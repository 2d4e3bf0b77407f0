/- Slices that can be read, wherever they lie. No program in sight. -/
import Derived.Test.YtojblndlchcjeaaHpBut
set_option linter.unusedVariables false
namespace Go.Proofs.Ytojblndlchcjeaa
open Go.RowKit
namespace Hp
open Bs Sm
/-- A slice whose elements can be read; its block is one of S. -/
def Rd {α : Type} (S : Nat → Prop) (f : α → Value) (w : World) (v : Value) (l : List α) : Prop :=
  ∃ a cap, v = .slice a l.length cap ∧ l.length ≤ cap ∧ cap ≤ maxLen ∧ (a = none → cap = 0) ∧ (0 < l.length → ∃ b off, a = some ⟨b, off, none⟩ ∧ S b ∧ b < w.heap.size ∧ ∀ i x, l[i]? = some x → w.cell? ⟨b, off + i, none⟩ = some (f x))
/-- All blocks of S stay. -/
def Kp (S : Nat → Prop) (w w' : World) : Prop := w.heap.size ≤ w'.heap.size ∧ ∀ b, S b → b < w.heap.size → w'.heap[b]? = w.heap[b]?
section
variable {α : Type} {S S' : Nat → Prop} {f : α → Value} {w w' : World} {v : Value} {l : List α}
theorem Kp.cell (h : Kp S w w') {b : Nat} (hb : S b) (hl : b < w.heap.size) (i : Nat) : w'.cell? ⟨b, i, none⟩ = w.cell? ⟨b, i, none⟩ := World.cell?_of_block (h.2 b hb hl)
theorem Kp.of (h : Below w.heap.size w w') : Kp S w w' := ⟨h.size, fun b _ hl => h.block b hl⟩
theorem Kp.lt {B : Nat} (h : Below B w w') : Kp (fun b => b < B) w w' := ⟨h.size, fun b hb _ => h.block b hb⟩
theorem Rd.kp (h : Rd S f w v l) (hk : Kp S w w') : Rd S f w' v l := by
  obtain ⟨a, cap, h1, h2, h3, h5, h4⟩ := h
  refine ⟨a, cap, h1, h2, h3, h5, fun hl => ?_⟩
  obtain ⟨b, off, k1, k0, k2, k3⟩ := h4 hl
  exact ⟨b, off, k1, k0, Nat.lt_of_lt_of_le k2 hk.1, fun i x hx => (hk.cell k0 k2 _).trans (k3 i x hx)⟩
theorem Rd.below (h : Rd S f w v l) (hb : Below w.heap.size w w') : Rd S f w' v l := h.kp (Kp.of hb)
theorem Rd.mono (h : Rd S f w v l) (hs : ∀ b, S b → b < w.heap.size → S' b) : Rd S' f w v l := by
  obtain ⟨a, cap, h1, h2, h3, h5, h4⟩ := h
  refine ⟨a, cap, h1, h2, h3, h5, fun hl => ?_⟩
  obtain ⟨b, off, k1, k0, k2, k3⟩ := h4 hl
  exact ⟨b, off, k1, hs b k0 k2, k2, k3⟩
theorem Rd.form (h : Rd S f w v l) : ∃ a cap, v = .slice a l.length cap ∧ l.length ≤ cap ∧ cap ≤ maxLen := by
  obtain ⟨a, cap, h1, h2, h3, _⟩ := h
  exact ⟨a, cap, h1, h2, h3⟩
theorem Rd.cut {a : Option Addr} {n cap : Nat} (h : Rd S f w (.slice a n cap) l) (k : Nat) (hk : k ≤ n) : Rd S f w (.slice a k cap) (l.take k) := by
  obtain ⟨a', cap', h1, h2, h3, h5, h4⟩ := h
  cases h1
  have hl : (l.take k).length = k := by rw [List.length_take]; omega
  refine ⟨a, cap, by rw [hl], by rw [hl]; omega, h3, h5, fun hl2 => ?_⟩
  rw [hl] at hl2
  obtain ⟨b, off, k1, k0, k2, k3⟩ := h4 (by omega)
  refine ⟨b, off, k1, k0, k2, fun i x hx => k3 i x ?_⟩
  rw [List.getElem?_take] at hx
  split at hx
  · exact hx
  · cases hx
theorem Rd.at_ {a : Option Addr} {n cap : Nat} (h : Rd S f w (.slice a n cap) l) (i : Nat) (hi : i < n) : ∃ b off x, a = some ⟨b, off, none⟩ ∧ l[i]? = some x ∧ b < w.heap.size ∧ w.cell? ⟨b, off + i, none⟩ = some (f x) := by
  obtain ⟨a', cap', h1, h2, h3, h5, h4⟩ := h
  cases h1
  obtain ⟨b, off, k1, k0, k2, k3⟩ := h4 (by omega)
  have hx := List.getElem?_eq_getElem hi
  exact ⟨b, off, _, k1, hx, k2, k3 i _ hx⟩
theorem Rd.of {B e : Nat} (h : w.ownsRow B e 1 v l.length (l.map f)) : Rd (fun b => B ≤ b) f w v l := by
  have hlt := h.lt
  have h0 := h
  rcases h.2 with ⟨rfl, hn⟩ | ⟨g, cap, cur, rfl, hb, hg, hnc, hcm, _⟩
  · exact ⟨none, 0, by rw [hn], by omega, by unfold maxLen; omega, fun _ => rfl, fun hl => by omega⟩
  · refine ⟨some ⟨g, 0, none⟩, cap, rfl, hnc, hcm, (fun h => by cases h), fun _ => ⟨g, 0, rfl, hb, (hlt g rfl).2, fun i x hx => ?_⟩⟩
    have hc := World.ownsRow.cells h0 (g := g) rfl i (f x) (by rw [List.getElem?_map, hx]; rfl)
    rw [Nat.zero_add]
    have e : (⟨g, 0, none⟩ : Addr).add i = ⟨g, i, none⟩ := by unfold Addr.add; split <;> simp_all
    rw [e] at hc
    exact hc
end
theorem Rd.nil {α : Type} (S : Nat → Prop) (f : α → Value) (w : World) : Rd S f w (.slice none 0 0) [] := ⟨none, 0, rfl, Nat.le_refl _, by unfold maxLen; omega, fun _ => rfl, fun h => by simp at h⟩
/-- Only the row's own block is read. -/
theorem Rd.one {α : Type} {S : Nat → Prop} {f : α → Value} {w w' : World} {v : Value} {l : List α} (h : Rd S f w v l) (hs : w.heap.size ≤ w'.heap.size) (hk : ∀ b, v.ownBlock = some b → w'.heap[b]? = w.heap[b]?) : Rd S f w' v l := by
  obtain ⟨a, cap, h1, h2, h3, h5, h4⟩ := h
  refine ⟨a, cap, h1, h2, h3, h5, fun hl => ?_⟩
  obtain ⟨b, off, k1, k0, k2, k3⟩ := h4 hl
  have hb : w'.heap[b]? = w.heap[b]? := hk b (by rw [h1, k1]; rfl)
  exact ⟨b, off, k1, k0, Nat.lt_of_lt_of_le k2 hs, fun i x hx => (World.cell?_of_block hb).trans (k3 i x hx)⟩
/-- A row of one's own, to be read in that very block. -/
theorem Rd.own {α : Type} {f : α → Value} {w : World} {B e : Nat} {v : Value} {l : List α} (h : w.ownsRow B e 1 v l.length (l.map f)) : Rd (fun b => v.ownBlock = some b) f w v l := by
  have hlt := h.lt
  have h0 := h
  rcases h.2 with ⟨rfl, hn⟩ | ⟨g, cap, cur, rfl, hb, hg, hnc, hcm, _⟩
  · exact ⟨none, 0, by rw [hn], by omega, by unfold maxLen; omega, fun _ => rfl, fun hl => by omega⟩
  · refine ⟨some ⟨g, 0, none⟩, cap, rfl, hnc, hcm, (fun h => by cases h), fun _ => ⟨g, 0, rfl, rfl, (hlt g rfl).2, fun i x hx => ?_⟩⟩
    have hc := World.ownsRow.cells h0 (g := g) rfl i (f x) (by rw [List.getElem?_map, hx]; rfl)
    rw [Nat.zero_add]
    have e : (⟨g, 0, none⟩ : Addr).add i = ⟨g, i, none⟩ := by unfold Addr.add; split <;> simp_all
    rw [e] at hc
    exact hc
end Hp
end Go.Proofs.Ytojblndlchcjeaa
