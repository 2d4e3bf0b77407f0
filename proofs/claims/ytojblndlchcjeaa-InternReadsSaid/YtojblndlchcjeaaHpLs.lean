/- Chapter 08, plain: the stages of a town's memory to their end. No program. -/
import Derived.Test.YtojblndlchcjeaaHpAa
set_option linter.unusedVariables false
namespace Go.Proofs.Ytojblndlchcjeaa
open Go.RowKit
namespace Hp
def nmL (n j : Nat) : Bts := (namesL n).getD j []
theorem names_len (n : Nat) : (namesL n).length = NN n := by unfold namesL NN; rw [List.length_append, List.length_map, List.length_range]; rfl
theorem nm_get {n j : Nat} (hj : j < NN n) : (namesL n)[j]? = some (nmL n j) := by
  have h : j < (namesL n).length := by rw [names_len]; exact hj
  unfold nmL
  rw [List.getD_eq_getElem?_getD, List.getElem?_eq_getElem h]; rfl
set_option maxRecDepth 1000000 in
theorem nm_facts : ∀ n, n ≤ 6 → ∀ i, i < NN n → (nmL n i).length ≤ 15 ∧ nmL n i ≠ lacksL ∧ ∀ j, j < NN n → nmL n i = nmL n j → i = j := by
  have h : ∀ n : Fin 7, ∀ i : Fin 22, i.val < NN n.val → (nmL n.val i.val).length ≤ 15 ∧ nmL n.val i.val ≠ lacksL ∧ ∀ j : Fin 22, j.val < NN n.val → nmL n.val i.val = nmL n.val j.val → i.val = j.val := by decide +kernel
  intro n hn i hi
  have hN : NN n ≤ 22 := by unfold NN; omega
  obtain ⟨h1, h2, h3⟩ := h ⟨n, by omega⟩ ⟨i, by omega⟩ hi
  exact ⟨h1, h2, fun j hj e => h3 ⟨j, by omega⟩ hj e⟩
/-- A map's content while the first k are laid into it. -/
def fnF (nm : Nat → Bts) (val : Nat → Int) : Nat → Bts → Int
  | 0 => fun _ => 0
  | k + 1 => fun x => if x = nm k then val k else fnF nm val k x
def gnF (nm : Nat → Bts) : Nat → Bts → Bool
  | 0 => fun _ => false
  | k + 1 => fun x => if x = nm k then true else gnF nm k x
theorem fnF_at {nm : Nat → Bts} {val : Nat → Int} {N : Nat} (hne : ∀ i j, i < N → j < N → nm i = nm j → i = j) : ∀ k j, k ≤ N → j < k → fnF nm val k (nm j) = val j
  | 0, j, _, h => by omega
  | k + 1, j, hk, h => by
    show (if nm j = nm k then val k else fnF nm val k (nm j)) = val j
    by_cases e : nm j = nm k
    · rw [if_pos e, hne j k (by omega) (by omega) e]
    · rw [if_neg e]
      exact fnF_at hne k j (by omega) (by rcases Nat.lt_or_ge j k with h' | h'; exact h'; exact absurd (by rw [show j = k by omega]) e)
theorem fnF_none {nm : Nat → Bts} {val : Nat → Int} : ∀ k x, (∀ j, j < k → nm j ≠ x) → fnF nm val k x = 0
  | 0, x, _ => rfl
  | k + 1, x, h => by
    show (if x = nm k then val k else fnF nm val k x) = 0
    rw [if_neg fun e => h k (by omega) e.symm]
    exact fnF_none k x fun j hj => h j (by omega)
theorem gnF_iff {nm : Nat → Bts} : ∀ k x, gnF nm k x = true ↔ ∃ j, j < k ∧ nm j = x
  | 0, x => by simp [gnF]
  | k + 1, x => by
    show (if x = nm k then true else gnF nm k x) = true ↔ _
    by_cases e : x = nm k
    · rw [if_pos e]; exact ⟨fun _ => ⟨k, by omega, e.symm⟩, fun _ => rfl⟩
    · rw [if_neg e, gnF_iff k x]
      constructor
      · rintro ⟨j, hj, h⟩; exact ⟨j, by omega, h⟩
      · rintro ⟨j, hj, h⟩; exact ⟨j, by rcases Nat.lt_or_ge j k with h' | h'; exact h'; exact absurd (by rw [← h, show j = k by omega]) e, h⟩
theorem gnF_glob (n : Nat) (hn : n ≤ 6) (x : Bts) : gnF (nmL n) (NN n) x = true ↔ x ∈ globT n := by
  rw [gnF_iff]
  unfold globT
  rw [List.mem_map]
  constructor
  · rintro ⟨j, hj, rfl⟩
    have h : ∀ n : Fin 7, ∀ j : Fin 22, j.val < NN n.val → j.val ∈ orderL n.val := by decide +kernel
    exact ⟨j, h ⟨n, by omega⟩ ⟨j, by unfold NN at hj; omega⟩ hj, rfl⟩
  · rintro ⟨j, hj, rfl⟩
    exact ⟨j, order_lt n hn j hj, rfl⟩
/-- The class of those at the places P told. -/
def setC (c : Nat) (P : List Nat) (l : List Ob) : List Ob := l.map fun o => if 2 * o.at_ ∈ P then { o with hd := { o.hd with cls := c } } else o
def globW (n : Nat) : List Nat := (orderL n).flatMap (fun i => [2 * symAt n i, 2 * clsAt i])
def symsW (n : Nat) : List Nat := (orderL n).map (fun i => 2 * symAt n i) ++ [2 * lackAt n]
def listsK (n k : Nat) : List Nat := (List.range k).flatMap (fun i => [2 * baseAt n i, 2 * (baseAt n i + 4 + cN n i), 2 * (baseAt n i + 6 + cN n i), 2 * (baseAt n i + 8 + cN n i)])
def l0 (n : Nat) (sup flds : List Int) : List Ob := stE n sup flds (NN n) ++ [rw4 (listO (schedAt n) []), rw4 (symO (lackAt n) lacksL)]
def l2 (n : Nat) (sup flds : List Int) : List Ob := setC symC (symsW n) (l0 n sup flds) ++ [rw4 (listO (globAt n) (globW n)), rw4 (listO (symsAt n) (symsW n))]
def l3 (n : Nat) (sup flds : List Int) : List Ob := (l2 n sup flds).set 0 (rootZ (rootW n))
def allL (n : Nat) : List Nat := listsK n (NN n) ++ [2 * schedAt n] ++ [4, 2 * globAt n, 2 * symsAt n]
def l4 (n : Nat) (sup flds : List Int) : List Ob := setC arrC (allL n) (l3 n sup flds)
def nilC (n : Nat) : Nat → List Ob → List Ob
  | 0, l => l
  | k + 1, l => setC (2 * clsAt (3 + k)) [2 * nilAt n k] (nilC n k l)
set_option maxRecDepth 1000000 in
theorem lay_end (n : Nat) (hn : n ≤ 6) (sup flds : List Int) : nilC n 3 (l4 n sup flds) = layL n sup flds := by
  match n, hn with
  | 0, _ => exact (show nilC 0 3 (l4 0 sup flds) = layL 0 sup flds by kernel_rfl)
  | 1, _ => exact (show nilC 1 3 (l4 1 sup flds) = layL 1 sup flds by kernel_rfl)
  | 2, _ => exact (show nilC 2 3 (l4 2 sup flds) = layL 2 sup flds by kernel_rfl)
  | 3, _ => exact (show nilC 3 3 (l4 3 sup flds) = layL 3 sup flds by kernel_rfl)
  | 4, _ => exact (show nilC 4 3 (l4 4 sup flds) = layL 4 sup flds by kernel_rfl)
  | 5, _ => exact (show nilC 5 3 (l4 5 sup flds) = layL 5 sup flds by kernel_rfl)
  | 6, _ => exact (show nilC 6 3 (l4 6 sup flds) = layL 6 sup flds by kernel_rfl)
end Hp
end Go.Proofs.Ytojblndlchcjeaa
