/- Chapter 08: a stage's step; stores into a town's objects. No walk. -/
import Derived.Test.YtojblndlchcjeaaHpLs
import Derived.Test.YtojblndlchcjeaaHpTx
set_option linter.unusedVariables false
namespace Go.Proofs.Ytojblndlchcjeaa
open Go.RowKit
namespace Hp
open Bs Sm
theorem ok_hdL {c k s : Nat} (h1 : c ≠ 0) (h2 : c % 2 = 0) (h3 : s ≤ 1048576) (h4 : k ≤ 2) : okB (hdL c k s) = true := (okB_iff _).2 ⟨h1, h2, h3, by unfold hdL; dsimp only; omega, h4⟩
section
variable {n : Nat} {sup flds : List Int}
theorem ok_root (ws : List Nat) : okB (rootZ ws).hd = true := ok_hdL (by omega) (by omega) (by omega) (by omega)
theorem ok_clsZ (i : Nat) : okB (clsZ i).hd = true := ok_hdL (by omega) (by omega) (by omega) (by omega)
theorem ok_metaZ (i : Nat) : okB (metaZ n i).hd = true := ok_hdL (by omega) (by omega) (by omega) (by omega)
theorem ok_nilZ (i : Nat) : okB (nilZ n i).hd = true := ok_hdL (by omega) (by omega) (by omega) (by omega)
theorem ok_clsS (k i : Nat) : okB (clsS n sup flds k i).hd = true := by
  unfold clsS
  split
  · exact ok_hdL (by unfold metaAt; omega) (by omega) (by omega) (by omega)
  · exact ok_clsZ i
theorem ok_metaS (k i : Nat) : okB (metaS n sup k i).hd = true := by
  unfold metaS
  split
  · exact ok_hdL (by unfold clsAt; omega) (by omega) (by omega) (by omega)
  · exact ok_metaZ i
theorem nm_len (hn : n ≤ 6) (i : Nat) : (nmL n i).length ≤ 15 := by
  rcases Nat.lt_or_ge i (NN n) with h | h
  · exact (nm_facts n hn i h).1
  · unfold nmL
    rw [List.getD_eq_getElem?_getD, List.getElem?_eq_none (by rw [names_len]; exact h)]
    simp
theorem ok_partZ (hn : n ≤ 6) (i : Nat) : ∀ o ∈ partZ n i, okB o.hd = true := by
  intro o ho
  unfold partZ partO at ho
  simp only [List.map_cons, List.map_nil, List.mem_cons, List.not_mem_nil, or_false] at ho
  have hl := nm_len hn i
  unfold nmL at hl
  rcases ho with rfl | rfl | rfl | rfl | rfl
  · exact ok_hdL (c := 4) (k := 1) (s := 0) (by omega) (by omega) (by omega) (by omega)
  · exact ok_hdL (c := 4) (k := 2) (s := ((namesL n).getD i []).length) (by omega) (by omega) (by omega) (by omega)
  · exact ok_hdL (c := 4) (k := 1) (s := 0) (by omega) (by omega) (by omega) (by omega)
  · exact ok_hdL (c := 4) (k := 1) (s := 0) (by omega) (by omega) (by omega) (by omega)
  · exact ok_hdL (c := 4) (k := 1) (s := 0) (by omega) (by omega) (by omega) (by omega)
theorem ok_stE (hn : n ≤ 6) (k : Nat) : ∀ o ∈ stE n sup flds k, okB o.hd = true := by
  intro o ho
  unfold stE at ho
  rcases List.mem_cons.1 ho with rfl | ho
  · exact ok_root _
  rcases List.mem_append.1 ho with ho | ho
  · rcases List.mem_append.1 ho with ho | ho
    · rcases List.mem_append.1 ho with ho | ho
      · obtain ⟨i, -, rfl⟩ := List.mem_map.1 ho; exact ok_clsS k i
      · obtain ⟨i, -, rfl⟩ := List.mem_map.1 ho; exact ok_metaS k i
    · obtain ⟨i, -, rfl⟩ := List.mem_map.1 ho; exact ok_nilZ i
  · obtain ⟨i, -, ho⟩ := List.mem_flatMap.1 ho
    exact ok_partZ hn i o ho
theorem ok_stC (k : Nat) : ∀ o ∈ stC n k, okB o.hd = true := by
  intro o ho
  unfold stC at ho
  rcases List.mem_cons.1 ho with rfl | ho
  · exact ok_root _
  rcases List.mem_append.1 ho with ho | ho
  · obtain ⟨i, -, rfl⟩ := List.mem_map.1 ho; exact ok_clsZ i
  · obtain ⟨i, -, rfl⟩ := List.mem_map.1 ho; exact ok_metaZ i
theorem ok_stB (k : Nat) : ∀ o ∈ stB k, okB o.hd = true := by
  intro o ho
  unfold stB at ho
  rcases List.mem_cons.1 ho with rfl | ho
  · exact ok_root _
  · obtain ⟨i, -, rfl⟩ := List.mem_map.1 ho; exact ok_clsZ i
theorem ok_stD (k : Nat) : ∀ o ∈ stD n k, okB o.hd = true := by
  intro o ho
  unfold stD at ho
  rcases List.mem_cons.1 ho with rfl | ho
  · exact ok_root _
  rcases List.mem_append.1 ho with ho | ho
  · rcases List.mem_append.1 ho with ho | ho
    · obtain ⟨i, -, rfl⟩ := List.mem_map.1 ho; exact ok_clsZ i
    · obtain ⟨i, -, rfl⟩ := List.mem_map.1 ho; exact ok_metaZ i
  · obtain ⟨i, -, rfl⟩ := List.mem_map.1 ho; exact ok_nilZ i
theorem map_range_set {α : Type} (f g : Nat → α) (N k : Nat) (x : α) (hx : g k = x) (h : ∀ i, i ≠ k → f i = g i) : ((List.range N).map f).set k x = (List.range N).map g := by
  apply List.ext_getElem?
  intro i
  by_cases hl : i < N
  · by_cases e : k = i
    · subst e
      rw [List.getElem?_set_self (by simpa using hl), List.getElem?_map, List.getElem?_range hl, ← hx]; rfl
    · rw [List.getElem?_set_ne e, List.getElem?_map, List.getElem?_map, List.getElem?_range hl]
      show some (f i) = some (g i)
      rw [h i (fun h => e h.symm)]
  · rw [List.getElem?_eq_none (by rw [List.length_set]; simpa using hl), List.getElem?_eq_none (by simpa using hl)]
theorem stE_get (k j : Nat) (hk : k < NN n) : (stE n sup flds k ++ (partZ n k).take j)[1 + k]? = some (clsZ k) ∧ (stE n sup flds k ++ (partZ n k).take j)[1 + NN n + k]? = some (metaZ n k) := by
  unfold stE
  have hA : ((List.range (NN n)).map (clsS n sup flds k)).length = NN n := by simp
  have hB : ((List.range (NN n)).map (metaS n sup k)).length = NN n := by simp
  constructor
  · rw [Nat.add_comm 1 k, List.cons_append, List.getElem?_cons_succ, List.append_assoc, List.append_assoc, List.append_assoc, List.getElem?_append_left (by omega), List.getElem?_map, List.getElem?_range hk]
    show some (clsS n sup flds k k) = _
    unfold clsS
    rw [if_neg (Nat.lt_irrefl _)]
  · rw [show 1 + NN n + k = (NN n + k) + 1 by omega, List.cons_append, List.getElem?_cons_succ, List.append_assoc, List.append_assoc, List.append_assoc, List.getElem?_append_right (by omega), hA, show NN n + k - NN n = k by omega, List.getElem?_append_left (by omega), List.getElem?_map, List.getElem?_range hk]
    show some (metaS n sup k k) = _
    unfold metaS
    rw [if_neg (Nat.lt_irrefl _)]
theorem stE_step (k : Nat) (hk : k < NN n) : ((stE n sup flds k ++ partZ n k).set (1 + k) (clsO n sup flds k)).set (1 + NN n + k) (metaO n sup k) = stE n sup flds (k + 1) := by
  unfold stE
  have hA : ((List.range (NN n)).map (clsS n sup flds k)).length = NN n := by simp
  have hB : ((List.range (NN n)).map (metaS n sup k)).length = NN n := by simp
  have hA' : ((List.range (NN n)).map (clsS n sup flds (k + 1))).length = NN n := by simp
  have e1 : ((List.range (NN n)).map (clsS n sup flds k)).set k (clsO n sup flds k) = (List.range (NN n)).map (clsS n sup flds (k + 1)) := map_range_set _ _ _ _ _ (by unfold clsS; rw [if_pos (Nat.lt_succ_self k)]) fun i hi => by
    unfold clsS
    by_cases h : i < k
    · rw [if_pos h, if_pos (by omega)]
    · rw [if_neg h, if_neg (by omega)]
  have e2 : ((List.range (NN n)).map (metaS n sup k)).set k (metaO n sup k) = (List.range (NN n)).map (metaS n sup (k + 1)) := map_range_set _ _ _ _ _ (by unfold metaS; rw [if_pos (Nat.lt_succ_self k)]) fun i hi => by
    unfold metaS
    by_cases h : i < k
    · rw [if_pos h, if_pos (by omega)]
    · rw [if_neg h, if_neg (by omega)]
  rw [Nat.add_comm 1 k, show 1 + NN n + k = (NN n + k) + 1 by omega, List.cons_append, List.set_cons_succ, List.set_cons_succ]
  simp only [List.append_assoc]
  rw [List.set_append_left _ _ (by omega), e1, List.set_append_right _ _ (by omega), hA', show NN n + k - NN n = k by omega, List.set_append_left _ _ (by omega), e2, List.range_succ (n := k), List.flatMap_append]
  simp
end
/-! ### Stores -/
section
variable {B T sb root g m lc k : Nat} {w : World} {vl : List OV} {x : OV}
theorem Tw.setW (h : Tw B T sb w (.slice (some ⟨g, 0, none⟩) m lc) vl root) (hx : vl[k]? = some x) {wv : Value} {ws : List Nat} (hw : OwnU B w wv ws) :
    Tw B T sb (w.setCell ⟨g, k * 8 + 6, none⟩ wv) (.slice (some ⟨g, 0, none⟩) m lc) (vl.set k ({ x.1 with words := ws }, wv, x.2.2)) root ∧ Tf B (fun _ => False) w (w.setCell ⟨g, k * 8 + 6, none⟩ wv) := by
  obtain ⟨cur, hg⟩ : ∃ cur, Blk OT g cur w := by
    rcases h.row.2 with ⟨e, -⟩ | ⟨g1, cap1, cur1, e, -, hg, -⟩
    · cases e
    · cases e; exact ⟨_, hg⟩
  have hm : m = vl.length := by
    obtain ⟨a, c, e⟩ := h.row.form
    cases e; rfl
  have hr := h.row
  unfold OwnO at hr
  rw [← hm] at hr
  have hst := (World.ownsRow.stored hr (k * 8 + 6) wv).1
  refine ⟨⟨h.ge, blk_set h.blk hg tyne.1 _ _, ?_, fun y hy => ?_⟩, (Tf.refl B _ w).set_ hg (World.ownsRow.lt h.row g rfl).1 (.inr rfl) _ _⟩
  · unfold OwnO
    rw [List.length_set, ← hm, ← flatO_set vl k x _ 6 wv hx (by omega) rfl]
    exact hst
  · rcases List.mem_or_eq_of_mem_set hy with hy | rfl
    · exact ⟨own_set (h.rds y hy).1 hg tyne.2.2.1 _ _, own_set (h.rds y hy).2 hg tyne.2.2.2.2.1 _ _⟩
    · exact ⟨own_set hw hg tyne.2.2.1 _ _, own_set (h.rds x (List.mem_of_getElem? hx)).2 hg tyne.2.2.2.2.1 _ _⟩
theorem Tw.setK (h : Tw B T sb w (.slice (some ⟨g, 0, none⟩) m lc) vl root) (hx : vl[k]? = some x) (c : Nat) :
    Tw B T sb (w.setCell ⟨g, k * 8 + 1, none⟩ (.int .u64 (c : Int))) (.slice (some ⟨g, 0, none⟩) m lc) (vl.set k ({ x.1 with hd := { x.1.hd with cls := c } }, x.2)) root ∧ Tf B (fun _ => False) w (w.setCell ⟨g, k * 8 + 1, none⟩ (.int .u64 (c : Int))) := by
  obtain ⟨cur, hg⟩ : ∃ cur, Blk OT g cur w := by
    rcases h.row.2 with ⟨e, -⟩ | ⟨g1, cap1, cur1, e, -, hg, -⟩
    · cases e
    · cases e; exact ⟨_, hg⟩
  have hm : m = vl.length := by
    obtain ⟨a, c, e⟩ := h.row.form
    cases e; rfl
  have hr := h.row
  unfold OwnO at hr
  rw [← hm] at hr
  have hst := (World.ownsRow.stored hr (k * 8 + 1) (.int .u64 (c : Int))).1
  refine ⟨⟨h.ge, blk_set h.blk hg tyne.1 _ _, ?_, fun y hy => ?_⟩, (Tf.refl B _ w).set_ hg (World.ownsRow.lt h.row g rfl).1 (.inr rfl) _ _⟩
  · unfold OwnO
    rw [List.length_set, ← hm, ← flatO_set vl k x _ 1 (.int .u64 (c : Int)) hx (by omega) rfl]
    exact hst
  · rcases List.mem_or_eq_of_mem_set hy with hy | rfl
    · exact ⟨own_set (h.rds y hy).1 hg tyne.2.2.1 _ _, own_set (h.rds y hy).2 hg tyne.2.2.2.2.1 _ _⟩
    · exact ⟨own_set (h.rds x (List.mem_of_getElem? hx)).1 hg tyne.2.2.1 _ _, own_set (h.rds x (List.mem_of_getElem? hx)).2 hg tyne.2.2.2.2.1 _ _⟩
/-- The cells that a store wants. -/
theorem Tw.cells (h : Tw B T sb w (.slice (some ⟨g, 0, none⟩) m lc) vl root) (hx : vl[k]? = some x) : ORow w g (k * 8) x ∧ ∀ j, w.frozen? ⟨g, j, none⟩ = false := by
  refine ⟨h.row.row rfl k x hx, fun j => ?_⟩
  rcases h.row.2 with ⟨e, -⟩ | ⟨g1, cap1, cur1, e, -, hg, -⟩
  · cases e
  · cases e; exact Blk.fz (T := OT) hg j
end
end Hp
end Go.Proofs.Ytojblndlchcjeaa
