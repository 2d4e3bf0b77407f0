/- A Town (a struct of two lists of numbers) and a list of texts that came in, as the walks of chapters 08 and 17 want them. -/
import Derived.Test.YtojblndlchcjeaaHpLy
import Derived.ProofKit
import Derived.Deep.Slices
import Derived.Deep.RegionHeld
import Derived.SizedLaws
set_option linter.unusedVariables false
namespace Go.Proofs.Ytojblndlchcjeaa
open Go Go.RowKit Go.ChangeShapes Go.WideShapes Go.Deep
namespace Hp
open Bs Sm
theorem list_of {α : Type} {Q : Nat → α → Prop} : ∀ n : Nat, (∀ i, i < n → ∃ t, Q i t) → ∃ ts : List α, ts.length = n ∧ ∀ i t, ts[i]? = some t → Q i t
  | 0, _ => ⟨[], rfl, fun i t h => by simp at h⟩
  | n + 1, h => by
    obtain ⟨ts, hl, hq⟩ := list_of n (fun i hi => h i (by omega))
    obtain ⟨t, ht⟩ := h n (by omega)
    refine ⟨ts ++ [t], by simp [hl], fun i u hu => ?_⟩
    by_cases hi : i < n
    · rw [List.getElem?_append_left (by omega)] at hu
      exact hq i u hu
    · have hin : i = n := by
        have := (List.getElem?_eq_some_iff.1 hu).1
        simp [hl] at this; omega
      subst hin
      rw [← hl, List.getElem?_append_right (Nat.le_refl _), Nat.sub_self] at hu
      simp at hu
      subst hu; exact ht
theorem add_flat {b off i : Nat} : (⟨b, off, none⟩ : Addr).add i = ⟨b, off + i, none⟩ := by unfold Addr.add; split <;> simp_all
section
variable {H : Type} {enc : TypeId × Value → H} {W : World}
theorem rd_ints {fuel : Nat} {v : Value} {x : DataW H × List MemPlace} (h : DataW.trod enc Try.prog W 0 (fun _ => true) true fuel 22 [v] = some x) :
    ∃ l : List Int, Rd (fun b => b < W.heap.size) iV W v l ∧ ∀ x ∈ l, -9223372036854775808 ≤ x ∧ x < 9223372036854775808 := by
  rcases Go.Deep.open_slice1 Try.underlying22 (by kernel_rfl) h with ⟨hcs, _⟩ | ⟨a, len, cap, m, n, V, D, Pl, hcs, _, hl, hm, hmm, hx, hi⟩
  · simp only [List.cons.injEq, and_true] at hcs
    subst hcs
    exact ⟨[], Rd.nil _ _ _, fun x hx => by cases hx⟩
  · simp only [List.cons.injEq, and_true] at hcs
    subst hcs
    simp only [if_true] at hmm
    subst hmm
    have HH : ∀ i, i < len → ∃ u : Int, W.cell? (a.add i) = some (iV u) ∧ -9223372036854775808 ≤ u ∧ u < 9223372036854775808 := fun i hil => by
      obtain ⟨h1, h2⟩ := hi i (by omega)
      obtain ⟨s, e, _, w2⟩ := DataW.trod_int Try.underlying3 h2
      simp only [List.cons.injEq, and_true] at e
      simp only [Lit.wf, Bool.and_eq_true, decide_eq_true_eq] at w2
      have a1 : (-9223372036854775808 : Int) ≤ s := w2.1
      have a2 : s ≤ (9223372036854775807 : Int) := w2.2
      exact ⟨s, by rw [h1, e]; rfl, a1, by omega⟩
    obtain ⟨ts, htl, htq⟩ := list_of len HH
    obtain ⟨b, off, spot⟩ := a
    refine ⟨ts, ⟨some ⟨b, off, spot⟩, m, by rw [htl], by omega, hm, fun h => (by cases h), fun hp => ?_⟩, fun x hx => ?_⟩
    · obtain ⟨u, hu, -, -⟩ := HH 0 (by omega)
      have hspot : spot = none := by simpa [Addr.add] using World.cell?_spot hu
      subst hspot
      exact ⟨b, off, rfl, World.block_lt_of_cell? W _ hu, World.block_lt_of_cell? W _ hu, fun i x hx => by have h1 := (htq i x hx).1; rw [add_flat] at h1; exact h1⟩
    · obtain ⟨i, hi2⟩ := List.getElem?_of_mem hx
      exact (htq i x hi2).2
/-- A town, opened. -/
def TownV (W : World) (v : Value) : Prop := ∃ sv fv sup flds, v = .agg #[sv, fv] ∧ Rd (fun b => b < W.heap.size) iV W sv sup ∧ Rd (fun b => b < W.heap.size) iV W fv flds ∧ (∀ x ∈ sup, -9223372036854775808 ≤ x ∧ x < 9223372036854775808) ∧ (∀ x ∈ flds, -9223372036854775808 ≤ x ∧ x < 9223372036854775808)
set_option maxRecDepth 100000 in
theorem town_of {v : Value} {d : DataW H} {p : List MemPlace} (hv : Value.okWide Try.prog W .any 0 24 v) (h : DataW.Trod enc Try.prog W 0 (fun _ => true) true 24 v d p) : TownV W v := by
  obtain ⟨cs, rfl, hsz⟩ := okWide_struct Try.underlying24 hv
  obtain ⟨l⟩ := cs
  have hC : Try.prog.cellsOf 24 = 2 := by kernel_rfl
  match l, hsz.trans hC with
  | [c0, c1], _ =>
    obtain ⟨fuel, hf⟩ := h
    obtain ⟨xs, n, _, hx, _, hlen, hg⟩ := DataW.trod_struct Try.underlying24 hf
    match xs, hlen with
    | [y0, y1], _ =>
      have z22 : Try.prog.cellsOf 22 = 1 := by kernel_rfl
      have t0 := hg 0 _ rfl
      have t1 := hg 1 _ rfl
      simp only [z22, Value.cells] at t0 t1
      obtain ⟨l1, r1, b1⟩ := rd_ints (show DataW.trod enc Try.prog W 0 (fun _ => true) true n 22 [c0] = some y0 from t0)
      obtain ⟨l2, r2, b2⟩ := rd_ints (show DataW.trod enc Try.prog W 0 (fun _ => true) true n 22 [c1] = some y1 from t1)
      exact ⟨c0, c1, l1, l2, rfl, r1, r2, b1, b2⟩
end
end Hp
end Go.Proofs.Ytojblndlchcjeaa
