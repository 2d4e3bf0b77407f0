/- A method (a struct with a tree of nodes beneath) that came in, as the walks of chapter 10 want it (open_slice_fields in FrOpen). -/
import Derived.Test.YtmmgfifpjifjnaaGreatDoorTrC
import Derived.Test.YtmmgfifpjifjnaaGreatDoorFrOpen
import Derived.ProofKit
import Derived.Deep.RegionHeld
set_option linter.unusedVariables false
namespace Go.Proofs.YtmmgfifpjifjnaaGreatDoor
open Go Go.RowKit Go.ChangeShapes Go.WideShapes Go.Deep
namespace Tr
open Bs Sm
theorem cells_node : Tryz.prog.cellsOf 53 = 6 := by kernel_rfl
theorem list_of {α : Type} {Q : Nat → α → Prop} : ∀ n : Nat, (∀ i, i < n → ∃ t, Q i t) → ∃ ts : List α, ts.length = n ∧ ∀ i t, ts[i]? = some t → Q i t
 | 0, _ => ⟨[], rfl, fun i t h => by simp at h⟩
 | n + 1, h => by
  obtain ⟨ts, hl, hq⟩ := list_of n (fun i hi => h i (by omega))
  obtain ⟨t, ht⟩ := h n (by omega)
  refine ⟨ts ++ [t], by simp [hl], fun i u hu => ?_⟩
  by_cases hi : i < n
  · rw [List.getElem?_append_left (by omega)] at hu
    exact hq i u hu
  have hin : i = n := by
   have := (List.getElem?_eq_some_iff.1 hu).1
   simp [hl] at this; omega
  subst hin
  rw [← hl, List.getElem?_append_right (Nat.le_refl _), Nat.sub_self] at hu
  simp at hu
  subst hu; exact ht
theorem add_flat {b off i : Nat} : (⟨b, off, none⟩ : Addr).add i = ⟨b, off + i, none⟩ := by unfold Addr.add; split <;> simp_all
section
variable {H : Type} {enc : TypeId × Value → H} {W : World}
theorem rd_strs {fuel : Nat} {v : Value} {x : DataW H × List MemPlace} (h : DataW.trod enc Tryz.prog W 0 (fun _ => true) true fuel 22 [v] = some x) : ∃ l : List Bytes, Rd (fun _ => True) strV W v l := by
 rcases Go.Deep.open_slice1 Tryz.underlying22 (by kernel_rfl) h with ⟨hcs, _⟩ | ⟨a, len, cap, m, n, V, D, Pl, hcs, _, hl, hm, hmm, _, hi⟩
 · simp only [List.cons.injEq, and_true] at hcs
   subst hcs
   exact ⟨[], Rd.none_ rfl _ _ (fun _ => rfl) (by unfold maxLen; omega)⟩
 simp only [List.cons.injEq, and_true] at hcs
 subst hcs
 simp only [if_true] at hmm
 subst hmm
 have HH : ∀ i, i < len → ∃ u : Bytes, W.cell? (a.add i) = some (strV u) := fun i hil => by
  obtain ⟨h1, h2⟩ := hi i (by omega)
  obtain ⟨s, e, _, _⟩ := DataW.trod_string Tryz.underlying9 h2
  simp only [List.cons.injEq, and_true] at e
  exact ⟨s.data.toList, by rw [h1, e]; rfl⟩
 obtain ⟨ts, htl, htq⟩ := list_of len HH
 obtain ⟨b, off, spot⟩ := a
 refine ⟨ts, some ⟨b, off, spot⟩, m, by rw [htl], by omega, hm, fun h => (by cases h), fun hp => ?_⟩
 obtain ⟨u, hu⟩ := HH 0 (by omega)
 have hspot : spot = none := by simpa [Addr.add] using World.cell?_spot hu
 subst hspot
 exact ⟨b, off, rfl, trivial, World.block_lt_of_cell? W _ hu, fun i x hx => by have h1 := htq i x hx; rw [add_flat] at h1; exact h1⟩
set_option maxRecDepth 100000 in
theorem tree_of : ∀ (s : Nat) (d : DataW H), SizeOf.sizeOf d ≤ s → ∀ (fuel : Nat) (v : Value) (p : List MemPlace), DataW.trod enc Tryz.prog W 0 (fun _ => true) true fuel 23 [v] = some (d, p) →
  ∃ l, Tree (fun _ => True) W v l ∧ ∀ x ∈ allL l, InI x
 | s, d, hs, fuel, v, p, hf => by
  rcases Lx.open_slice_fields Tryz.underlying23 Tryz.underlying53 (by kernel_rfl) cells_node hf with ⟨hcs, hx⟩ | ⟨a, len, cap, m, D, Pl, hcs, _, hl, hm, hmm, hx, hi⟩
  · simp only [List.cons.injEq, and_true] at hcs
    subst hcs
    exact ⟨[], Tree.nil _ _, fun x hx => by rw [allL_nil] at hx; cases hx⟩
  simp only [List.cons.injEq, and_true] at hcs
  subst hcs
  simp only [if_true] at hmm
  subst hmm
  simp only [Prod.mk.injEq] at hx
  have hd := hx.1
  have HH : ∀ i, i < len → ∃ t : Nd × Value × Value, (W.cell? (a.add (i * 6)) = some (.int .i64 t.1.kind) ∧ W.cell? (a.add (i * 6 + 1)) = some (.string ⟨t.1.name.toArray⟩) ∧ W.cell? (a.add (i * 6 + 2)) = some (.int .i64 t.1.num) ∧ W.cell? (a.add (i * 6 + 3)) = some t.2.1 ∧ W.cell? (a.add (i * 6 + 4)) = some t.2.2 ∧ W.cell? (a.add (i * 6 + 5)) = some (.int .i64 t.1.at_)) ∧
    Tree (fun _ => True) W t.2.1 t.1.kids ∧ Rd (fun _ => True) strV W t.2.2 t.1.names ∧ InI t.1 ∧ ∀ y ∈ allL t.1.kids, InI y := by
   intro i hil
   obtain ⟨ys, n, hD, hPl, hyl, hg⟩ := hi i (by omega)
   obtain ⟨v0, y0, hc0, hy0, ht0⟩ := hg 0 _ rfl
   obtain ⟨v1, y1, hc1, hy1, ht1⟩ := hg 1 _ rfl
   obtain ⟨v2, y2, hc2, hy2, ht2⟩ := hg 2 _ rfl
   obtain ⟨v3, y3, hc3, hy3, ht3⟩ := hg 3 _ rfl
   obtain ⟨v4, y4, hc4, hy4, ht4⟩ := hg 4 _ rfl
   obtain ⟨v5, y5, hc5, hy5, ht5⟩ := hg 5 _ rfl
   have hsz : SizeOf.sizeOf y3.1 < SizeOf.sizeOf d := by
    have m1 : D i ∈ (List.range len).map D := List.mem_map.2 ⟨i, List.mem_range.2 hil, rfl⟩
    have m2 : y3.1 ∈ ys.map (·.1) := List.mem_map.2 ⟨y3, List.mem_of_getElem? hy3, rfl⟩
    have s1 := List.sizeOf_lt_of_mem m1
    have s2 := List.sizeOf_lt_of_mem m2
    rw [hd]
    rw [hD] at s1
    simp only [DataW.slice.sizeOf_spec, DataW.agg.sizeOf_spec] at s1 ⊢
    omega
   obtain ⟨k0, e0, _, _⟩ := DataW.trod_int Tryz.underlying3 ht0
   obtain ⟨k1, e1, _, _⟩ := DataW.trod_string Tryz.underlying9 ht1
   obtain ⟨k2, e2, _, w2⟩ := DataW.trod_int Tryz.underlying2 ht2
   obtain ⟨k5, e5, _, _⟩ := DataW.trod_int Tryz.underlying3 ht5
   obtain ⟨l3, r3, i3⟩ := tree_of (s - 1) y3.1 (by omega) n v3 y3.2 ht3
   obtain ⟨l4, r4⟩ := rd_strs ht4
   simp only [List.cons.injEq, and_true] at e0 e1 e2 e5
   subst e0; subst e1; subst e2; subst e5
   simp only [Lit.wf, Bool.and_eq_true, decide_eq_true_eq] at w2
   have a0 : W.cell? (a.add (i * 6)) = some (.int .i64 k0) := by simpa using hc0
   have a1 : W.cell? (a.add (i * 6 + 1)) = some (.string k1) := by simpa using hc1
   have a2 : W.cell? (a.add (i * 6 + 2)) = some (.int .i64 k2) := by simpa using hc2
   have a3 : W.cell? (a.add (i * 6 + 3)) = some v3 := by simpa using hc3
   have a4 : W.cell? (a.add (i * 6 + 4)) = some v4 := by simpa using hc4
   have a5 : W.cell? (a.add (i * 6 + 5)) = some (.int .i64 k5) := by simpa using hc5
   exact ⟨(.mk k0 k1.data.toList k2 l3 l4 k5, v3, v4), ⟨a0, a1, a2, a3, a4, a5⟩, r3, r4, w2, i3⟩
  obtain ⟨ts, htl, htq⟩ := list_of len HH
  obtain ⟨b, off, spot⟩ := a
  have hall : ∀ x ∈ allL (ts.map (·.1)), InI x := by
   have hin : ∀ t ∈ ts, InI t.1 ∧ ∀ y ∈ allL t.1.kids, InI y := fun t ht => by
    obtain ⟨i, hi⟩ := List.getElem?_of_mem ht
    exact (htq i t hi).2.2.2
   clear htq htl HH hi
   induction ts with
   | nil => intro x hx; simp [allL_nil] at hx
   | cons t ts ih =>
    intro x hx
    rw [List.map_cons, allL_cons] at hx
    rcases List.mem_cons.1 hx with rfl | hx
    · exact (hin t (List.mem_cons_self ..)).1
    rcases List.mem_append.1 hx with hx | hx
    · exact (hin t (List.mem_cons_self ..)).2 x hx
    exact ih (fun u hu => hin u (List.mem_cons_of_mem _ hu)) x hx
  refine ⟨ts.map (·.1), ?_, hall⟩
  have hlen : len = ts.length := htl.symm
  subst hlen
  by_cases h0 : 0 < ts.length
  · obtain ⟨t, ⟨hc, _⟩, _⟩ := HH 0 h0
    have hspot : spot = none := by simpa [Addr.add] using World.cell?_spot hc
    subst hspot
    refine .mk ts _ m hl hm (fun h => by cases h) (fun _ => ⟨b, off, rfl, trivial, World.block_lt_of_cell? W _ hc, fun i x hx => ?_⟩) (fun x hx => ?_) (fun x hx => ?_)
    · obtain ⟨⟨h0, h1, h2, h3, h4, h5⟩, _⟩ := htq i x hx
      rw [add_flat] at h0 h1 h2 h3 h4 h5
      exact ⟨h0, by rw [Nat.add_assoc]; exact h1, by rw [Nat.add_assoc]; exact h2, by rw [Nat.add_assoc]; exact h3, by rw [Nat.add_assoc]; exact h4, by rw [Nat.add_assoc]; exact h5⟩
    · obtain ⟨i, hi⟩ := List.getElem?_of_mem hx
      exact (htq i x hi).2.1
    obtain ⟨i, hi⟩ := List.getElem?_of_mem hx
    exact (htq i x hi).2.2.1
  have : ts = [] := List.eq_nil_of_length_eq_zero (by omega)
  subst this
  exact .mk [] _ m hl hm (fun h => by cases h) (fun h => by simp at h) (fun x hx => by cases hx) (fun x hx => by cases hx)
 termination_by s d => SizeOf.sizeOf d
def MtOf (W : World) (v : Value) : Prop := ∃ m pv tv bv, v = mtV m pv tv bv ∧ (∀ x ∈ allL m.body, InI x) ∧ MtAt (fun _ => True) W m pv tv bv ∧ -9223372036854775808 ≤ m.prim ∧ m.prim ≤ 9223372036854775807
set_option maxRecDepth 100000 in
theorem mt_of {v : Value} {d : DataW H} {p : List MemPlace} (hv : Value.okWide Tryz.prog W .any 0 25 v) (h : DataW.Trod enc Tryz.prog W 0 (fun _ => true) true 25 v d p) : MtOf W v := by
 obtain ⟨cs, rfl, hsz⟩ := okWide_struct Tryz.underlying25 hv
 obtain ⟨l⟩ := cs
 have hC : Tryz.prog.cellsOf 25 = 6 := by kernel_rfl
 match l, hsz.trans hC with
 | [c0, c1, c2, c3, c4, c5], _ =>
  obtain ⟨fuel, hf⟩ := h
  obtain ⟨xs, n, _, hx, _, hlen, hg⟩ := DataW.trod_struct Tryz.underlying25 hf
  match xs, hlen with
  | [y0, y1, y2, y3, y4, y5], _ =>
   have z9 : Tryz.prog.cellsOf 9 = 1 := by kernel_rfl
   have z22 : Tryz.prog.cellsOf 22 = 1 := by kernel_rfl
   have z3 : Tryz.prog.cellsOf 3 = 1 := by kernel_rfl
   have z23 : Tryz.prog.cellsOf 23 = 1 := by kernel_rfl
   have t0 := hg 0 _ rfl
   have t1 := hg 1 _ rfl
   have t2 := hg 2 _ rfl
   have t3 := hg 3 _ rfl
   have t4 := hg 4 _ rfl
   have t5 := hg 5 _ rfl
   simp only [z9, z22, z3, z23, Value.cells] at t0 t1 t2 t3 t4 t5
   obtain ⟨k0, e0, _, _⟩ := DataW.trod_string Tryz.underlying9 (show DataW.trod enc Tryz.prog W 0 (fun _ => true) true n 9 [c0] = some y0 from t0)
   obtain ⟨l1, r1⟩ := rd_strs (show DataW.trod enc Tryz.prog W 0 (fun _ => true) true n 22 [c1] = some y1 from t1)
   obtain ⟨l2, r2⟩ := rd_strs (show DataW.trod enc Tryz.prog W 0 (fun _ => true) true n 22 [c2] = some y2 from t2)
   obtain ⟨k3, e3, _, w3⟩ := DataW.trod_int Tryz.underlying3 (show DataW.trod enc Tryz.prog W 0 (fun _ => true) true n 3 [c3] = some y3 from t3)
   obtain ⟨l4, r4, i4⟩ := tree_of _ y4.1 (Nat.le_refl _) n c4 y4.2 (show DataW.trod enc Tryz.prog W 0 (fun _ => true) true n 23 [c4] = some (y4.1, y4.2) from t4)
   obtain ⟨k5, e5, _, _⟩ := DataW.trod_int Tryz.underlying3 (show DataW.trod enc Tryz.prog W 0 (fun _ => true) true n 3 [c5] = some y5 from t5)
   simp only [List.cons.injEq, and_true] at e0 e3 e5
   subst e0; subst e3; subst e5
   simp only [Lit.wf, Bool.and_eq_true, decide_eq_true_eq] at w3
   exact ⟨⟨k0.data.toList, l1, l2, k3, l4, k5⟩, c1, c2, c4, rfl, i4, ⟨r1, r2, r4⟩, w3.1, w3.2⟩
end
end Tr
end Go.Proofs.YtmmgfifpjifjnaaGreatDoor
