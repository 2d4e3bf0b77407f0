/- A slice of commands (structs with slices inside) that came in, as ScriptOptions' walk wants it (open_slice_fields in FrOpen). -/
import Derived.Test.YtaaknnmnkgnbjaaDoorScO3
import Derived.Test.YtaaknnmnkgnbjaaDoorFrOpen
import Derived.ProofKit
import Derived.Deep.RegionHeld
namespace Go.Proofs.YtaaknnmnkgnbjaaDoor
open Go Go.RowKit Go.ChangeShapes Go.WideShapes
namespace Sc
open Bs Sm
theorem cells_cmd : Tryd.prog.cellsOf 34 = 5 := by kernel_rfl
theorem list_of {α : Type} {Q : Nat → α → Prop} : ∀ n : Nat, (∀ i, i < n → ∃ t, Q i t) → ∃ ts : List α, ts.length = n ∧ ∀ i t, ts[i]? = some t → Q i t
  | 0, _ => ⟨[], rfl, fun i t h => by simp at h⟩
  | n + 1, h => by
    obtain ⟨ts, hl, hq⟩ := list_of n (fun i hi => h i (by omega))
    obtain ⟨t, ht⟩ := h n (by omega)
    refine ⟨ts ++ [t], by simp [hl], fun i u hu => ?_⟩
    by_cases hi : i < n
    · rw [List.getElem?_append_left (by omega)] at hu
      exact hq i u hu
    · have hin : i = n := by
        have := (List.getElem?_eq_some_iff.1 hu).1
        simp [hl] at this; omega
      subst hin
      rw [← hl, List.getElem?_append_right (Nat.le_refl _), Nat.sub_self] at hu
      simp at hu
      subst hu; exact ht
theorem rd_of {α : Type} (f : α → Value) {H : Type} {enc : TypeId × Value → H} {W : World} {t e : TypeId} {fuel : Nat} {v : Value} {x : DataW H × List MemPlace} (ht : Tryd.prog.underlying t = some (.slice e)) (hc : Tryd.prog.cellsOf e = 1)
    (hf : ∀ (n : Nat) (u : Value) (y : DataW H × List MemPlace), DataW.trod enc Tryd.prog W 0 (fun _ => true) true n e [u] = some y → ∃ a : α, u = f a)
    (h : DataW.trod enc Tryd.prog W 0 (fun _ => true) true fuel t [v] = some x) : ∃ l : List α, Rd f W v l := by
  rcases Go.Deep.open_slice1 ht hc h with ⟨hcs, _⟩ | ⟨a, len, cap, m, n, V, D, Pl, hcs, _, hl, hm, hmm, _, hi⟩
  · simp only [List.cons.injEq, and_true] at hcs
    subst hcs
    exact ⟨[], none, 0, rfl, by simp, by unfold maxLen; omega, fun _ => rfl, fun h => by simp at h⟩
  · simp only [List.cons.injEq, and_true] at hcs
    subst hcs
    simp only [if_true] at hmm
    subst hmm
    have H : ∀ i, i < len → ∃ u : α, W.cell? (a.add i) = some (f u) := fun i hil => by
      obtain ⟨h1, h2⟩ := hi i (by omega)
      obtain ⟨u, hu⟩ := hf _ _ _ h2
      exact ⟨u, by rw [h1, hu]⟩
    obtain ⟨ts, htl, htq⟩ := list_of len H
    obtain ⟨b, off, spot⟩ := a
    refine ⟨ts, some ⟨b, off, spot⟩, m, by rw [htl], by omega, hm, fun h => (by cases h), fun hp => ?_⟩
    obtain ⟨u, hu⟩ := H 0 (by omega)
    have hspot : spot = none := by simpa [Addr.add] using World.cell?_spot hu
    subst hspot
    exact ⟨b, off, rfl, World.block_lt_of_cell? W _ hu, fun i x hx => by have h1 := htq i x hx; rw [add_plain] at h1; exact h1⟩
theorem rd_ints {H : Type} {enc : TypeId × Value → H} {W : World} {fuel : Nat} {v : Value} {x : DataW H × List MemPlace} (h : DataW.trod enc Tryd.prog W 0 (fun _ => true) true fuel 26 [v] = some x) : ∃ l : List Int, Rd intV W v l :=
  rd_of intV Tryd.underlying26 (by kernel_rfl) (fun n u y hy => by
    obtain ⟨k, e, _, _⟩ := DataW.trod_int Tryd.underlying3 hy
    simp only [List.cons.injEq, and_true] at e
    exact ⟨k, e⟩) h
theorem rd_bytes {H : Type} {enc : TypeId × Value → H} {W : World} {fuel : Nat} {v : Value} {x : DataW H × List MemPlace} (h : DataW.trod enc Tryd.prog W 0 (fun _ => true) true fuel 25 [v] = some x) : ∃ l : Bytes, Rd byteV W v l :=
  rd_of byteV Tryd.underlying25 (by kernel_rfl) (fun n u y hy => by
    obtain ⟨k, e, _, hw⟩ := DataW.trod_int Tryd.underlying5 hy
    simp only [List.cons.injEq, and_true] at e
    simp only [Lit.wf, Bool.and_eq_true, decide_eq_true_eq] at hw
    have h0 : (0 : Int) ≤ k := hw.1
    have h1 : k ≤ 255 := hw.2
    refine ⟨UInt8.ofNat k.toNat, ?_⟩
    rw [e]
    unfold byteV
    have h2 : ((UInt8.ofNat k.toNat).toNat : Int) = k := by
      simp
      omega
    rw [h2]) h
theorem inc_of {H : Type} {enc : TypeId × Value → H} {W : World} {v : Value} {d : DataW H} {p : List MemPlace} (h : DataW.Trod enc Tryd.prog W 0 (fun _ => true) true 22 v d p) (hv : ∃ a len cap, v = .slice a len cap) (_ : ∀ x ∈ p, x.block < W.heap.size) : ∃ cs, InC W v cs := by
  obtain ⟨a0, len, cap, rfl⟩ := hv
  obtain ⟨fuel, hf⟩ := h
  rcases Lx.open_slice_fields Tryd.underlying22 Tryd.underlying34 (by kernel_rfl) cells_cmd hf with ⟨hcs, hx⟩ | ⟨a, len', cap', m, D, Pl, hcs, _, hl, hm, hmm, hx, hi⟩
  · simp [Value.cells] at hcs
    obtain ⟨rfl, rfl, rfl⟩ := hcs
    exact ⟨[], [], none, 0, rfl, rfl, by simp, by unfold maxLen; omega, fun h => by simp at h, by simp⟩
  · simp [Value.cells] at hcs
    obtain ⟨rfl, rfl, rfl⟩ := hcs
    simp only [if_true] at hmm
    subst hmm
    have H : ∀ i, i < len → ∃ t : Cmd × Value × Value, (W.cell? (a.add (i * 5)) = some (.int .i64 t.1.kind) ∧ W.cell? (a.add (i * 5 + 1)) = some (.int .i64 t.1.n) ∧ W.cell? (a.add (i * 5 + 2)) = some (.int .i64 t.1.at_) ∧ W.cell? (a.add (i * 5 + 3)) = some t.2.1 ∧ W.cell? (a.add (i * 5 + 4)) = some t.2.2) ∧ Rd intV W t.2.1 t.1.list ∧ Rd byteV W t.2.2 t.1.bytes := by
      intro i hil
      obtain ⟨ys, n, hD, hPl, hyl, hf⟩ := hi i (by omega)
      obtain ⟨v0, y0, hc0, hy0, ht0⟩ := hf 0 _ rfl
      obtain ⟨v1, y1, hc1, hy1, ht1⟩ := hf 1 _ rfl
      obtain ⟨v2, y2, hc2, hy2, ht2⟩ := hf 2 _ rfl
      obtain ⟨v3, y3, hc3, hy3, ht3⟩ := hf 3 _ rfl
      obtain ⟨v4, y4, hc4, hy4, ht4⟩ := hf 4 _ rfl
      obtain ⟨n0, e0, x0, b0⟩ := DataW.trod_int Tryd.underlying3 ht0
      obtain ⟨n1, e1, x1, b1⟩ := DataW.trod_int Tryd.underlying3 ht1
      obtain ⟨n2, e2, x2, b2⟩ := DataW.trod_int Tryd.underlying3 ht2
      obtain ⟨l3, r3⟩ := rd_ints ht3
      obtain ⟨l4, r4⟩ := rd_bytes ht4
      simp only [List.cons.injEq, and_true] at e0 e1 e2
      subst e0; subst e1; subst e2
      exact ⟨(⟨n0, n1, n2, l3, l4⟩, v3, v4), ⟨by simpa using hc0, by simpa using hc1, by simpa using hc2, by simpa using hc3, by simpa using hc4⟩, r3, r4⟩
    obtain ⟨ts, htl, htq⟩ := list_of len H
    obtain ⟨b, off, spot⟩ := a
    refine ⟨ts.map (·.1), ts, some ⟨b, off, spot⟩, _, rfl, by rw [htl], by omega, hm, fun hp => ?_, fun x hx => ?_⟩
    · obtain ⟨t, ⟨hc, _⟩, _⟩ := H 0 (by omega)
      have hspot : spot = none := by simpa [Addr.add] using World.cell?_spot hc
      subst hspot
      refine ⟨b, off, rfl, World.block_lt_of_cell? W _ hc, fun i x hx => ?_⟩
      obtain ⟨⟨h0, h1, h2, h3, h4⟩, _⟩ := htq i x hx
      rw [add_plain] at h0 h1 h2 h3 h4
      exact ⟨h0, by rw [Nat.add_assoc]; exact h1, by rw [Nat.add_assoc]; exact h2, by rw [Nat.add_assoc]; exact h3, by rw [Nat.add_assoc]; exact h4⟩
    · obtain ⟨i, hi⟩ := List.getElem?_of_mem hx
      exact (htq i x hi).2
theorem opts_walk (va vb : Value) (w : World) (hA : ∃ A, InC w va A) (hB : ∃ B, InC w vb B) (hp : Pow10 w) (hev : ErrVar w) (hm : MaxV w) : Calls Tryd.prog 3 #[va, vb] w (Back (.bool true) w) := by
  obtain ⟨A, hA⟩ := hA
  obtain ⟨B, hB⟩ := hB
  exact options_walk va vb A B w hA hB hp hev hm
end Sc
end Go.Proofs.YtaaknnmnkgnbjaaDoor
