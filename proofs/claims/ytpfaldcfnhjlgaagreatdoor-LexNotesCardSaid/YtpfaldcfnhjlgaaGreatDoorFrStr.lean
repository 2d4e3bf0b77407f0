/- A slice of strings that came in, as the walks want it. -/
import Derived.Test.YtpfaldcfnhjlgaaGreatDoorLxNx
import Derived.SliceStrings
import Derived.ProofKit
namespace Go.Proofs.YtpfaldcfnhjlgaaGreatDoor
open Go Go.RowKit Go.ChangeShapes Go.WideShapes
theorem Lx.cells_str : Tryz.prog.cellsOf 9 = 1 := by kernel_rfl
theorem Lx.strs_of {H : Type} {enc : TypeId × Value → H} {W : World} {v : Value} {d : DataW H} {p : List MemPlace} (h : DataW.Trod enc Tryz.prog W 0 (fun _ => true) true 38 v d p) (hv : ∃ a len cap, v = .slice a len cap) (lt : ∀ x ∈ p, x.block < W.heap.size) : ∃ ns, Lx.StrsAt W v ns := by
  obtain ⟨a0, len, cap, rfl⟩ := hv
  obtain ⟨fuel, hf⟩ := h
  rcases open_strings Tryz.underlying38 Tryz.underlying9 Lx.cells_str hf with ⟨hcs, hx⟩ | ⟨a, len', cap', ss, hcs, _, hl, hm, hz, hx, hcell, hws⟩
  · simp [Value.cells] at hcs
    obtain ⟨rfl, rfl, rfl⟩ := hcs
    exact ⟨[], .inl ⟨rfl, _, _, rfl⟩⟩
  · simp [Value.cells] at hcs
    obtain ⟨rfl, rfl, rfl⟩ := hcs
    simp only [Prod.mk.injEq] at hx
    obtain ⟨rfl, rfl⟩ := hx
    simp only [if_true] at hz
    by_cases hl0 : len = 0
    · subst hl0; exact ⟨[], .inl ⟨rfl, _, _, rfl⟩⟩
    · obtain ⟨b, off, spot⟩ := a
      have hspot : spot = none := by simpa [Addr.add] using World.cell?_spot (hcell 0 (by omega))
      subst hspot
      have hbW : b < W.heap.size := lt (.cell b off) (MemPlace.mem_row.2 ⟨0, by omega, by simp⟩)
      have hlen : (ss.take len).length = len := by rw [List.length_take]; omega
      refine ⟨ss.take len, .inr ⟨b, off, cap, by rw [hlen], hbW, by rw [hlen]; exact hl, hm, fun i s hs => ?_⟩⟩
      have hi : i < len := by have := (List.getElem?_eq_some_iff.1 hs).1; omega
      have h1 := hcell i (by omega)
      rw [add_plain] at h1
      rw [h1]
      rw [List.getElem?_take_of_lt hi] at hs
      rw [List.getD_eq_getElem?_getD, hs]; rfl
end Go.Proofs.YtpfaldcfnhjlgaaGreatDoor
