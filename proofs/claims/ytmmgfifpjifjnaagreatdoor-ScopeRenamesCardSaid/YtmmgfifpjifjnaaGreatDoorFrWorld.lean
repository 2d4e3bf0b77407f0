/- A struct of two lists of texts (fields, globals) that came in. -/
import Derived.Test.YtmmgfifpjifjnaaGreatDoorFrTree
set_option linter.unusedVariables false
namespace Go.Proofs.YtmmgfifpjifjnaaGreatDoor
open Go Go.RowKit Go.ChangeShapes Go.WideShapes Go.Deep
namespace Rv
open Bs Sm Tr
section
variable {H : Type} {enc : TypeId × Value → H} {W : World}
set_option maxRecDepth 100000 in
theorem world_of {v : Value} {d : DataW H} {p : List MemPlace} (hv : Value.okWide Tryz.prog W .any 0 27 v) (h : DataW.Trod enc Tryz.prog W 0 (fun _ => true) true 27 v d p) :
  ∃ fv gv F G, v = .agg #[fv, gv] ∧ Rd (fun _ => True) strV W fv F ∧ Rd (fun _ => True) strV W gv G := by
 obtain ⟨cs, rfl, hsz⟩ := okWide_struct Tryz.underlying27 hv
 obtain ⟨l⟩ := cs
 have hC : Tryz.prog.cellsOf 27 = 2 := by kernel_rfl
 match l, hsz.trans hC with
 | [c0, c1], _ =>
  obtain ⟨fuel, hf⟩ := h
  obtain ⟨xs, n, _, hx, _, hlen, hg⟩ := DataW.trod_struct Tryz.underlying27 hf
  match xs, hlen with
  | [y0, y1], _ =>
   have z22 : Tryz.prog.cellsOf 22 = 1 := by kernel_rfl
   have t0 := hg 0 _ rfl
   have t1 := hg 1 _ rfl
   simp only [z22, Value.cells] at t0 t1
   obtain ⟨l1, r1⟩ := rd_strs (show DataW.trod enc Tryz.prog W 0 (fun _ => true) true n 22 [c0] = some y0 from t0)
   obtain ⟨l2, r2⟩ := rd_strs (show DataW.trod enc Tryz.prog W 0 (fun _ => true) true n 22 [c1] = some y1 from t1)
   exact ⟨c0, c1, l1, l2, rfl, r1, r2⟩
end
end Rv
end Go.Proofs.YtmmgfifpjifjnaaGreatDoor
