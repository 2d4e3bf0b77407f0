/- ScopeRenames' walk at a method and a world that came in. -/
import Derived.Test.YtmmgfifpjifjnaaGreatDoorFrWorld
import Derived.Test.YtmmgfifpjifjnaaGreatDoorRnL1
namespace Go.Proofs.YtmmgfifpjifjnaaGreatDoor
open Go.RowKit
namespace Rv
open Bs Sm Tr
theorem renames_main (v u : Value) (w : World) (h : MtOf w v) (h2 : ∃ fv gv F G, u = .agg #[fv, gv] ∧ Rd (fun _ => True) strV w fv F ∧ Rd (fun _ => True) strV w gv G) (herr : Lx.ErrVar w) : Calls Tryz.prog 4 #[v, u] w (Back (.bool true) w) := by
 obtain ⟨m, pv, tv, bv, rfl, hin, hm, -, -⟩ := h
 obtain ⟨fv, gv, F, G, rfl, hf, hg⟩ := h2
 exact renames_walk m pv tv bv fv gv F G hin w hm hf hg herr
end Rv
end Go.Proofs.YtmmgfifpjifjnaaGreatDoor
