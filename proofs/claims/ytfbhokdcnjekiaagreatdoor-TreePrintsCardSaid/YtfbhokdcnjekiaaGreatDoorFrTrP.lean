/- TreePrints' walk at a method that came in. -/
import Derived.Test.YtfbhokdcnjekiaaGreatDoorFrTree
import Derived.Test.YtfbhokdcnjekiaaGreatDoorTrLp
namespace Go.Proofs.YtfbhokdcnjekiaaGreatDoor
open Go.RowKit
namespace Tr
open Bs Sm
theorem prints_main (v : Value) (w : World) (h : MtOf w v) (hpow : Pow10 w) (herr : ErrVar w) (hmax : MaxV w) : Calls Tryz.prog 4 #[v] w (Back (.bool true) w) := by
  obtain ⟨m, pv, tv, bv, rfl, hin, hm, -, -⟩ := h
  exact prints_walk m pv tv bv hin w hm hpow herr hmax
end Tr
end Go.Proofs.YtfbhokdcnjekiaaGreatDoor
