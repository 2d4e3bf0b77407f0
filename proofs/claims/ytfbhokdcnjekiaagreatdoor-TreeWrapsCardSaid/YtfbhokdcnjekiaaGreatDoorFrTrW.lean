/- TreeWraps' walk at a method that came in. -/
import Derived.Test.YtfbhokdcnjekiaaGreatDoorFrTree
import Derived.Test.YtfbhokdcnjekiaaGreatDoorTrL2
namespace Go.Proofs.YtfbhokdcnjekiaaGreatDoor
open Go.RowKit
namespace Tr
open Bs Sm
theorem wraps_main (v : Value) (nm : ByteArray) (w : World) (h : MtOf w v) {p : Prop} (_ : p) (hpow : Pow10 w) (herr : ErrVar w) (hmax : MaxV w) : Calls Tryz.prog 5 #[v, .string nm] w (Back (.bool true) w) := by
 obtain ⟨m, pv, tv, bv, rfl, hin, hm, -, -⟩ := h
 exact wraps_walk m nm pv tv bv hin w hm hpow herr hmax
end Tr
end Go.Proofs.YtfbhokdcnjekiaaGreatDoor
