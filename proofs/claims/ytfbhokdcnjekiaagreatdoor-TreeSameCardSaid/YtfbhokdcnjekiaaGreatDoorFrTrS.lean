/- TreeSame's walk at two methods that came in. -/
import Derived.Test.YtfbhokdcnjekiaaGreatDoorFrTree
import Derived.Test.YtfbhokdcnjekiaaGreatDoorTrL3
namespace Go.Proofs.YtfbhokdcnjekiaaGreatDoor
open Go.RowKit
namespace Tr
open Bs Sm
theorem same_main (v v2 : Value) (n : Int) (w : World) (h : MtOf w v) (h2 : MtOf w v2) (b1 : -9223372036854775808 ≤ n) (b2 : n ≤ 9223372036854775807) (hpow : Pow10 w) (herr : ErrVar w) (hmax : MaxV w) : Calls Tryz.prog 6 #[v, v2, .int .i64 n] w (Back (.bool true) w) := by
  obtain ⟨m, pv, tv, bv, rfl, hin, hm, -, -⟩ := h
  obtain ⟨m2, pv2, tv2, bv2, rfl, hin2, hm2, -, -⟩ := h2
  exact same_walk m m2 pv tv bv pv2 tv2 bv2 n b1 b2 hin hin2 w hm hm2 hpow herr hmax
end Tr
end Go.Proofs.YtfbhokdcnjekiaaGreatDoor
