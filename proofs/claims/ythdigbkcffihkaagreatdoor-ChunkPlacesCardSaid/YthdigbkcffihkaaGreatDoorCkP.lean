/- ChunkPlaces: joined. -/
import Derived.Test.YthdigbkcffihkaaGreatDoorCkP1
import Derived.Test.YthdigbkcffihkaaGreatDoorCkP2
set_option linter.unusedVariables false
namespace Go.Proofs.YthdigbkcffihkaaGreatDoor
open Go.RowKit
namespace Ck
open Lx
theorem places_walk (s : ByteArray) (i : Int) (w : World) (_ : s.size ≤ 9223372036854775807) (_ : -9223372036854775808 ≤ i) (_ : i ≤ 9223372036854775807) (hev : ErrVar w) : Calls Tryz.prog 5 #[.string s, .int .i64 i] w (Back (.bool true) w) := by
  by_cases h : 5000 < s.size
  · exact places_long s i w h hev
  · exact places_short s i w h hev
end Ck
end Go.Proofs.YthdigbkcffihkaaGreatDoor
