/-
  Walks: Op of both texts.
-/
import Derived.Test.YtbefgplaaghlbaaGreatDoorCodeA
namespace Go.Proofs.YtbefgplaaghlbaaGreatDoor
open Go.RowKit
namespace Cd

end Cd
end Go.Proofs.YtbefgplaaghlbaaGreatDoor
