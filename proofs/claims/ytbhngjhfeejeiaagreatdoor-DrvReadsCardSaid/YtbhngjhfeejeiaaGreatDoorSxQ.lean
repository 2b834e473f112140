/-
  Walk: the reference's Put, for every tree.
-/
import Derived.Test.YtbhngjhfeejeiaaGreatDoorSxO
namespace Go.Proofs.YtbhngjhfeejeiaaGreatDoor
open Go.RowKit
namespace Sx

end Sx
end Go.Proofs.YtbhngjhfeejeiaaGreatDoor
