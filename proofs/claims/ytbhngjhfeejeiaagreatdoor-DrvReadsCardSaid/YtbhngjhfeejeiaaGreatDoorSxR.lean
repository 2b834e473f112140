/-
  Walk: the reference's sexp encoding, for every tree.
-/
import Derived.Test.YtbhngjhfeejeiaaGreatDoorSxQ
namespace Go.Proofs.YtbhngjhfeejeiaaGreatDoor
open Go.RowKit
namespace Sx

end Sx
end Go.Proofs.YtbhngjhfeejeiaaGreatDoor
