/-
  Walks of the reference: a digit's number; the text between quotes.
-/
import Derived.Test.YtipcockcndnipaaDoorMAwA
namespace Go.Proofs.YtipcockcndnipaaDoor
open Go.RowKit
namespace Aw
open As

end Aw
end Go.Proofs.YtipcockcndnipaaDoor
