/-
  Walk: the reference's Check.
-/
import Derived.Test.YtipcockcndnipaaDoorCodeD
namespace Go.Proofs.YtipcockcndnipaaDoor
open Go.RowKit
namespace Cd

theorem rel_next {p : List I} {k : Nat} {x : I} (hx : p[k]? = some x) (hn : ∀ (j : Nat) (y : I), j < k → p[j]? = some y → right y p.length = true) (hr : right x p.length = true) :
    ∀ (j : Nat) (y : I), j < k + 1 → p[j]? = some y → right y p.length = true := fun j y h1 h2 => by
  by_cases h : j < k
  · exact hn j y h h2
  · obtain rfl : j = k := by omega
    obtain rfl : x = y := Option.some.inj (hx.symm.trans h2)
    exact hr

end Cd
end Go.Proofs.YtipcockcndnipaaDoor
