/-
  Texts that came in: as arguments of a law.
-/
import Derived.Test.YtflhmoelenmomaaGreatDoorMRcFin
namespace Go.Proofs.YtflhmoelenmomaaGreatDoor
open Go.RowKit Go.WideShapes Go.ChangeShapes Go.Deep
namespace Ev
open Rc

section
variable {H : Type}
set_option maxRecDepth 100000 in
theorem str_small {s : ByteArray} (hw : ∀ n ∈ (DataW.lit (.string s.data.toList) : DataW H).weights Tryz.prog 9, n ≤ reachBytes) : s.size ≤ 140737488355328 := by
  have hz := Lib.size_eq s
  have hrb := reachBytes_lt
  have := hw s.size (by
    simp only [DataW.weights, List.mem_singleton]
    exact hz)
  omega
end
end Ev
end Go.Proofs.YtflhmoelenmomaaGreatDoor
