/-
  The reference's assembling in memory: what it holds, an append to each row, a place put in.
-/
import Derived.Test.YtipcockcndnipaaDoorMAwG
import Derived.Test.YtipcockcndnipaaDoorMAwY
namespace Go.Proofs.YtipcockcndnipaaDoor
open Go.RowKit
namespace Aw
open As

def rowL (l : List (List UInt8 × Nat)) : List Value := l.flatMap fun x => [.string ⟨x.1.toArray⟩, .int .i64 (x.2 : Int)]
theorem rowL_app (a b : List (List UInt8 × Nat)) : rowL (a ++ b) = rowL a ++ rowL b := List.flatMap_append
theorem rowL_at : ∀ (p : List (List UInt8 × Nat)) (k : Nat) (x : List UInt8 × Nat), p[k]? = some x → (rowL p)[k * 2]? = some (.string ⟨x.1.toArray⟩) ∧ (rowL p)[k * 2 + 1]? = some (.int .i64 (x.2 : Int))
  | [], k, x, h => by simp at h
  | y :: p, 0, x, h => by simp at h; subst h; exact ⟨rfl, rfl⟩
  | y :: p, k + 1, x, h => by
    have ih := rowL_at p k x (by simpa using h)
    rw [show (k + 1) * 2 = k * 2 + 2 by omega]
    exact ih
theorem rowS_app (a b : List (List UInt8)) : rowS (a ++ b) = rowS a ++ rowS b := List.map_append
theorem rowN_app (a b : List Nat) : rowN (a ++ b) = rowN a ++ rowN b := List.map_append
section
variable {w0 w w' : World} {st : St} {vp vw vl vb v' : Value}
theorem rowI_put {q : List Cd.I} {k : Nat} {x y : Cd.I} (h : q[k]? = some x) : (((rowI q).set (k * 3) (.int .i64 y.op)).set (k * 3 + 1) (.int .i64 y.n)).set (k * 3 + 2) (.string y.s) = rowI (q.set k y) := by
  induction q generalizing k with
  | nil => simp at h
  | cons z q ih =>
    cases k with
    | zero => rfl
    | succ k =>
      have := ih (k := k) (by simpa using h)
      rw [show (k + 1) * 3 = k * 3 + 1 + 1 + 1 by omega]
      show Value.int .i64 z.op :: .int .i64 z.n :: .string z.s :: (((rowI q).set (k * 3) (.int .i64 y.op)).set (k * 3 + 1) (.int .i64 y.n)).set (k * 3 + 2) (.string y.s) = _
      rw [this]
      rfl
end
end Aw
end Go.Proofs.YtipcockcndnipaaDoor
