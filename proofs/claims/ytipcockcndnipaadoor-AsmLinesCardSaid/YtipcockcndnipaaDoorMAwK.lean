/-
  Walk of the reference: Assemble.
-/
import Derived.Test.YtipcockcndnipaaDoorMAwH
import Derived.Test.YtipcockcndnipaaDoorMAwN
import Derived.Test.YtipcockcndnipaaDoorMAwR
namespace Go.Proofs.YtipcockcndnipaaDoor
open Go.RowKit
namespace Aw
open As

theorem scan_at {ls : List (List UInt8)} {k : Nat} {l : List UInt8} {st : St} (hl : ls[k]? = some l) (h : scan 0 (ls.take k) st00 = .ok st) : scan 0 (ls.take (k + 1)) st00 = match lineP (k + 1) l st with | .ok st' => .ok st' | .bad e => .bad (k + 1) e := by
  have hk : (ls.take k).length = k := by
    rw [List.length_take]
    have := (List.getElem?_eq_some_iff.1 hl).1
    omega
  rw [takek_snoc hl, scan_snoc h, hk]
  rfl
theorem bad_val {s : List UInt8} {W W' : World} {n e : Int} {E : Ending} (h : asmP s = ([], n, e)) (hE : E = .returned (.tuple #[.slice none 0 0, .int .i64 n, .int .i64 e])) (hb : Below W.heap.size W W') : AQ W s E W' := by
  subst hE
  exact ⟨_, by rw [h], by rw [h]; exact ps_nil _, hb⟩
theorem obj_two {W : World} {g : Nat} {u0 u1 : Value} {T : TypeId} (h : W.heap[g]? = some (.cells #[u0, u1] T (0, 0))) : W.cell? ⟨g, 0, none⟩ = some u0 ∧ W.cell? ⟨g, 1, none⟩ = some u1 := ⟨by simp [World.cell?, h], by simp [World.cell?, h]⟩
theorem take_all_snoc {labs : List (List UInt8 × Nat)} {j : Nat} {y : List UInt8 × Nat} {w : List UInt8} (hy : labs[j]? = some y) (h : ∀ x ∈ labs.take j, x.1 ≠ w) (hn : y.1 ≠ w) : ∀ x ∈ labs.take (j + 1), x.1 ≠ w := fun x hx => by
  rw [takek_snoc hy] at hx
  rcases List.mem_append.1 hx with hx | hx
  · exact h x hx
  · rw [List.mem_singleton.1 hx]; exact hn
end Aw
end Go.Proofs.YtipcockcndnipaaDoor
