/-
  Walks: tree.Make$1: does a file stand under a path?
-/
import Derived.Test.YtbefgplaaghlbaaGreatDoorTrH
import Derived.Test.YtbefgplaaghlbaaGreatDoorTrQ
import Derived.Laws.Concat
namespace Go.Proofs.YtbefgplaaghlbaaGreatDoor
open Go.RowKit Go.Lib
namespace Tr

set_option maxHeartbeats 1000000 in
set_option maxRecDepth 100000 in
theorem make1_any (h f : F) (hs : f.1.size ≤ 1000000) (bx : Nat) (w : World) (hbx : bx < w.heap.size) (hv : w.cell? ⟨bx, 0, none⟩ = some (.string f.1)) :
    Calls Tryz.prog 62 #[.agg #[.string h.1, .string h.2], .pointer (some ⟨bx, 0, none⟩)] w fun e w' => e = .returned (.bool (aheadL (K f) (K h))) ∧ Below w.heap.size w w' := by
  have hA : Below w.heap.size w (w.alloc (.cells #[.string h.1, .string h.2] 34)) := (Below.refl _ _).alloc (Nat.le_refl _) _
  have hv' := (hA.cell (p := ⟨bx, 0, none⟩) hbx).trans hv
  have q : ∀ W : World, (Op.stringOp .add f.1 ⟨#[47]⟩).run Tryz.prog W = .ok (.string (f.1 ++ ⟨#[47]⟩)) W := fun W => run_string_add_sum _ _ _ (by
    have : (ByteArray.mk #[47]).size = 1 := rfl
    omega)
  have hp := fun W => hasprefix_any h.1 (f.1 ++ ⟨#[47]⟩) W
  have e : (f.1 ++ ⟨#[47]⟩ : ByteArray).data.toList.isPrefixOf h.1.data.toList = aheadL (K f) (K h) := by
    unfold aheadL
    rw [ByteArray.data_append, Array.toList_append]
  rw [e] at hp
  clear e
  generalize aheadL (K f) (K h) = b at *
  generalize f.1 ++ ⟨#[47]⟩ = u at *
  go_enter Tryz.func62, Tryz.ntmps62
  go_wp2_with (first
    | (go_at_call 63; with_reducible refine (hp _).mono ?_; rintro e w1 ⟨he, hw⟩; subst he; subst w1))
  go_ret
  exact ⟨rfl, hA⟩
end Tr
end Go.Proofs.YtbefgplaaghlbaaGreatDoor
