/-
  A region that draws its order, reads memory and calls what makes memory: one walk in the text's order, over all worlds that extend the one at hand.
-/
import Derived.Test.YtbefgplaaghlbaaGreatDoorSxA
namespace Go.Proofs.YtbefgplaaghlbaaGreatDoor
open Go.RowKit
namespace Sx

open Classical in
/-- a world that extends X -/
noncomputable def ext (X Y : World) : World := if Below X.heap.size X Y then Y else X
theorem ext_below (X Y : World) : Below X.heap.size X (ext X Y) := by
  unfold ext
  split
  · assumption
  · exact Below.refl _ _
theorem ext_of {X Y : World} (h : Below X.heap.size X Y) : Y = ext X Y := by
  unfold ext
  rw [if_pos h]
theorem ext_cell {X : World} {p : Addr} {v : Value} (h : X.cell? p = some v) (Y : World) : (ext X Y).cell? p = some v := keep_cell (ext_below X Y) h
theorem keep_below {W0 W W' : World} (h : Below W0.heap.size W0 W) (hb : Below W.heap.size W W') : Below W0.heap.size W0 W' := h.trans (hb.mono h.size)
theorem ext_ex {X Y : World} (h : Below X.drew.heap.size X.drew Y) : ∃ Z, Y = ext X Z := ⟨Y, ext_of ⟨h.os, h.tape, h.output, h.size, h.block⟩⟩
theorem calls_ext {P : Program} {f : FuncId} {args : Array Value} {X Y : World} {v : Value}
    (h : Calls P f args (ext X Y) fun e w' => e = .returned v ∧ Below (ext X Y).heap.size (ext X Y) w') : Calls P f args (ext X Y) fun e w'' => e = .returned v ∧ ∃ Z, w'' = ext X Z :=
  h.mono fun _ w' ⟨he, hb⟩ => ⟨he, w', ext_of (keep_below (ext_below X Y) hb)⟩
theorem wp_region_ext {P : Program} {id : Nat} {Q : Exit → Act → World → Prop} {a : Act} {X : World} {l : List Oper} (hm : P.follows .mixedOrders = true) (hB : Region.lexB .any l.toArray = true)
    (h : wpQuiet P l.toArray (fun w' => ∃ Y, w' = ext X Y) (fun a' => ∀ w', (∃ Y, w' = ext X Y) → Q .normal a' w') l a) : (Code.region id l.toArray true).wp P Q a X :=
  wp_region_quiet (C := fun w' => ∃ Y, w' = ext X Y) hm hB ⟨X.drewN 1, ext_of (below_drewN (Below.refl _ _) 1)⟩ (by simpa using h)
end Sx
end Go.Proofs.YtbefgplaaghlbaaGreatDoor
