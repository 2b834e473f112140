/-
  From a walk to a row, for any law of this seat: the arguments read behind the call as before it, whatever their types, since nothing below the old heap has turned.
-/
import Derived.Test.YtbefgplaaghlbaaGreatDoorCards
import Derived.Test.YtbefgplaaghlbaaGreatDoorTie
import Derived.WalkKit
import Derived.ProofKit
import Derived.OpenShut
import Derived.LaidMore
import Derived.Stop.LaidErr
import Derived.Deep.DeepWitnessRowRef
import Derived.Lib.LaidTab
import Derived.Laws.IdiomArrays
namespace Go.Proofs.YtbefgplaaghlbaaGreatDoor
open Go.RowKit Go.WideShapes Go.ChangeShapes
namespace Fin

theorem own : ownKnob Tryz.prog.godebug = none := by kernel_rfl
theorem laidOut : laidOutB Tryz.prog = true := by kernel_rfl

theorem args_below {H : Type} {enc : TypeId × Value → H} {W W' : World} (hb : Below W.heap.size W W') (ts : List TypeId) : ∀ (vs : List Value) (ds : List (DataW H)) (ps : List MemPlace),
    (ts.all fun t => Tryz.prog.readableRec t && decide (t < Tryz.prog.types.size)) = true → (∀ p ∈ ps, p.block < W.heap.size) →
    DataW.TrodAll enc Tryz.prog W 0 (fun _ => true) true ts vs ds ps → DataW.TrodAll enc Tryz.prog W' 0 (fun b => decide (b < W.heap.size)) true ts vs ds ps := by
  induction ts with
  | nil =>
    intro vs ds ps _ _ h
    cases vs <;> cases ds <;> exact h
  | cons t ts ih =>
    intro vs ds ps hr hlt h
    cases vs with
    | nil => exact False.elim (by simp [DataW.TrodAll] at h)
    | cons v vs =>
      cases ds with
      | nil => exact False.elim (by simp [DataW.TrodAll] at h)
      | cons d ds =>
        obtain ⟨p, q, h1, h2, rfl⟩ := h
        rw [List.all_cons, Bool.and_eq_true, Bool.and_eq_true, decide_eq_true_eq] at hr
        exact ⟨p, q, Below.trod laidOut hr.1.1 hr.1.2 h1 hb (fun x hx => hlt x (List.mem_append_left _ hx)), ih vs ds q hr.2 (fun x hx => hlt x (List.mem_append_right _ hx)) h2, rfl⟩

/-- what every law's row asks behind the call: true, and each argument reads as it did -/
theorem law_post {H : Type} {enc : TypeId × Value → H} {f : Func} {s : ChangeSpec} {W W' : World} {args : Array Value} {ds gs : List (DataW H)} {before : List MemPlace} (hv : s.vars = []) (hres : f.resultTypes = #[4])
    (hts : (f.params.toList.all fun t => Tryz.prog.readableRec t && decide (t < Tryz.prog.types.size)) = true) (hW : DataW.Whole enc Tryz.prog f.params.toList s.vars false W args.toList ds gs before) (hb : Below W.heap.size W W')
    (hs : s.fn H (ds ++ []) = { results := [.lit (.bool true)], args := ds }) : s.post enc Tryz.prog f false true false false W args (.bool true) W' := by
  have hlt : ∀ p ∈ before, p.block < W.heap.size := fun p hp => hW.lt p hp
  have hW' := hW
  obtain ⟨p, q, hA, hV, rfl, _, _⟩ := hW
  rw [hv] at hV
  obtain ⟨rfl, rfl⟩ := trodVars_none hV
  refine ⟨ds, [], p ++ [], [], p, [], hW', ?_, ?_, ?_, hb.frame _, fun h => by cases h⟩
  · rw [hs, hres]
    exact trodAll_mk1 (shut_bool Tryz.underlying4 true)
  · rw [hs]
    exact args_below hb _ _ _ _ hts (fun x hx => hlt x (List.mem_append_left _ hx)) hA
  · rw [hs, hv]
    rfl

end Fin
end Go.Proofs.YtbefgplaaghlbaaGreatDoor
