/-
  Walks: sorting and copying no files (a nil slice).
-/
import Derived.Test.YtbefgplaaghlbaaGreatDoorTrK
import Derived.Test.YtbefgplaaghlbaaGreatDoorTrY
namespace Go.Proofs.YtbefgplaaghlbaaGreatDoor
open Go.RowKit Go.Shelf Go.Lib Go.Sort
namespace Tr

theorem fclone_nil (w : World) : Calls Tryz.prog 37 #[.slice none 0 0] w fun e w' => e = .returned (.slice none 0 0) ∧ w' = w := AnyE.slices_Clone_nil Tryz.cloneF 0 0 w
set_option maxHeartbeats 1000000 in
theorem insertion_nil (w : World) : Calls Tryz.prog 109 #[.slice none 0 0, .int .i64 0, .int .i64 0, .func (.func 60) #[] #[]] w fun e w' => e = .returned (.tuple #[]) ∧ w' = w := by
  go_enter Tryz.func109, Tryz.ntmps109
  go_wp2_with fail
  go_loopw [8] (fun i wr => i = .int .i64 1 ∧ wr = w) (fun _ _ => 0)
  case atStart => exact ⟨rfl, rfl⟩
  case round =>
    obtain ⟨rfl, rfl⟩ := hrel
    go_wp2_with fail
    go_end0
    exact ⟨rfl, rfl⟩
set_option maxHeartbeats 1000000 in
theorem stable_nil (w : World) : Calls Tryz.prog 81 #[.slice none 0 0, .int .i64 0, .func (.func 60) #[] #[]] w fun e w' => e = .returned (.tuple #[]) ∧ w' = w := by
  go_enter Tryz.func81, Tryz.ntmps81
  go_wp2_with fail
  go_loopw [7, 8] (fun a b wr => a = .int .i64 0 ∧ b = .int .i64 20 ∧ wr = w) (fun _ _ _ => 0)
  case atStart => exact ⟨rfl, rfl, rfl⟩
  case round =>
    obtain ⟨rfl, rfl, rfl⟩ := hrel
    have hi := insertion_nil wr
    go_wp2_with (go_at_call 109; with_reducible refine hi.mono ?_; rintro e w1 ⟨he, hw⟩; subst he; subst w1)
    go_loopw [6] (fun b wz => b = .int .i64 20 ∧ wz = wr) (fun _ _ => 0)
    case atStart => exact ⟨rfl, rfl⟩
    case round =>
      obtain ⟨rfl, rfl⟩ := hrel
      go_wp2_with fail
      go_end0
      exact ⟨rfl, rfl⟩
set_option maxHeartbeats 1000000 in
theorem sortstable_nil (w : World) : Calls Tryz.prog 59 #[.slice none 0 0, .func (.func 60) #[] #[]] w fun e w' => e = .returned (.tuple #[]) ∧ w' = w := by
  have hs := stable_nil w
  go_enter Tryz.func59, Tryz.ntmps59
  go_wp2_with (go_at_call 81; with_reducible refine hs.mono ?_; rintro e w1 ⟨he, hw⟩; subst he; subst w1)
  go_end0
  exact ⟨rfl, rfl⟩
end Tr
end Go.Proofs.YtbefgplaaghlbaaGreatDoor
