/-
  Walks: alive, great, and the law CodeWords.
-/
import Derived.Test.YtjfchdgdgbdeeaaDoorCodeL
namespace Go.Proofs.YtjfchdgdgbdeeaaDoor
open Go.RowKit
namespace Cd

def pA : List I := [⟨2, -2, ⟨#[]⟩⟩, ⟨1, 0, ⟨#[]⟩⟩]
def pB : List I := [⟨17, 1, ⟨#[]⟩⟩]
theorem env_pA : ENV pA = .tuple #[.string ⟨#[40, 40, 52, 58, 112, 117, 115, 104, 50, 58, 45, 50, 41, 40, 52, 58, 104, 97, 108, 116, 41, 41]⟩, .int .i64 0] := by kernel_rfl
theorem ckv_pB : CKV pB = .tuple #[.int .i64 0, .int .i64 30] := by kernel_rfl
theorem ps_pA (W : World) : PS (W.alloc (.cells #[.int .i64 2, .int .i64 (-2), .string ⟨#[]⟩, .int .i64 1, .int .i64 0, .string ⟨#[]⟩] 31)) (.slice (some ⟨W.heap.size, 0, none⟩) 2 2) pA := by
  refine ⟨by decide, by simp [pA], _, 2, rfl, fun k x hk => ⟨W.heap.size, 0, rfl, by simp, ?_⟩⟩
  have hk2 : k < 2 := (List.getElem?_eq_some_iff.1 hk).1
  rcases (show k = 0 ∨ k = 1 by omega) with rfl | rfl
  · simp [pA] at hk; subst hk; exact ⟨by go_simp, by go_simp, by go_simp⟩
  · simp [pA] at hk; subst hk; exact ⟨by go_simp, by go_simp, by go_simp⟩
theorem ps_pB (W : World) : PS (W.alloc (.cells #[.int .i64 17, .int .i64 1, .string ⟨#[]⟩] 31)) (.slice (some ⟨W.heap.size, 0, none⟩) 1 1) pB := by
  refine ⟨by decide, by simp [pB], _, 1, rfl, fun k x hk => ⟨W.heap.size, 0, rfl, by simp, ?_⟩⟩
  have hk2 : k < 1 := (List.getElem?_eq_some_iff.1 hk).1
  obtain rfl : k = 0 := by omega
  simp [pB] at hk; subst hk; exact ⟨by go_simp, by go_simp, by go_simp⟩

set_option maxHeartbeats 400000 in
theorem alive_any (W : World) (hE : Env W) : Calls Tryd.prog 8 #[] W fun e W' => e = .returned (.bool true) ∧ Below W.heap.size W W' := by
  have hB0 := (Below.refl W.heap.size W).alloc (Nat.le_refl _) (.cells #[.int .i64 2, .int .i64 (-2), .string ⟨#[]⟩, .int .i64 1, .int .i64 0, .string ⟨#[]⟩] 31)
  have hA := encode_any pA _ _ (ps_pA W) (hE.below hB0)
  rw [env_pA] at hA
  go_enter Tryd.func8, Tryd.ntmps8
  go_wp2_with fail
  refine hA.mono ?_
  rintro e w1 ⟨rfl, hb1⟩
  have hB1 := hB0.trans (hb1.mono hB0.size)
  have hB2 := hB1.alloc hB1.size (.cells #[.int .i64 17, .int .i64 1, .string ⟨#[]⟩] 31)
  have hB := check_any pB _ _ (ps_pB w1) (hE.below hB2).tab
  rw [ckv_pB] at hB
  clear hA
  go_wp2_with fail
  refine hB.mono ?_
  rintro e w2 ⟨rfl, hb2⟩
  clear hB
  go_wp2
  go_ret
  exact ⟨rfl, hB2.trans (hb2.mono hB2.size)⟩

end Cd
end Go.Proofs.YtjfchdgdgbdeeaaDoor
