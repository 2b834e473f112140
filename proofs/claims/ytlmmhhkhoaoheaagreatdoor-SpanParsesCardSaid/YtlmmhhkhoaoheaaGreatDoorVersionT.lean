/-
  version.Text and its reference, for every version.
-/
import Derived.Test.YtlmmhhkhoaoheaaGreatDoorVersionD
import Derived.Deep.RegionHeld3
namespace Go.Proofs.YtlmmhhkhoaoheaaGreatDoor
open Go.RowKit
namespace Vs
attribute [local go_sem] eqV

def textL (a b c : Int) : List UInt8 := if goodB a b c = true then Lib.itoa a ++ ([46] ++ (Lib.itoa b ++ ([46] ++ Lib.itoa c))) else []
abbrev T (a b c : Int) : Value := .string ⟨(textL a b c).toArray⟩

/-- block b holds three texts -/
structure S3 (W : World) (b : Nat) (x y z : ByteArray) : Prop where
  lt : b < W.heap.size
  c0 : W.cell? ⟨b, 0, none⟩ = some (.string x)
  c1 : W.cell? ⟨b, 1, none⟩ = some (.string y)
  c2 : W.cell? ⟨b, 2, none⟩ = some (.string z)
  fz : ∀ j, W.frozen? ⟨b, j, none⟩ = false
theorem S3.below {W W' : World} {b : Nat} {x y z : ByteArray} (h : S3 W b x y z) (hb : Below W.heap.size W W') : S3 W' b x y z := by
  obtain ⟨hc, hf⟩ := bcell hb
  exact ⟨Nat.lt_of_lt_of_le h.lt hb.size, (hc _ _ h.lt).trans h.c0, (hc _ _ h.lt).trans h.c1, (hc _ _ h.lt).trans h.c2, fun j => (hf _ _ h.lt).trans (h.fz j)⟩
theorem S3.new (W : World) (x y z : ByteArray) : S3 (W.alloc (.cells #[.string x, .string y, .string z] 105)) W.heap.size x y z := by
  refine ⟨by simp, ?_, ?_, ?_, ?_⟩
  all_goals first | go_simp | (intro j; go_simp)
theorem S3.set0 {W : World} {b : Nat} {x y z : ByteArray} (h : S3 W b x y z) (s : ByteArray) : S3 (W.setCell ⟨b, 0, none⟩ (.string s)) b s y z := by
  obtain ⟨h1, h2, h3, h4, h5⟩ := h
  refine ⟨by simpa [World.setCell] using h1, ?_, ?_, ?_, fun j => by simp only [World.frozen?_setCell]; exact h5 j⟩
  all_goals first | (rw [World.cell?_setCell_other _ _ _ _ (by simp)]; assumption) | (exact World.cell?_setCell_same _ _ _ h2)
theorem S3.set1 {W : World} {b : Nat} {x y z : ByteArray} (h : S3 W b x y z) (s : ByteArray) : S3 (W.setCell ⟨b, 1, none⟩ (.string s)) b x s z := by
  obtain ⟨h1, h2, h3, h4, h5⟩ := h
  refine ⟨by simpa [World.setCell] using h1, ?_, ?_, ?_, fun j => by simp only [World.frozen?_setCell]; exact h5 j⟩
  all_goals first | (rw [World.cell?_setCell_other _ _ _ _ (by simp)]; assumption) | (exact World.cell?_setCell_same _ _ _ h3)
theorem S3.set2 {W : World} {b : Nat} {x y z : ByteArray} (h : S3 W b x y z) (s : ByteArray) : S3 (W.setCell ⟨b, 2, none⟩ (.string s)) b x y s := by
  obtain ⟨h1, h2, h3, h4, h5⟩ := h
  refine ⟨by simpa [World.setCell] using h1, ?_, ?_, ?_, fun j => by simp only [World.frozen?_setCell]; exact h5 j⟩
  all_goals first | (rw [World.cell?_setCell_other _ _ _ _ (by simp)]; assumption) | (exact World.cell?_setCell_same _ _ _ h4)

set_option maxHeartbeats 1000000 in
set_option maxRecDepth 100000 in
theorem text_any (a b c : Int) (w : World) (hE : Env w) : Calls Tryz.prog 56 #[V a b c] w fun e w' => e = .returned (T a b c) ∧ Below w.heap.size w w' := by
  have i0 : ∀ w : World, (Instr.index 31 (V a b c) (.int .i64 0)).run Tryz.prog w = .ok (.int .i64 a) w := fun _ => by kernel_rfl
  have i1 : ∀ w : World, (Instr.index 31 (V a b c) (.int .i64 1)).run Tryz.prog w = .ok (.int .i64 b) w := fun _ => by kernel_rfl
  have i2 : ∀ w : World, (Instr.index 31 (V a b c) (.int .i64 2)).run Tryz.prog w = .ok (.int .i64 c) w := fun _ => by kernel_rfl
  have A0 := C3.new w a b c
  have B0 := (Below.refl w.heap.size w).alloc (Nat.le_refl _) (.cells #[.int .i64 a, .int .i64 b, .int .i64 c] 31)
  have hE0 := hE.alloc (.cells #[.int .i64 a, .int .i64 b, .int .i64 c] 31)
  cases hg : goodB a b c
  · have hr := Lib.hid (show T a b c = .string ⟨#[]⟩ by simp [T, textL, hg])
    have HG := Lib.hid hg
    clear hg
    go_enter Tryz.func56, Tryz.ntmps56
    go_wp2_with fail
    refine (good_any a b c _).mono ?_
    rintro e w1 ⟨rfl, hb1⟩
    rw [HG.out]
    go_wp2
    go_ret
    exact ⟨Eq.trans (by rfl) (congrArg Ending.returned hr.out).symm, keep_below B0 hb1⟩
  · have hr := Lib.hid (show T a b c = .string ⟨(Lib.join ([ByteArray.mk (Lib.itoa a).toArray, ByteArray.mk (Lib.itoa b).toArray, ByteArray.mk (Lib.itoa c).toArray].map (·.data.toList)) (ByteArray.mk #[46]).data.toList).toArray⟩ by simp [T, textL, hg, Lib.join, List.intercalate])
    obtain ⟨a0, a1, b0, b1, c0, c1⟩ := of_good hg
    have HG := Lib.hid hg
    clear hg
    go_enter Tryz.func56, Tryz.ntmps56
    go_wp2_with fail
    refine (good_any a b c _).mono ?_
    rintro e w1 ⟨rfl, hb1⟩
    rw [HG.out]
    have A1 := A0.below hb1
    have B1 := keep_below B0 hb1
    have E1 := hE0.below (Nat.le_refl _) hb1
    obtain ⟨al, k0, k1, k2, kf⟩ := id A1
    have S1 := S3.new w1 ⟨#[]⟩ ⟨#[]⟩ ⟨#[]⟩
    have E1' := E1.alloc (.cells #[.string ⟨#[]⟩, .string ⟨#[]⟩, .string ⟨#[]⟩] 105)
    go_wp2_with fail
    refine wp_loop_rounds 4 ?_
    rw [rounds_succ]
    go_wp2_with fail
    refine (itoa_any a (by omega) (by omega) _ E1').mono ?_
    rintro e w2 ⟨rfl, hb2⟩
    have S2 := S1.below hb2
    have B2 := keep_below (B1.alloc B1.size _) hb2
    have hw1 := B1.size
    obtain ⟨sl, s0, s1, s2, sf⟩ := id S2
    go_wp2_with fail
    rw [rounds_succ]
    go_wp2_with fail
    have B2' := B2.setCell (p := ⟨w1.heap.size, 0, none⟩) hw1 (.string ⟨(Lib.itoa a).toArray⟩)
    refine (itoa_any b (by omega) (by omega) _ (hE.below (Nat.le_refl _) B2')).mono ?_
    rintro e w3 ⟨rfl, hb3⟩
    have S3' := (S2.set0 ⟨(Lib.itoa a).toArray⟩).below hb3
    have B3 := keep_below B2' hb3
    clear sl s0 s1 s2 sf
    obtain ⟨sl, s0, s1, s2, sf⟩ := id S3'
    go_wp2_with fail
    rw [rounds_succ]
    go_wp2_with fail
    have B3' := B3.setCell (p := ⟨w1.heap.size, 1, none⟩) hw1 (.string ⟨(Lib.itoa b).toArray⟩)
    refine (itoa_any c (by omega) (by omega) _ (hE.below (Nat.le_refl _) B3')).mono ?_
    rintro e w4 ⟨rfl, hb4⟩
    have S4 := (S3'.set1 ⟨(Lib.itoa b).toArray⟩).below hb4
    have B4 := keep_below B3' hb4
    clear sl s0 s1 s2 sf
    obtain ⟨sl, s0, s1, s2, sf⟩ := id S4
    go_wp2_with fail
    rw [rounds_succ]
    go_wp2_with fail
    have B4' := B4.setCell (p := ⟨w1.heap.size, 2, none⟩) hw1 (.string ⟨(Lib.itoa c).toArray⟩)
    have S5 := S4.set2 ⟨(Lib.itoa c).toArray⟩
    refine (Tryz.strings_Join w1.heap.size 0 3 [ByteArray.mk (Lib.itoa a).toArray, ByteArray.mk (Lib.itoa b).toArray, ByteArray.mk (Lib.itoa c).toArray] ⟨#[46]⟩ _ ?_ S5.lt (by simp) (by simp) ?_).mono ?_
    · intro j x hj
      rcases j with _ | _ | _ | j
      · simp at hj; subst hj; exact S5.c0
      · simp at hj; subst hj; exact S5.c1
      · simp at hj; subst hj; exact S5.c2
      · simp at hj
    · have l0 := Lib.itoa_length_le a (by omega) (by omega)
      have l1 := Lib.itoa_length_le b (by omega) (by omega)
      have l2 := Lib.itoa_length_le c (by omega) (by omega)
      simp [Lib.join, List.intercalate]
      omega
    rintro e w5 ⟨rfl, hb5⟩
    have B5 := keep_below B4' hb5
    go_wp2
    go_ret
    exact ⟨Eq.trans (by rfl) (congrArg Ending.returned hr.out).symm, B5⟩

theorem ret_str {a b : ByteArray} (h : a = b) : Ending.returned (.string a) = .returned (.string b) := by rw [h]
theorem size_le_of {l : List UInt8} {n : Nat} (h : l.length ≤ n) : (ByteArray.mk l.toArray).size ≤ n := by simpa [ByteArray.size] using h

set_option maxHeartbeats 1000000 in
set_option maxRecDepth 100000 in
theorem textr_any (a b c : Int) (w : World) (hE : Env w) : Calls Tryz.prog 13 #[V a b c] w fun e w' => e = .returned (T a b c) ∧ Below w.heap.size w w' := by
  have A0 := C3.new w a b c
  have B0 := (Below.refl w.heap.size w).alloc (Nat.le_refl _) (.cells #[.int .i64 a, .int .i64 b, .int .i64 c] 31)
  have hE0 := hE.alloc (.cells #[.int .i64 a, .int .i64 b, .int .i64 c] 31)
  cases hg : goodB a b c
  · have hr := Lib.hid (show T a b c = .string ⟨#[]⟩ by simp [T, textL, hg])
    have HG := Lib.hid hg
    clear hg
    go_enter Tryz.func13, Tryz.ntmps13
    go_wp2_with fail
    refine (goodr_any a b c _).mono ?_
    rintro e w1 ⟨rfl, hb1⟩
    rw [HG.out]
    go_wp2
    go_ret
    exact ⟨Eq.trans (by rfl) (congrArg Ending.returned hr.out).symm, keep_below B0 hb1⟩
  · obtain ⟨a0, a1, b0, b1, c0, c1⟩ := of_good hg
    have hr := Lib.hid (show textL a b c = Lib.itoa a ++ ([46] ++ (Lib.itoa b ++ ([46] ++ Lib.itoa c))) by simp [textL, hg])
    have HG := Lib.hid hg
    clear hg
    have l0 := Lib.itoa_length_le a (by omega) (by omega)
    have l1 := Lib.itoa_length_le b (by omega) (by omega)
    have l2 := Lib.itoa_length_le c (by omega) (by omega)
    have s1 : ∀ W : World, (Op.stringOp .add ⟨(Lib.itoa a).toArray⟩ ⟨#[46]⟩).run Tryz.prog W = .ok (.string (⟨(Lib.itoa a).toArray⟩ ++ ⟨#[46]⟩)) W := fun W => run_string_add_sum _ _ _ (by simp [ByteArray.size]; omega)
    have s2 : ∀ W : World, (Op.stringOp .add (⟨(Lib.itoa a).toArray⟩ ++ ⟨#[46]⟩) ⟨(Lib.itoa b).toArray⟩).run Tryz.prog W = .ok (.string (⟨(Lib.itoa a).toArray⟩ ++ ⟨#[46]⟩ ++ ⟨(Lib.itoa b).toArray⟩)) W := fun W => run_string_add_sum _ _ _ (by simp [ByteArray.size]; omega)
    have s3 : ∀ W : World, (Op.stringOp .add (⟨(Lib.itoa a).toArray⟩ ++ ⟨#[46]⟩ ++ ⟨(Lib.itoa b).toArray⟩) ⟨#[46]⟩).run Tryz.prog W = .ok (.string (⟨(Lib.itoa a).toArray⟩ ++ ⟨#[46]⟩ ++ ⟨(Lib.itoa b).toArray⟩ ++ ⟨#[46]⟩)) W := fun W => run_string_add_sum _ _ _ (by simp [ByteArray.size]; omega)
    have s4 : ∀ W : World, (Op.stringOp .add (⟨(Lib.itoa a).toArray⟩ ++ ⟨#[46]⟩ ++ ⟨(Lib.itoa b).toArray⟩ ++ ⟨#[46]⟩) ⟨(Lib.itoa c).toArray⟩).run Tryz.prog W = .ok (.string (⟨(Lib.itoa a).toArray⟩ ++ ⟨#[46]⟩ ++ ⟨(Lib.itoa b).toArray⟩ ++ ⟨#[46]⟩ ++ ⟨(Lib.itoa c).toArray⟩)) W := fun W => run_string_add_sum _ _ _ (by simp [ByteArray.size]; omega)
    go_enter Tryz.func13, Tryz.ntmps13
    go_wp2_with fail
    refine (goodr_any a b c _).mono ?_
    rintro e w1 ⟨rfl, hb1⟩
    rw [HG.out]
    have A1 := A0.below hb1
    have B1 := keep_below B0 hb1
    obtain ⟨al, k0, k1, k2, kf⟩ := id A1
    go_wp2_with fail
    go_region_held3 (fun w' => w'.cell? ⟨w.heap.size, 0, none⟩ = some (.int .i64 a) ∧ w'.cell? ⟨w.heap.size, 1, none⟩ = some (.int .i64 b) ∧ w'.cell? ⟨w.heap.size, 2, none⟩ = some (.int .i64 c) ∧ Below w.heap.size w w')
      (((try go_split_ands); (try dsimp only); (repeat' apply And.intro) <;> (first | exact keep_cell hb (by assumption) | exact keep_below (by assumption) hb | exact Below.drew (by assumption) | go_keep)))
      (first | (go_at_call 34; go_split_ands; refine (itoa_any _ (by omega) (by omega) _ (hE.below (Nat.le_refl _) (by assumption))).mono ?_; rintro e w' ⟨rfl, hb⟩))
    go_wp2
    go_ret
    go_split_ands
    refine ⟨ret_str ?_, by assumption⟩
    rw [hr.out]
    apply ByteArray.ext
    simp

end Vs
end Go.Proofs.YtlmmhhkhoaoheaaGreatDoor
