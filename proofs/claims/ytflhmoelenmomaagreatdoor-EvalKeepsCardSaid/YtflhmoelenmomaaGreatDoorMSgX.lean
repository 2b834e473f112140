/-
  The reference's Ends.
-/
import Derived.Test.YtflhmoelenmomaaGreatDoorMSgW
import Derived.Test.YtflhmoelenmomaaGreatDoorMRcP
namespace Go.Proofs.YtflhmoelenmomaaGreatDoor
open Go.RowKit Go.Shelf Go.Lib
namespace Sg

theorem withF_len (l : List Int) (n : Int) : (withF l n).length ≤ l.length * 2 + 1 := by
  unfold withF
  split
  · omega
  · have h1 := List.length_filter_le (fun x => decide (x < n)) l
    have h2 := List.length_filter_le (fun x => decide (n < x)) l
    rw [List.length_append, List.length_cons]
    omega
theorem filt_two (n : Int) : ∀ l : List Int, (l.filter fun x => decide (x < n)).length + (l.filter fun x => decide (n < x)).length ≤ l.length
  | [] => by simp
  | x :: l => by
    have ih := filt_two n l
    simp only [List.filter_cons]
    by_cases h1 : x < n
    · have h2 : ¬ n < x := by omega
      simp [h1, h2]; omega
    · by_cases h2 : n < x
      · simp [h1, h2]; omega
      · simp [h1, h2]; omega
theorem withF_len1 (l : List Int) (n : Int) : (withF l n).length ≤ l.length + 1 := by
  unfold withF
  split
  · omega
  · have := filt_two n l
    rw [List.length_append, List.length_cons]
    omega
def endK (gs : List G) (k : Nat) : List Int := (gs.take k).foldl (fun l g => withF (withF l g.1) g.2) [0, 1000000000]
theorem endK_succ {gs : List G} {k : Nat} {g : G} (h : gs[k]? = some g) : endK gs (k + 1) = withF (withF (endK gs k) g.1) g.2 := by
  unfold endK
  rw [List.take_add_one, h, List.foldl_append]
  rfl
theorem endK_len (gs : List G) : ∀ k, (endK gs k).length ≤ 2 + 2 * k
  | 0 => by simp [endK]
  | k + 1 => by
    have ih := endK_len gs k
    cases hk : gs[k]? with
    | none =>
      have : endK gs (k + 1) = endK gs k := by unfold endK; rw [List.take_add_one, hk]; simp
      rw [this]
      omega
    | some g =>
      rw [endK_succ hk]
      have h1 := withF_len1 (endK gs k) g.1
      have h2 := withF_len1 (withF (endK gs k) g.1) g.2
      omega
theorem endK_all (gs : List G) : endK gs gs.length = endsF gs := by unfold endK endsF; rw [List.take_length]
theorem with_any (l : List Int) (n : Int) (B : Nat) (v : Value) (W : World) (hO : IO W B v l) (hBW : B ≤ W.heap.size) (hl : l.length ≤ 100000) :
    Calls Tryz.prog 111 #[v, .int .i64 n] W fun e W' => ∃ v', e = .returned v' ∧ IO W' B v' (withF l n) ∧ Below W.heap.size W W' := by
  by_cases h : n < 0 ∨ 1000000000 < n
  · exact with_out l n B v W hO h
  · exact with_in l n B v W hO hBW hl (by omega) (by omega)
set_option maxHeartbeats 2000000 in
set_option maxRecDepth 100000 in
theorem ends_any (gs : List G) (v : Value) (W : World) (hP : GS W v gs) (hl : gs.length ≤ 1000) :
    Calls Tryz.prog 81 #[v] W fun e W' => ∃ v', e = .returned v' ∧ IO W' W.heap.size v' (endsF gs) ∧ Below W.heap.size W W' := by
  obtain ⟨sl, cap, rfl, -, hf⟩ := hP.form
  have HF := Lib.hid hf
  have HL := Lib.hid (endK_len gs)
  have hA := (Below.refl W.heap.size W).alloc (Nat.le_refl _) (.cells #[.int .i64 0, .int .i64 1000000000] 3)
  have HS := Lib.hid (show IO (W.alloc (.cells #[.int .i64 0, .int .i64 1000000000] 3)) W.heap.size (.slice (some ⟨W.heap.size, 0, none⟩) 2 2) (endK gs 0) from World.ownsRow_lit (base := W.heap.size) W #[.int .i64 0, .int .i64 1000000000] 2 (Nat.le_refl _) (by decide) rfl)
  clear hf hP
  go_enter Tryz.func81, Tryz.ntmps81
  go_wp2_with fail
  go_loopw [3, 9] (fun v i wr => ∃ k : Nat, k ≤ gs.length ∧ i = .int .i64 (k : Int) ∧ IO wr W.heap.size v (endK gs k) ∧ Below W.heap.size W wr) (fun _ i _ => gs.length - (intOf i).toNat)
  case atStart => exact ⟨0, Nat.zero_le _, rfl, HS.out, hA⟩
  case round =>
    obtain ⟨k, hk, rfl, hv, hb⟩ := hrel
    by_cases hlt : k < gs.length
    · obtain ⟨g, hg⟩ : ∃ g, gs[k]? = some g := ⟨gs[k], List.getElem?_eq_getElem hlt⟩
      obtain ⟨b, o, rfl, ha, h3⟩ := HF.out k g hg
      obtain ⟨c0, c1⟩ := h3.below ha hb
      have HE := Lib.hid (endK_succ hg)
      have hlen := HL.out k
      obtain ⟨lo, hi⟩ := g
      have hB := hb.alloc hb.size (.cells #[.int .i64 lo, .int .i64 hi] 55)
      have hV := hv.below ((Below.refl _ _).alloc (Nat.le_refl _) (.cells #[.int .i64 lo, .int .i64 hi] 55))
      have H1 := Lib.hid (fun w' (hw : Below (wr.alloc (.cells #[.int .i64 lo, .int .i64 hi] 55)).heap.size (wr.alloc (.cells #[.int .i64 lo, .int .i64 hi] 55)) w') => with_any (endK gs k) lo W.heap.size _ w' (hV.below hw) (Nat.le_trans hB.size hw.size) (by omega))
      obtain ⟨z0, z1, -, -⟩ := obj_two (heap_alloc_new wr (.cells #[.int .i64 lo, .int .i64 hi] 55))
      have e0 := Sx.ext_cell z0
      have e1 := Sx.ext_cell z1
      have hlen2 : (withF (endK gs k) lo).length ≤ 100000 := by have := withF_len1 (endK gs k) lo; omega
      have HL2 := Lib.hid hlen2
      clear hg h3 hlen hlen2
      go_wp2_with fail
      refine Mix.region (fun w' => ∃ Y, w' = Sx.ext (wr.alloc (.cells #[.int .i64 lo, .int .i64 hi] 55)) Y) 6 [0, 0, 0, 1, 0, 0, 9, 9] [true, false] (by kernel_rfl) (fun _ _ d _ _ h => by cases d <;> exact h) (by rfl) (by kernel_rfl) ⟨_, Sx.ext_of (Below.refl _ _).drew⟩ ?_
      simp only [Mix.selP_cons, Mix.selP_nil, Mix.sel_cons, Mix.sel_nil, Nat.reduceBEq, Nat.reduceAdd, cond_true, cond_false, List.drop_succ_cons, List.drop_zero]
      refine Mix.parts_q ?_
      repeat (go_big_quiet_step (fail))
      refine wpQuiet_nil ?_
      refine Mix.parts_e ?_
      refine Mix.eff_step (fun K hK => ?_)
      go_simp
      refine (H1.out _ (Below.refl _ _).drew).mono ?_
      rintro e w2 ⟨v2, rfl, hO2, hB2⟩
      have hB3 : Below (wr.alloc (.cells #[.int .i64 lo, .int .i64 hi] 55)).heap.size (wr.alloc (.cells #[.int .i64 lo, .int .i64 hi] 55)) w2 := (Below.refl _ _).drew.trans hB2
      refine hK _ _ ⟨_, Sx.ext_of hB3⟩ ?_
      clear hK K e0 e1
      refine Mix.eff_nil (Mix.parts_n ?_)
      have hB4 := hB.trans (hB3.mono hB.size)
      have h2 := with_any (withF (endK gs k) lo) hi W.heap.size v2 w2 hO2 hB4.size HL2.out
      go_wp2_with (go_at_call 111; refine h2.mono ?_; rintro e w5 ⟨v5, rfl, hO5, hB5⟩)
      have HO5 := Lib.hid hO5
      have hB6 := hB4.trans (hB5.mono hB4.size)
      clear hO5 h2
      go_wp2_with fail
      go_roundw
      case rel => exact ⟨k + 1, by omega, by go_num, by rw [HE.out]; exact HO5.out, hB6⟩
      case measure => simp [intOf]; omega
    · obtain rfl : k = gs.length := by omega
      have HV := Lib.hid (show IO wr W.heap.size _ (endsF gs) by rw [← endK_all]; exact hv)
      clear hv
      go_wp2_with fail
      go_ret
      exact ⟨_, rfl, HV.out, hb⟩
end Sg
end Go.Proofs.YtflhmoelenmomaaGreatDoor
