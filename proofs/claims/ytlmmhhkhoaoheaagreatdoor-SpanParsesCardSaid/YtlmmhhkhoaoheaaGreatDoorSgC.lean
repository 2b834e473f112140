/-
  Walks: the reference's In and Same; Has of the program and of the reference; few.
-/
import Derived.Test.YtlmmhhkhoaoheaaGreatDoorSgB
import Derived.Test.YtlmmhhkhoaoheaaGreatDoorVersionA
namespace Go.Proofs.YtlmmhhkhoaoheaaGreatDoor
open Go.RowKit
namespace Sg

theorem in_none {r : List G} {n : Int} (h : ∀ g ∈ r, ¬ (g.1 ≤ n ∧ n < g.2)) : inB r n = false := by
  cases hb : inB r n with
  | false => rfl
  | true =>
    obtain ⟨g, hg, h1⟩ := (inB_iff r n).1 hb
    exact absurd h1 (h g hg)
theorem take_g {r : List G} {k : Nat} {g : G} (h : r[k]? = some g) : r.take (k + 1) = r.take k ++ [g] := by
  rw [List.take_add_one, h]
  rfl
theorem none_g {r : List G} {k : Nat} {g : G} {n : Int} (hg : r[k]? = some g) (h : ∀ x ∈ r.take k, ¬ (x.1 ≤ n ∧ n < x.2)) (hn : ¬ (g.1 ≤ n ∧ n < g.2)) : ∀ x ∈ r.take (k + 1), ¬ (x.1 ≤ n ∧ n < x.2) := fun x hx => by
  rw [take_g hg] at hx
  rcases List.mem_append.1 hx with hx | hx
  · exact h x hx
  · rw [List.mem_singleton.1 hx]; exact hn
theorem in_at {r : List G} {k : Nat} {g : G} {n : Int} (hg : r[k]? = some g) (h : g.1 ≤ n ∧ n < g.2) : inB r n = true := (inB_iff r n).2 ⟨g, List.mem_of_getElem? hg, h⟩
set_option maxHeartbeats 2000000 in
set_option maxRecDepth 100000 in
theorem rin_any (r : List G) (v : Value) (n : Int) (W : World) (hP : GS W v r) : Calls Tryz.prog 32 #[v, .int .i64 n] W fun e W' => e = .returned (.bool (inB r n)) ∧ Below W.heap.size W W' := by
  have hsm := hP.small
  obtain ⟨sl, cap, rfl, -, hf⟩ := hP.form
  have HF := Lib.hid hf
  clear hf hP
  go_enter Tryz.func32, Tryz.ntmps32
  go_wp2_with fail
  go_loopw [9] (fun i wr => ∃ k : Nat, k ≤ r.length ∧ i = .int .i64 (k : Int) ∧ (∀ x ∈ r.take k, ¬ (x.1 ≤ n ∧ n < x.2)) ∧ Below W.heap.size W wr) (fun i _ => r.length - (intOf i).toNat)
  case atStart => exact ⟨0, Nat.zero_le _, rfl, fun x h => by simp at h, Below.refl _ _⟩
  case round =>
    obtain ⟨k, hk, rfl, hn, hb⟩ := hrel
    by_cases hlt : k < r.length
    · obtain ⟨g, hg⟩ : ∃ g, r[k]? = some g := ⟨r[k], List.getElem?_eq_getElem hlt⟩
      obtain ⟨b, o, rfl, ha, h3⟩ := HF.out k g hg
      obtain ⟨c0, c1⟩ := h3.below ha hb
      have HNS := Lib.hid (none_g hg hn)
      have HIN := Lib.hid (in_at (n := n) hg)
      obtain ⟨lo, hi⟩ := g
      have hB := hb.alloc hb.size (.cells #[.int .i64 lo, .int .i64 hi] 42)
      clear hg h3 hn
      by_cases g1 : lo ≤ n
      · by_cases g2 : n < hi
        · have HR := Lib.hid (HIN.out ⟨g1, g2⟩)
          go_wp2_with fail
          go_ret
          rw [HR.out]
          exact ⟨rfl, hB⟩
        · have HR := Lib.hid (HNS.out (fun h => g2 h.2))
          go_wp2_with fail
          go_roundw
          case rel => exact ⟨k + 1, by omega, by go_num, HR.out, hB⟩
          case measure => simp [intOf]; omega
      · have HR := Lib.hid (HNS.out (fun h => g1 h.1))
        go_wp2_with fail
        go_roundw
        case rel => exact ⟨k + 1, by omega, by go_num, HR.out, hB⟩
        case measure => simp [intOf]; omega
    · obtain rfl : k = r.length := by omega
      rw [List.take_length] at hn
      have HR := Lib.hid (in_none hn)
      clear hn
      go_wp2_with fail
      go_ret
      rw [HR.out]
      exact ⟨rfl, hb⟩
set_option maxHeartbeats 1000000 in
set_option maxRecDepth 100000 in
theorem rsame_any (p : List G) (v v' : Value) (W : World) (hP : GS W v p) (hP' : GS W v' p) :
    Calls Tryz.prog 11 #[v, v'] W fun e W' => e = .returned (.bool true) ∧ Below W.heap.size W W' := by
  have hsm := hP.small
  obtain ⟨sl, cap, rfl, -, hf⟩ := hP.form
  obtain ⟨sl', cap', rfl, -, hf'⟩ := hP'.form
  have HF := Lib.hid hf
  have HF' := Lib.hid hf'
  clear hf hf' hP hP'
  go_enter Tryz.func11, Tryz.ntmps11
  go_wp2_with fail
  go_loopw [13] (fun i wr => ∃ k : Nat, k ≤ p.length ∧ i = .int .i64 k ∧ Below W.heap.size W wr) (fun i _ => p.length - (intOf i).toNat)
  case atStart => exact ⟨0, Nat.zero_le _, rfl, Below.refl _ _⟩
  case round =>
    obtain ⟨k, hk, rfl, hb⟩ := hrel
    by_cases hlt : k < p.length
    · obtain ⟨x, hx⟩ : ∃ x, p[k]? = some x := ⟨p[k], List.getElem?_eq_getElem hlt⟩
      obtain ⟨b, o, rfl, ha, h3⟩ := HF.out k x hx
      obtain ⟨b', o', rfl, ha', h3'⟩ := HF'.out k x hx
      obtain ⟨c0, c1⟩ := h3.below ha hb
      obtain ⟨c0', c1'⟩ := h3'.below ha' hb
      clear hx h3 h3'
      go_wp2_with fail
      go_quiet (fail)
      go_wp2
      go_roundw
      case rel => exact ⟨k + 1, by omega, by go_num, Sx.below_drewN hb _⟩
      case measure => simp [intOf]; omega
    · go_wp2
      go_ret
      exact ⟨rfl, hb⟩
theorem few_tt (p : List G) (v : Value) (W : World) (hP : GS W v p) (h : 16 < p.length) : Calls Tryz.prog 26 #[v] W fun e W' => e = .returned (.tuple #[.slice none 0 0, .int .i64 13]) ∧ Below W.heap.size W W' := by
  obtain ⟨sl, cap, rfl, -, -⟩ := hP.form
  clear hP
  have j1 : (16 : Int) < p.length := by omega
  clear h
  go_enter Tryz.func26, Tryz.ntmps26
  go_wp2_with fail
  go_ret2
  exact ⟨rfl, Below.refl _ _⟩
theorem few_ff (p : List G) (v : Value) (W : World) (hP : GS W v p) (h : ¬ 16 < p.length) : Calls Tryz.prog 26 #[v] W fun e W' => e = .returned (.tuple #[v, .int .i64 0]) ∧ Below W.heap.size W W' := by
  obtain ⟨sl, cap, rfl, -, -⟩ := hP.form
  clear hP
  have j1 : ¬ (16 : Int) < p.length := by omega
  clear h
  go_enter Tryz.func26, Tryz.ntmps26
  go_wp2_with fail
  go_ret2
  exact ⟨rfl, Below.refl _ _⟩
set_option maxHeartbeats 1000000 in
theorem hasc_any (g : G) (n : Int) (bx : Nat) (W : World) (hbx : bx < W.heap.size) (hv : W.cell? ⟨bx, 0, none⟩ = some (.int .i64 n)) :
    Calls Tryz.prog 37 #[.agg #[.int .i64 g.1, .int .i64 g.2], .pointer (some ⟨bx, 0, none⟩)] W fun e W' => e = .returned (.bool (decide (g.1 ≤ n) && decide (n < g.2))) ∧ Below W.heap.size W W' := by
  obtain ⟨lo, hi⟩ := g
  have hA : Below W.heap.size W (W.alloc (.cells #[.int .i64 lo, .int .i64 hi] 42)) := (Below.refl _ _).alloc (Nat.le_refl _) _
  have hv' := (hA.cell (p := ⟨bx, 0, none⟩) hbx).trans hv
  dsimp only
  by_cases g1 : lo ≤ n
  · by_cases g2 : n < hi
    · rw [decide_eq_true g1, decide_eq_true g2]
      go_enter Tryz.func37, Tryz.ntmps37
      go_wp2_with fail
      go_ret
      exact ⟨rfl, hA⟩
    · rw [decide_eq_true g1, decide_eq_false g2]
      go_enter Tryz.func37, Tryz.ntmps37
      go_wp2_with fail
      go_ret
      exact ⟨rfl, hA⟩
  · rw [decide_eq_false g1]
    go_enter Tryz.func37, Tryz.ntmps37
    go_wp2_with fail
    go_ret
    exact ⟨rfl, hA⟩
set_option maxHeartbeats 1000000 in
set_option maxRecDepth 100000 in
theorem index_any (r : List G) (v : Value) (n : Int) (bx : Nat) (W : World) (hP : GS W v r) (hbx : bx < W.heap.size) (hv : W.cell? ⟨bx, 0, none⟩ = some (.int .i64 n)) :
    Calls Tryz.prog 53 #[v, .func (.func 37) #[] #[.pointer (some ⟨bx, 0, none⟩)]] W fun e W' => ∃ i : Int, e = .returned (.int .i64 i) ∧ decide (0 ≤ i) = inB r n ∧ Below W.heap.size W W' := by
  have hsm := hP.small
  obtain ⟨sl, cap, rfl, -, hf⟩ := hP.form
  have HF := Lib.hid hf
  clear hf hP
  go_enter Tryz.func53, Tryz.ntmps53
  go_wp2_with fail
  go_loopw [8] (fun i wr => ∃ k : Nat, k ≤ r.length ∧ i = .int .i64 (k : Int) ∧ (∀ x ∈ r.take k, ¬ (x.1 ≤ n ∧ n < x.2)) ∧ Below W.heap.size W wr) (fun i _ => r.length - (intOf i).toNat)
  case atStart => exact ⟨0, Nat.zero_le _, rfl, fun x h => by simp at h, Below.refl _ _⟩
  case round =>
    obtain ⟨k, hk, rfl, hn, hb⟩ := hrel
    by_cases hlt : k < r.length
    · obtain ⟨g, hg⟩ : ∃ g, r[k]? = some g := ⟨r[k], List.getElem?_eq_getElem hlt⟩
      obtain ⟨b, o, rfl, ha, h3⟩ := HF.out k g hg
      obtain ⟨c0, c1⟩ := h3.below ha hb
      have HNS := Lib.hid (none_g hg hn)
      have HIN := Lib.hid (in_at (n := n) hg)
      have hcl := hasc_any g n bx wr (Nat.lt_of_lt_of_le hbx hb.size) ((hb.cell (p := ⟨bx, 0, none⟩) hbx).trans hv)
      obtain ⟨lo, hi⟩ := g
      dsimp only at hcl
      clear hg h3 hn
      by_cases g1 : lo ≤ n ∧ n < hi
      · have HR := Lib.hid (HIN.out g1)
        rw [decide_eq_true g1.1, decide_eq_true g1.2] at hcl
        clear g1
        go_wp2_with (go_at_call 37; refine hcl.mono ?_; clear hcl; rintro e w2 ⟨rfl, hb2⟩)
        go_ret
        rw [HR.out]
        exact ⟨_, rfl, decide_eq_true (by omega), hb.trans (hb2.mono hb.size)⟩
      · have HR := Lib.hid (HNS.out g1)
        rw [show (decide (lo ≤ n) && decide (n < hi)) = false by rw [← Bool.decide_and]; exact decide_eq_false g1] at hcl
        clear g1
        go_wp2_with (go_at_call 37; refine hcl.mono ?_; clear hcl; rintro e w2 ⟨rfl, hb2⟩)
        go_roundw
        case rel => exact ⟨k + 1, by omega, by go_num, HR.out, hb.trans (hb2.mono hb.size)⟩
        case measure => simp [intOf]; omega
    · obtain rfl : k = r.length := by omega
      rw [List.take_length] at hn
      have HR := Lib.hid (in_none hn)
      clear hn
      go_wp2_with fail
      go_ret
      rw [HR.out]
      exact ⟨_, rfl, rfl, hb⟩
set_option maxHeartbeats 1000000 in
theorem contains_any (r : List G) (v : Value) (n : Int) (bx : Nat) (W : World) (hP : GS W v r) (hbx : bx < W.heap.size) (hv : W.cell? ⟨bx, 0, none⟩ = some (.int .i64 n)) :
    Calls Tryz.prog 36 #[v, .func (.func 37) #[] #[.pointer (some ⟨bx, 0, none⟩)]] W fun e W' => e = .returned (.bool (inB r n)) ∧ Below W.heap.size W W' := by
  have hi := index_any r v n bx W hP hbx hv
  obtain ⟨sl, cap, rfl, -⟩ := hP.form
  clear hP
  go_enter Tryz.func36, Tryz.ntmps36
  go_wp2_with (go_at_call 53; refine hi.mono ?_; clear hi; rintro e w2 ⟨i, rfl, hh, hb2⟩; have HH := Lib.hid hh; clear hh)
  go_ret
  rw [← HH.out]
  exact ⟨rfl, hb2⟩
/-- whether a version is in a range -/
def hasB (r : List G) (a b c : Int) : Bool := Vs.goodB a b c && inB r (Vs.num a b c)
theorem num_ge {a b c : Int} (h : Vs.goodB a b c = true) : 0 ≤ Vs.num a b c := by
  obtain ⟨h1, h2, h3, h4, h5, h6⟩ := Vs.of_good h
  simp only [Vs.num, h, if_true]
  omega
theorem num_no {a b c : Int} (h : Vs.goodB a b c = false) : Vs.num a b c = -1 := by simp [Vs.num, h]
set_option maxHeartbeats 1000000 in
theorem has_any (r : List G) (v : Value) (a b c : Int) (W : World) (hP : GS W v r) : Calls Tryz.prog 16 #[v, Vs.V a b c] W fun e W' => e = .returned (.bool (hasB r a b c)) ∧ Below W.heap.size W W' := by
  have hA : Below W.heap.size W (W.alloc (.cells #[.int .i64 a, .int .i64 b, .int .i64 c] 31)) := (Below.refl _ _).alloc (Nat.le_refl _) _
  have hN := fun w => Vs.number_any a b c w
  have HP := Lib.hid hP
  obtain ⟨sl, cap, rfl, -⟩ := hP.form
  clear hP
  cases hg : Vs.goodB a b c with
  | false =>
    have HR := Lib.hid (show hasB r a b c = false by unfold hasB; rw [hg, Bool.false_and])
    rw [num_no hg] at hN
    clear hg
    go_enter Tryz.func16, Tryz.ntmps16
    go_wp2_with (go_at_call 35; refine (hN _).mono ?_; clear hN; rintro e w2 ⟨rfl, hb2⟩)
    go_ret
    rw [HR.out]
    have h2 := hA.trans (hb2.mono hA.size)
    exact ⟨rfl, h2.alloc h2.size _⟩
  | true =>
    have HR := Lib.hid (show hasB r a b c = inB r (Vs.num a b c) by unfold hasB; rw [hg, Bool.true_and])
    have hge := num_ge hg
    obtain ⟨n, hn⟩ : ∃ n, n = Vs.num a b c := ⟨_, rfl⟩
    rw [← hn] at hN HR hge
    clear hg hn
    go_enter Tryz.func16, Tryz.ntmps16
    go_wp2_with (first
      | (go_at_call 35; refine (hN _).mono ?_; clear hN; rintro e w2 ⟨rfl, hb2⟩; have h2 := hA.trans (hb2.mono hA.size); have h3 := h2.alloc h2.size (.cells #[.int .i64 n] 3); have hC := contains_any r _ n w2.heap.size _ (HP.out.below h3) (by simp) (by simp))
      | (go_at_call 36; refine hC.mono ?_; clear hC; rintro e w3 ⟨rfl, hb3⟩))
    go_ret
    rw [HR.out]
    exact ⟨rfl, h3.trans (hb3.mono h3.size)⟩
set_option maxHeartbeats 1000000 in
theorem rhas_any (r : List G) (v : Value) (a b c : Int) (W : World) (hP : GS W v r) : Calls Tryz.prog 22 #[v, Vs.V a b c] W fun e W' => e = .returned (.bool (hasB r a b c)) ∧ Below W.heap.size W W' := by
  have hA : Below W.heap.size W (W.alloc (.cells #[.int .i64 a, .int .i64 b, .int .i64 c] 31)) := (Below.refl _ _).alloc (Nat.le_refl _) _
  have hG := fun w => Vs.goodr_any a b c w
  have hN := fun w => Vs.numberr_any a b c w
  have HP := Lib.hid hP
  obtain ⟨sl, cap, rfl, -⟩ := hP.form
  clear hP
  cases hg : Vs.goodB a b c with
  | false =>
    have HR := Lib.hid (show hasB r a b c = false by unfold hasB; rw [hg, Bool.false_and])
    rw [hg] at hG
    clear hg
    go_enter Tryz.func22, Tryz.ntmps22
    go_wp2_with (go_at_call 14; refine (hG _).mono ?_; clear hG; rintro e w2 ⟨rfl, hb2⟩)
    go_ret
    rw [HR.out]
    exact ⟨rfl, hA.trans (hb2.mono hA.size)⟩
  | true =>
    have HR := Lib.hid (show hasB r a b c = inB r (Vs.num a b c) by unfold hasB; rw [hg, Bool.true_and])
    rw [hg] at hG
    obtain ⟨n, hn⟩ : ∃ n, n = Vs.num a b c := ⟨_, rfl⟩
    rw [← hn] at hN HR
    clear hg hn
    go_enter Tryz.func22, Tryz.ntmps22
    go_wp2_with (first
      | (go_at_call 14; refine (hG _).mono ?_; clear hG; rintro e w2 ⟨rfl, hb2⟩; have h2 := hA.trans (hb2.mono hA.size); obtain ⟨c0, c1, c2⟩ := (show w2.cell? ⟨W.heap.size, 0, none⟩ = some (.int .i64 a) ∧ w2.cell? ⟨W.heap.size, 1, none⟩ = some (.int .i64 b) ∧ w2.cell? ⟨W.heap.size, 2, none⟩ = some (.int .i64 c) from (by have hx := (hb2.block W.heap.size (by simp)).trans (heap_alloc_new W _); exact ⟨by simp [World.cell?, hx], by simp [World.cell?, hx], by simp [World.cell?, hx]⟩)))
      | (go_at_call 40; refine (hN _).mono ?_; clear hN; rintro e w3 ⟨rfl, hb3⟩; have h3 := h2.trans (hb3.mono h2.size); have hI := rin_any r _ n w3 (HP.out.below h3))
      | (go_at_call 32; refine hI.mono ?_; clear hI; rintro e w4 ⟨rfl, hb4⟩))
    go_ret
    rw [HR.out]
    exact ⟨rfl, h3.trans (hb4.mono h3.size)⟩
end Sg
end Go.Proofs.YtlmmhhkhoaoheaaGreatDoor
