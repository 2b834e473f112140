/-
  Or: two lists of gaps one behind the other, joined.
-/
import Derived.Test.YtlmmhhkhoaoheaaGreatDoorSgJ
import Derived.Test.YtlmmhhkhoaoheaaGreatDoorSgC
import Derived.Shelf.Spec.SlicesGrow
namespace Go.Proofs.YtlmmhhkhoaoheaaGreatDoor
open Go.RowKit Go.Shelf Go.Lib
namespace Sg

theorem add_at (b o j : Nat) : (⟨b, o, none⟩ : Addr).add j = ⟨b, o + j, none⟩ := by unfold Addr.add; split <;> simp_all
theorem GS.cells {W : World} {a : Addr} {n c : Nat} {r : List G} (h : GS W (.slice (some a) n c) r) : ∀ j u, (row r)[j]? = some u → W.cell? (a.add j) = some u := by
  obtain ⟨sl, cap, hv, hn, hf⟩ := h.form
  intro j u hj
  have hjl : j < r.length * 2 := by have := (List.getElem?_eq_some_iff.1 hj).1; rw [row_len] at this; exact this
  have hk : j / 2 < r.length := by omega
  obtain ⟨b, o, e, hb, h3⟩ := hf (j / 2) r[j / 2] (List.getElem?_eq_getElem hk)
  cases hv
  cases e
  have hr := row_at r (j / 2) _ (List.getElem?_eq_getElem hk)
  rw [add_at]
  rcases Nat.mod_two_eq_zero_or_one j with hm | hm
  · rw [show j = j / 2 * 2 by omega, hr.1] at hj
    rw [show o + j = o + j / 2 * 2 by omega, ← hj]
    exact h3.lo
  · rw [show j = j / 2 * 2 + 1 by omega, hr.2] at hj
    rw [show o + j = o + j / 2 * 2 + 1 by omega, ← hj]
    exact h3.hi
theorem GO.cat {w : World} {B : Nat} {v : Value} {l : List G} (h : GO w B v l) {x : Value} {r : List G} (hr : GS w x r) (hn : l.length + r.length ≤ 1000000) (hBw : B ≤ w.heap.size) {ops : Array Oper} {rest : List Oper} {o : Oper} {a : Act} {Q : Exit → Act → World → Prop} (hgd : Region.wanted o (yielded ops a.tmps) = true) (sl xo : Operand)
    (ho : o.op = .call { callee := .builtin .append, args := #[sl, xo], argTypes := #[23, 23] }) (hv : a.eval sl = v) (hx : a.eval xo = x)
    (hK : ∀ v' w', GO w' B v' (l ++ r) → (∀ w0, Below B w0 w → Below B w0 w') → wpList Tryz.prog ops Q rest (a.put o.dst v') w') : wpList Tryz.prog ops Q (o :: rest) a w :=
  wpList_step fun K hK2 => by
    rw [if_pos hgd]
    obtain ⟨i0, hi0, hz⟩ := Option.map_eq_some_iff.1 info_gap
    obtain ⟨z1, z2⟩ := Prod.mk.inj hz
    obtain ⟨z2, z3⟩ := Prod.mk.inj z2
    obtain ⟨s0, cap, rfl, hcap, hf⟩ := hr.form
    cases s0 with
    | none =>
      have hr0 : r = [] := by
        cases r with
        | nil => rfl
        | cons g r' => obtain ⟨b, o', e, _⟩ := hf 0 g rfl; cases e
      subst hr0
      rw [hcap rfl] at hx
      have hrun := run_append_owned_none (P := Tryz.prog) (w := w) B 23 o.type 42 i0 2 Tryz.underlying23 hi0 v l.length (row l) h
      unfold Oper.wp
      simp [execOp, ho, resolve, invoke, builtin, hv, hx, hrun, Result.andThen]
      exact hK2 _ _ (hK v w (by simpa using h) (fun _ h => h))
    | some ad =>
      refine wp_append_own w sl xo 23 ho B 42 i0 _ 2 16 Tryz.underlying23 hi0 z1 z2 z3 rfl (by decide) v l.length (row l) hv h ad r.length cap (row r) hx (row_len r) hr.cells (row_one r) (by unfold maxLen; omega) (by omega) hBw ?_
      intro v' w' h1 h2 _
      refine hK2 _ _ (hK v' w' ?_ (fun w0 h0 => h0.grown h2 hBw (fun k hk => (h.lt k hk).1)))
      unfold GO
      rw [row_app, List.length_append]
      exact h1
theorem grow_any (n : Nat) (W : World) (hn : n ≤ 1000000) :
    Calls Tryz.prog 54 #[.slice none 0 0, .int .i64 n] W fun e w' => ∃ v', e = .returned v' ∧ GO w' W.heap.size v' [] ∧ Below W.heap.size W w' := by
  rcases Nat.eq_zero_or_pos n with rfl | hp
  · refine (Any8.slices_Grow_room Tryz.growQ none 0 0 0 W (by omega) (by omega) (by omega) (by omega)).mono ?_
    rintro e w' ⟨rfl, rfl⟩
    exact ⟨_, rfl, go_nil _ _, Below.refl _ _⟩
  · obtain ⟨i0, hi0, hz⟩ := Option.map_eq_some_iff.1 info_gap
    obtain ⟨z1, z2⟩ := Prod.mk.inj hz
    obtain ⟨z2, z3⟩ := Prod.mk.inj z2
    refine (Any8.slices_Grow_grow Tryz.growQ i0 _ hi0 z1 (by rw [z2]; decide) none 0 0 n [] W (by omega) (by omega) (by rw [z3]; omega) (by omega) (by simp) (fun _ => rfl) (fun a h => by cases h)).mono ?_
    rintro e w' ⟨rfl, rfl⟩
    have hg := grownCap_ge W n 0 (Tryz.growQ_ren.t 25)
    refine ⟨_, rfl, ⟨rfl, .inr ⟨W.heap.size, _, _, rfl, Nat.le_refl _, heap_alloc_new _ _, Nat.zero_le _, grownCap_le_maxLen _ _ _ _ (by unfold maxLen; omega), ?_, rfl⟩⟩, (Below.refl _ _).drew.alloc (Nat.le_refl _) _⟩
    rw [Array.size_append, Array.size_append, size_zeroCells, size_zeroCells]
    simp [Value.cells]
    omega
set_option maxHeartbeats 4000000 in
theorem concat_any (x y : Value) (p q : List G) (A : Nat) (W : World) (hx : GS W x p) (hy : GS W y q) (hA : A < W.heap.size) (c0 : W.cell? ⟨A, 0, none⟩ = some x) (c1 : W.cell? ⟨A, 1, none⟩ = some y) (hl : p.length + q.length ≤ 1000000) :
    Calls Tryz.prog 38 #[.slice (some ⟨A, 0, none⟩) 2 2] W fun e W' => ∃ v', e = .returned v' ∧ GO W' W.heap.size v' (p ++ q) ∧ Below W.heap.size W W' := by
  have HX := Lib.hid hx
  have HY := Lib.hid hy
  obtain ⟨s0, k0, rfl, -, -⟩ := hx.form
  obtain ⟨s1, k1, rfl, -, -⟩ := hy.form
  have hg := fun W => grow_any (p.length + q.length) W hl
  have HL := Lib.hid hl
  have hp : p.length ≤ 1000000 := by omega
  have hq : q.length ≤ 1000000 := by omega
  clear hx hy hl
  go_enter Tryz.func38, Tryz.ntmps38
  go_wp2_with fail
  go_loopw [3, 11] (fun n i wr => W = wr ∧ ((i = .int .i64 0 ∧ n = .int .i64 0) ∨ (i = .int .i64 1 ∧ n = .int .i64 (p.length : Int)) ∨ (i = .int .i64 2 ∧ n = .int .i64 ((p.length + q.length : Nat) : Int)))) (fun _ i _ => 2 - (intOf i).toNat)
  case atStart => exact ⟨rfl, .inl ⟨rfl, rfl⟩⟩
  case round =>
    obtain ⟨rfl, ⟨rfl, rfl⟩ | ⟨rfl, rfl⟩ | ⟨rfl, rfl⟩⟩ := hrel
    · go_wp2_with fail
      go_roundw
      case rel => exact ⟨trivial, .inr (.inl ⟨rfl, by go_num⟩)⟩
      case measure => simp [intOf]
    · go_wp2_with fail
      go_roundw
      case rel => exact ⟨trivial, .inr (.inr ⟨rfl, by go_num⟩)⟩
      case measure => simp [intOf]
    · go_wp2_with (go_at_call 54; refine (hg _).mono ?_; rintro e W1 ⟨v1, rfl, hO1, hB1⟩)
      go_loopw [6, 27] (fun v i wr => Below W.heap.size W wr ∧ ((i = .int .i64 0 ∧ GO wr W.heap.size v []) ∨ (i = .int .i64 1 ∧ GO wr W.heap.size v p) ∨ (i = .int .i64 2 ∧ GO wr W.heap.size v (p ++ q)))) (fun _ i _ => 2 - (intOf i).toNat)
      case atStart => exact ⟨hB1, .inl ⟨rfl, hO1⟩⟩
      case round =>
        obtain ⟨hb, ⟨rfl, hv⟩ | ⟨rfl, hv⟩ | ⟨rfl, hv⟩⟩ := hrel
        · have d0 := (hb.cell (p := ⟨A, 0, none⟩) hA).trans c0
          have d1 := (hb.cell (p := ⟨A, 1, none⟩) hA).trans c1
          have HV := Lib.hid hv
          clear hv
          go_wp2_with (first
            | (at_builtin; refine GO.cat (l := []) (r := p) (B := W.heap.size) ?hh (HX.out.below hb) (by simpa using hp) hb.size (by simp [Region.wanted]) _ _ rfl rfl rfl ?_; (case hh => exact HV.out); intro v9 w9 hO9 hB9))
          have HO9 := Lib.hid hO9
          have HB9 := Lib.hid (hB9 _ hb)
          clear hO9 hB9
          go_wp2_with fail
          go_roundw
          case rel => exact ⟨HB9.out, .inr (.inl ⟨rfl, HO9.out⟩)⟩
          case measure => simp [intOf]
        · have d0 := (hb.cell (p := ⟨A, 0, none⟩) hA).trans c0
          have d1 := (hb.cell (p := ⟨A, 1, none⟩) hA).trans c1
          have HV := Lib.hid hv
          clear hv
          go_wp2_with (first
            | (at_builtin; refine GO.cat (l := p) (r := q) (B := W.heap.size) ?hh (HY.out.below hb) HL.out hb.size (by simp [Region.wanted]) _ _ rfl rfl rfl ?_; (case hh => exact HV.out); intro v9 w9 hO9 hB9))
          have HO9 := Lib.hid hO9
          have HB9 := Lib.hid (hB9 _ hb)
          clear hO9 hB9
          go_wp2_with fail
          go_roundw
          case rel => exact ⟨HB9.out, .inr (.inr ⟨rfl, HO9.out⟩)⟩
          case measure => simp [intOf]
        · go_wp2_with fail
          go_ret
          exact ⟨_, rfl, hv, hb⟩
/-- what Or, And and Not answer: the normal form of a set, or that it has too many gaps -/
structure SetP (B : Nat) (S : Int → Prop) (r : List G) (e : Ending) (W' : World) : Prop where
  nm : Nm r
  mem : ∀ n, inR r n ↔ S n
  bd : ∀ g ∈ r, Bd g
  ans : (16 < r.length ∧ e = .returned (.tuple #[.slice none 0 0, .int .i64 13])) ∨ (¬ 16 < r.length ∧ ∃ v', e = .returned (.tuple #[v', .int .i64 0]) ∧ GO W' B v' r)
theorem goodB_bd {r : List G} (h : goodB r = true) : ∀ g ∈ r, Bd g := fun g hg => by
  have := (good_nm h).2.2 g hg
  exact ⟨⟨by omega, by omega⟩, by omega, by omega⟩
theorem or_bad1 (p : List G) (x y : Value) (W : World) (hx : GS W x p) (hb : goodB p = false) :
    Calls Tryz.prog 17 #[x, y] W fun e W' => e = .returned (.tuple #[.slice none 0 0, .int .i64 1]) ∧ Below W.heap.size W W' := by
  have h1 := good_any p x W hx
  rw [hb] at h1
  clear hx
  go_enter Tryz.func17, Tryz.ntmps17
  go_wp2_with (go_at_call 12; refine h1.mono ?_; rintro e W1 ⟨rfl, hB1⟩)
  go_ret2
  exact ⟨rfl, hB1⟩
theorem or_bad2 (p q : List G) (x y : Value) (W : World) (hx : GS W x p) (hy : GS W y q) (ha : goodB p = true) (hb : goodB q = false) :
    Calls Tryz.prog 17 #[x, y] W fun e W' => e = .returned (.tuple #[.slice none 0 0, .int .i64 1]) ∧ Below W.heap.size W W' := by
  have h1 := good_any p x W hx
  rw [ha] at h1
  have h2 := fun W1 (hB : Below W.heap.size W W1) => good_any q y W1 (hy.below hB)
  rw [hb] at h2
  clear hx hy
  go_enter Tryz.func17, Tryz.ntmps17
  go_wp2_with (first
    | (go_at_call 12; refine h1.mono ?_; rintro e W1 ⟨rfl, hB1⟩; clear h1)
    | (go_at_call 12; refine (h2 _ hB1).mono ?_; rintro e W2 ⟨rfl, hB2⟩))
  go_ret2
  exact ⟨rfl, hB1.trans (hB2.mono hB1.size)⟩
set_option maxHeartbeats 1000000 in
theorem or_ok (p q : List G) (x y : Value) (W : World) (hx : GS W x p) (hy : GS W y q) (ha : goodB p = true) (hb : goodB q = true) :
    Calls Tryz.prog 17 #[x, y] W fun e W' => ∃ r, SetP W.heap.size (fun n => inR p n ∨ inR q n) r e W' ∧ Below W.heap.size W W' := by
  have h1 := good_any p x W hx
  rw [ha] at h1
  have h2 := fun W1 (hB : Below W.heap.size W W1) => good_any q y W1 (hy.below hB)
  rw [hb] at h2
  have hp := (good_nm ha).2.1
  have hq := (good_nm hb).2.1
  have hbd : ∀ g ∈ p ++ q, Bd g := fun g hg => (List.mem_append.1 hg).elim (goodB_bd ha g) (goodB_bd hb g)
  have HX := Lib.hid hx
  have HY := Lib.hid hy
  obtain ⟨s0, k0, rfl, -, -⟩ := hx.form
  obtain ⟨s1, k1, rfl, -, -⟩ := hy.form
  clear hx hy
  go_enter Tryz.func17, Tryz.ntmps17
  go_wp2_with (first
    | (go_at_call 12; refine h1.mono ?_; rintro e W1 ⟨rfl, hB1⟩; clear h1)
    | (go_at_call 12; refine (h2 _ hB1).mono ?_; rintro e W2 ⟨rfl, hB2⟩; have hB3 := hB1.trans (hB2.mono hB1.size); clear hB1 hB2 h2; have hA := hB3.alloc hB3.size (.cells #[.slice s0 p.length k0, .slice s1 q.length k1] 23); have hcc := concat_any _ _ p q W2.heap.size (W2.alloc (.cells #[.slice s0 p.length k0, .slice s1 q.length k1] 23)) (HX.out.below hA) (HY.out.below hA) (by simp) (obj_two (heap_alloc_new W2 _)).1 (obj_two (heap_alloc_new W2 _)).2.1 (by omega))
    | (go_at_call 38; refine hcc.mono ?_; rintro e W4 ⟨v4, rfl, hO4, hB4⟩; have hB5 := hA.trans (hB4.mono hA.size); have hj := joined_any (p ++ q) hbd _ v4 W4 hO4 (by rw [List.length_append]; omega); clear hcc hB4 hA hB3)
    | (go_at_call 27; refine hj.mono ?_; rintro e W6 ⟨v6, r, rfl, hO6, hN, hM, hR, -, hB6⟩; have hB7 := hB5.trans (hB6.mono hB5.size); have hO7 := hO6.le hB5.size; clear hB5 hB6 hj hO6))
  have hM2 : ∀ n, inR r n ↔ inR p n ∨ inR q n := fun n => (hM n).trans (in_app p q n)
  by_cases h16 : 16 < r.length
  · have hf := few_tt r v6 W6 (hO7.gs fun g hg => (hR g hg).n64) h16
    go_wp2_with (go_at_call 26; refine hf.mono ?_; rintro e W8 ⟨rfl, hB8⟩)
    go_ret2
    exact ⟨r, ⟨hN, hM2, hR, .inl ⟨h16, rfl⟩⟩, hB7.trans (hB8.mono hB7.size)⟩
  · have hf := few_ff r v6 W6 (hO7.gs fun g hg => (hR g hg).n64) h16
    go_wp2_with (go_at_call 26; refine hf.mono ?_; rintro e W8 ⟨rfl, hB8⟩)
    go_ret2
    exact ⟨r, ⟨hN, hM2, hR, .inr ⟨h16, v6, rfl, hO7.below hB8⟩⟩, hB7.trans (hB8.mono hB7.size)⟩
end Sg
end Go.Proofs.YtlmmhhkhoaoheaaGreatDoor
