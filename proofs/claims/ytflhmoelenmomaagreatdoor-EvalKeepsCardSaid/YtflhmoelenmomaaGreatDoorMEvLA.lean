/-
  The laws of layer 13: what the document tells (alive).
-/
import Derived.Test.YtflhmoelenmomaaGreatDoorMEvRF
import Derived.Test.YtflhmoelenmomaaGreatDoorMRpB
namespace Go.Proofs.YtflhmoelenmomaaGreatDoor
open Go.RowKit Go.Lib
namespace Ev
open Rc

theorem ltext_results {tmps : Array Value} {X : World} {g : Nat} {u0 u1 u2 : Value} (t2 : tmps[2]? = some (.pointer (some ⟨g, 0, none⟩))) (c0 : X.cell? ⟨g, 0, none⟩ = some u0) (c1 : X.cell? ⟨g, 1, none⟩ = some u1) (c2 : X.cell? ⟨g, 2, none⟩ = some u2) :
    (results Tryz.f18 tmps).run Tryz.prog X = .ok (.agg #[u0, u1, u2]) X := by
  simp [results, Tryz.results18, go_sem, t2, c0, c1, c2]
set_option maxHeartbeats 400000 in
theorem ltext_any (s : ByteArray) (w : World) : Calls Tryz.prog 18 #[.string s] w fun e w' => e = .returned (.agg #[.int .i64 1, .string s, .slice none 0 0]) ∧ Below w.heap.size w w' := by
  have hA := (Below.refl w.heap.size w).alloc (Nat.le_refl _) (.cells #[.int .i64 1, .string s, .slice none 0 0] 24)
  obtain ⟨c0, c1, c2, -, -, -⟩ := obj3 (heap_alloc_new w (.cells #[.int .i64 1, .string s, .slice none 0 0] 24))
  have HA := Lib.hid hA
  have HC := Lib.hid (And.intro c0 (And.intro c1 c2))
  clear hA c0 c1 c2
  go_enter Tryz.func18, Tryz.ntmps18
  go_wp2_with fail
  refine bodyPost_ret (ltext_results rfl HC.out.1 HC.out.2.1 HC.out.2.2) rfl ?_
  exact ⟨rfl, HA.out⟩
theorem lword_results {tmps : Array Value} {X : World} {g : Nat} {u0 u1 u2 : Value} (t2 : tmps[2]? = some (.pointer (some ⟨g, 0, none⟩))) (c0 : X.cell? ⟨g, 0, none⟩ = some u0) (c1 : X.cell? ⟨g, 1, none⟩ = some u1) (c2 : X.cell? ⟨g, 2, none⟩ = some u2) :
    (results Tryz.f20 tmps).run Tryz.prog X = .ok (.agg #[u0, u1, u2]) X := by
  simp [results, Tryz.results20, go_sem, t2, c0, c1, c2]
set_option maxHeartbeats 400000 in
theorem lword_any (s : ByteArray) (w : World) : Calls Tryz.prog 20 #[.string s] w fun e w' => e = .returned (.agg #[.int .i64 2, .string s, .slice none 0 0]) ∧ Below w.heap.size w w' := by
  have hA := (Below.refl w.heap.size w).alloc (Nat.le_refl _) (.cells #[.int .i64 2, .string s, .slice none 0 0] 24)
  obtain ⟨c0, c1, c2, -, -, -⟩ := obj3 (heap_alloc_new w (.cells #[.int .i64 2, .string s, .slice none 0 0] 24))
  have HA := Lib.hid hA
  have HC := Lib.hid (And.intro c0 (And.intro c1 c2))
  clear hA c0 c1 c2
  go_enter Tryz.func20, Tryz.ntmps20
  go_wp2_with fail
  refine bodyPost_ret (lword_results rfl HC.out.1 HC.out.2.1 HC.out.2.2) rfl ?_
  exact ⟨rfl, HA.out⟩
/-- an expression whose kids' cells lie in one block -/
theorem rep_list {W : World} {S : Nat → Prop} {g : Nat} {cs : Array Value} {ks : List E} {q : List (Value × Value × Value)} (k : Int) (s : ByteArray) (hS : S g) (hg : W.heap[g]? = some (.cells cs 24 (0, 0))) (hq : q.length = ks.length) (hc : ∀ (i : Nat) p, q[i]? = some p → cs[i * 3]? = some p.1 ∧ cs[i * 3 + 1]? = some p.2.1 ∧ cs[i * 3 + 2]? = some p.2.2)
    (hr : ∀ (i : Nat) u p, ks[i]? = some u → q[i]? = some p → RepX W S u (.agg #[p.1, p.2.1, p.2.2])) : RepX W S (.mk k s ks) (.agg #[.int .i64 k, .string s, .slice (some ⟨g, 0, none⟩) ks.length ks.length]) := by
  have hat : ∀ i, i < ks.length → q[i]? = some (q.getD i (undef, undef, undef)) := fun i hi => by
    rw [List.getD_eq_getElem?_getD, List.getElem?_eq_getElem (by omega)]
    rfl
  refine .mk k s ks (some ⟨g, 0, none⟩) ks.length (fun i => (q.getD i (undef, undef, undef)).1) (fun i => (q.getD i (undef, undef, undef)).2.1) (fun i => (q.getD i (undef, undef, undef)).2.2) (Nat.le_refl _) (fun i u hu => ?_) (fun i u hu => ?_)
  · have hi := (List.getElem?_eq_some_iff.1 hu).1
    obtain ⟨h1, h2, h3⟩ := hc i _ (hat i hi)
    have hcell : ∀ j v, cs[j]? = some v → W.cell? ⟨g, j, none⟩ = some v := fun j v hv => by simp [World.cell?, hg, hv]
    refine ⟨g, 0, rfl, hS, ?_, ?_, ?_⟩
    · rw [Nat.zero_add]; exact hcell _ _ h1
    · rw [Nat.zero_add]; exact hcell _ _ h2
    · rw [Nat.zero_add]; exact hcell _ _ h3
  · have hi := (List.getElem?_eq_some_iff.1 hu).1
    exact hr i u _ hu (hat i hi)
def xa : E := .mk 5 ⟨#[120]⟩ [.mk 1 ⟨#[97]⟩ [], .mk 3 ⟨#[]⟩ [.mk 2 ⟨#[120]⟩ [], .mk 2 ⟨#[120]⟩ []]]
def xb : E := .mk 4 ⟨#[]⟩ [.mk 1 ⟨#[97]⟩ [], .mk 1 ⟨#[98]⟩ [], .mk 2 ⟨#[121]⟩ [], .mk 1 ⟨#[99]⟩ []]
def xs : Rc.Src := ⟨.mk 1 ⟨#[97]⟩ [], .mk 1 ⟨#[49, 46, 48, 46, 48]⟩ [], []⟩
theorem eval_xa : evalP xa = (⟨#[97, 97]⟩, 5, 0) := by kernel_rfl
theorem eval_xb : evalP xb = (⟨#[99]⟩, 4, 0) := by kernel_rfl
theorem rec_xs : recP xs = .error 14 := by kernel_rfl
theorem leaf_small (k : Int) (s : ByteArray) (hk : k = 1 ∨ k = 2) (hs : s.size ≤ 100) : Sml (.mk k s []) ∧ sizeW (.mk k s []) ≤ 20000 := by
  refine ⟨.mk k s [] (by omega) (by omega) (by omega) (by simp) (fun x h => by cases h), ?_⟩
  rw [sizeW, sizeWs]
  omega
theorem xa_small : Sml xa ∧ sizeW xa ≤ 20000 := by
  refine ⟨.mk _ _ _ (by decide) (by decide) (by decide) (by decide) fun x hx => ?_, by decide⟩
  simp only [List.mem_cons, List.not_mem_nil, or_false] at hx
  rcases hx with rfl | rfl
  · exact (leaf_small _ _ (.inl rfl) (by decide)).1
  · refine .mk _ _ _ (by decide) (by decide) (by decide) (by decide) fun x hx => ?_
    simp only [List.mem_cons, List.not_mem_nil, or_false] at hx
    rcases hx with rfl | rfl <;> exact (leaf_small _ _ (.inr rfl) (by decide)).1
theorem xb_small : Sml xb ∧ sizeW xb ≤ 20000 := by
  refine ⟨.mk _ _ _ (by decide) (by decide) (by decide) (by decide) fun x hx => ?_, by decide⟩
  simp only [List.mem_cons, List.not_mem_nil, or_false] at hx
  rcases hx with rfl | rfl | rfl | rfl
  · exact (leaf_small _ _ (.inl rfl) (by decide)).1
  · exact (leaf_small _ _ (.inl rfl) (by decide)).1
  · exact (leaf_small _ _ (.inr rfl) (by decide)).1
  · exact (leaf_small _ _ (.inl rfl) (by decide)).1
abbrev cA1 : Obj := .cells #[.int .i64 2, .string ⟨#[120]⟩, .slice none 0 0, .int .i64 2, .string ⟨#[120]⟩, .slice none 0 0] 24
abbrev cA2 (g : Nat) : Obj := .cells #[.int .i64 1, .string ⟨#[97]⟩, .slice none 0 0, .int .i64 3, .string ⟨#[]⟩, .slice (some ⟨g, 0, none⟩) 2 2] 24
theorem rep_a (w : World) : RepX ((w.alloc cA1).alloc (cA2 w.heap.size)) (fun k => k < ((w.alloc cA1).alloc (cA2 w.heap.size)).heap.size) xa (.agg #[.int .i64 5, .string ⟨#[120]⟩, .slice (some ⟨w.heap.size + 1, 0, none⟩) 2 2]) := by
  have h1 : ((w.alloc cA1).alloc (cA2 w.heap.size)).heap[w.heap.size]? = some cA1 := (heap_alloc_old (w.alloc cA1) _ (by simp)).trans (heap_alloc_new w cA1)
  have h2 : ((w.alloc cA1).alloc (cA2 w.heap.size)).heap[w.heap.size + 1]? = some (cA2 w.heap.size) := by
    have := heap_alloc_new (w.alloc cA1) (cA2 w.heap.size)
    simpa using this
  have hl : ((w.alloc cA1).alloc (cA2 w.heap.size)).heap.size = w.heap.size + 2 := by simp
  have r2 := rep_list (S := fun k => k < ((w.alloc cA1).alloc (cA2 w.heap.size)).heap.size) (ks := [.mk 2 ⟨#[120]⟩ [], .mk 2 ⟨#[120]⟩ []]) (q := [(.int .i64 2, .string ⟨#[120]⟩, .slice none 0 0), (.int .i64 2, .string ⟨#[120]⟩, .slice none 0 0)]) 3 ⟨#[]⟩ (show w.heap.size < _ by omega) h1 rfl
    (fun i p hp => by
      match i, hp with
      | 0, hp => cases hp; exact ⟨rfl, rfl, rfl⟩
      | 1, hp => cases hp; exact ⟨rfl, rfl, rfl⟩)
    (fun i u p hu hp => by
      match i, hu, hp with
      | 0, hu, hp => cases hu; cases hp; exact RepX.leaf _ _ _ _
      | 1, hu, hp => cases hu; cases hp; exact RepX.leaf _ _ _ _)
  exact rep_list (S := fun k => k < ((w.alloc cA1).alloc (cA2 w.heap.size)).heap.size) (ks := [.mk 1 ⟨#[97]⟩ [], .mk 3 ⟨#[]⟩ [.mk 2 ⟨#[120]⟩ [], .mk 2 ⟨#[120]⟩ []]]) (q := [(.int .i64 1, .string ⟨#[97]⟩, .slice none 0 0), (.int .i64 3, .string ⟨#[]⟩, .slice (some ⟨w.heap.size, 0, none⟩) 2 2)]) 5 ⟨#[120]⟩ (show w.heap.size + 1 < _ by omega) h2 rfl
    (fun i p hp => by
      match i, hp with
      | 0, hp => cases hp; exact ⟨rfl, rfl, rfl⟩
      | 1, hp => cases hp; exact ⟨rfl, rfl, rfl⟩)
    (fun i u p hu hp => by
      match i, hu, hp with
      | 0, hu, hp => cases hu; cases hp; exact RepX.leaf _ _ _ _
      | 1, hu, hp => cases hu; cases hp; exact r2)
abbrev cB : Obj := .cells #[.int .i64 1, .string ⟨#[97]⟩, .slice none 0 0, .int .i64 1, .string ⟨#[98]⟩, .slice none 0 0, .int .i64 2, .string ⟨#[121]⟩, .slice none 0 0, .int .i64 1, .string ⟨#[99]⟩, .slice none 0 0] 24
theorem rep_b (w : World) : RepX (w.alloc cB) (fun k => k < (w.alloc cB).heap.size) xb (.agg #[.int .i64 4, .string ⟨#[]⟩, .slice (some ⟨w.heap.size, 0, none⟩) 4 4]) :=
  rep_list (S := fun k => k < (w.alloc cB).heap.size) (ks := [.mk 1 ⟨#[97]⟩ [], .mk 1 ⟨#[98]⟩ [], .mk 2 ⟨#[121]⟩ [], .mk 1 ⟨#[99]⟩ []]) (q := [(.int .i64 1, .string ⟨#[97]⟩, .slice none 0 0), (.int .i64 1, .string ⟨#[98]⟩, .slice none 0 0), (.int .i64 2, .string ⟨#[121]⟩, .slice none 0 0), (.int .i64 1, .string ⟨#[99]⟩, .slice none 0 0)]) 4 ⟨#[]⟩ (by simp) (heap_alloc_new w cB) rfl
    (fun i p hp => by
      match i, hp with
      | 0, hp => cases hp; exact ⟨rfl, rfl, rfl⟩
      | 1, hp => cases hp; exact ⟨rfl, rfl, rfl⟩
      | 2, hp => cases hp; exact ⟨rfl, rfl, rfl⟩
      | 3, hp => cases hp; exact ⟨rfl, rfl, rfl⟩)
    (fun i u p hu hp => by
      match i, hu, hp with
      | 0, hu, hp => cases hu; cases hp; exact RepX.leaf _ _ _ _
      | 1, hu, hp => cases hu; cases hp; exact RepX.leaf _ _ _ _
      | 2, hu, hp => cases hu; cases hp; exact RepX.leaf _ _ _ _
      | 3, hu, hp => cases hu; cases hp; exact RepX.leaf _ _ _ _)
theorem rep_s (w : World) : RepR w (fun k => k < w.heap.size) xs (.agg #[.int .i64 1, .string ⟨#[97]⟩, .slice none 0 0, .int .i64 1, .string ⟨#[49, 46, 48, 46, 48]⟩, .slice none 0 0, .slice none 0 0]) :=
  ⟨_, _, _, _, _, _, _, _, _, _, _, _, _, rfl, RepX.leaf _ _ _ _, RepX.leaf _ _ _ _, ⟨rfl, fun i t h => by simp [xs] at h⟩, Nat.le_refl _⟩
theorem xs_small : SmlS xs := ⟨(leaf_small _ _ (.inl rfl) (by decide)).1, (leaf_small _ _ (.inl rfl) (by decide)).1, by decide, fun f h => by cases h⟩
theorem eva_any (w : World) : Calls Tryz.prog 12 #[.agg #[.int .i64 5, .string ⟨#[120]⟩, .slice (some ⟨w.heap.size + 1, 0, none⟩) 2 2]] ((w.alloc cA1).alloc (cA2 w.heap.size)) fun e W' => e = .returned (.tuple #[.string ⟨#[97, 97]⟩, .int .i64 5, .int .i64 0]) ∧ Below w.heap.size w W' := by
  refine (eval_any xa_small.1 xa_small.2 _ _ _ (fun k hk => hk) (rep_a w)).mono ?_
  rintro e W' ⟨rfl, hB⟩
  refine ⟨by unfold evalV; rw [eval_xa]; rfl, (((Below.refl _ _).alloc (Nat.le_refl _) _).alloc (by simp) _).trans (hB.mono (by simp; omega))⟩
theorem evb_any (w : World) : Calls Tryz.prog 12 #[.agg #[.int .i64 4, .string ⟨#[]⟩, .slice (some ⟨w.heap.size, 0, none⟩) 4 4]] (w.alloc cB) fun e W' => e = .returned (.tuple #[.string ⟨#[99]⟩, .int .i64 4, .int .i64 0]) ∧ Below w.heap.size w W' := by
  refine (eval_any xb_small.1 xb_small.2 _ _ _ (fun k hk => hk) (rep_b w)).mono ?_
  rintro e W' ⟨rfl, hB⟩
  refine ⟨by unfold evalV; rw [eval_xb]; rfl, ((Below.refl _ _).alloc (Nat.le_refl _) _).trans (hB.mono (by simp))⟩
theorem evs_any (w : World) (hE : Vs.Env w) : Calls Tryz.prog 14 #[.agg #[.int .i64 1, .string ⟨#[97]⟩, .slice none 0 0, .int .i64 1, .string ⟨#[49, 46, 48, 46, 48]⟩, .slice none 0 0, .slice none 0 0]] w fun e W' => e = .returned (.tuple #[.agg zero8, .int .i64 14]) ∧ Below w.heap.size w W' := by
  refine (recipe_any xs_small (leaf_small _ _ (.inl rfl) (by decide)).2 (leaf_small _ _ (.inl rfl) (by decide)).2 (fun f h => by cases h) w _ _ (fun k hk => hk) (rep_s w) hE).mono ?_
  rintro e W' ⟨hB, hq⟩
  rw [rec_xs] at hq
  exact ⟨hq, hB⟩
end Ev
end Go.Proofs.YtflhmoelenmomaaGreatDoor

/-
  The laws of layer 13: alive.
-/
namespace Go.Proofs.YtflhmoelenmomaaGreatDoor
open Go.RowKit Go.Lib
namespace Ev
open Rc

set_option maxHeartbeats 1000000 in
set_option maxRecDepth 100000 in
theorem alive_any (W : World) (hE : Vs.Env W) : Calls Tryz.prog 10 #[] W fun e W' => e = .returned (.bool true) ∧ Below W.heap.size W W' := by
  have HE := Lib.hid hE
  clear hE
  have hB := Below.refl W.heap.size W
  go_enter Tryz.func10, Tryz.ntmps10
  go_wp2_with (first
    | (go_at_call 18; with_reducible refine (ltext_any _ _).mono ?_; rintro e w1 ⟨he, hb1⟩; subst he; replace hB := hB.trans (hb1.mono hB.size); clear hb1)
    | (go_at_call 20; with_reducible refine (lword_any _ _).mono ?_; rintro e w1 ⟨he, hb1⟩; subst he; replace hB := hB.trans (hb1.mono hB.size); clear hb1)
    | (go_at_call 12; with_reducible refine (eva_any _).mono ?_; rintro e w1 ⟨he, hb1⟩; subst he; replace hB := hB.trans (hb1.mono hB.size); clear hb1)
    | (go_at_call 12; with_reducible refine (evb_any _).mono ?_; rintro e w1 ⟨he, hb1⟩; subst he; replace hB := hB.trans (hb1.mono hB.size); clear hb1)
    | (go_at_call 14; with_reducible refine (evs_any _ (HE.out.below (Nat.le_refl _) hB)).mono ?_; rintro e w1 ⟨he, hb1⟩; subst he; replace hB := hB.trans (hb1.mono hB.size); clear hb1))
  go_ret
  exact ⟨rfl, hB.alloc hB.size _⟩
end Ev
end Go.Proofs.YtflhmoelenmomaaGreatDoor

/-
  What an expression weighs: the walk of layer 13's law (the text of RpB, turned).
-/
namespace Go.Proofs.YtflhmoelenmomaaGreatDoor
open Go.RowKit
namespace Ev
open Rc

set_option maxHeartbeats 4000000 in
set_option maxRecDepth 100000 in
theorem weigh_tt : ∀ (h : Nat) (x : E), SizeOf.sizeOf x < h → Sml x → ∀ (W : World) (S : Nat → Prop) (v : Value) (left : Int) (d : Nat), d ≤ 201 → -1000000000000000000 ≤ left → left ≤ 16384 → (∀ b, S b → b < W.heap.size) → RepX W S x v →
    Calls Tryz.prog 11 #[v, .int .i64 left, .int .i64 d] W fun e W' => e = .returned (.int .i64 (weigh x left d)) ∧ Below W.heap.size W W' := by
  intro h
  induction h with
  | zero => intro x hx; omega
  | succ h ih =>
    intro x hx hsm W S v left d hd hl1 hl2 hS hr
    cases hr with
    | mk kd s ks sl cap x1 y1 z1 hcap hc hrk =>
      cases hsm with
      | mk _ _ _ hk1 hk2 hss hlen hfk =>
        have hX : Below W.heap.size W (W.alloc (.cells #[.int .i64 kd, .string s, .slice sl ks.length cap] 24)) := (Below.refl _ _).alloc (Nat.le_refl _) _
        have p1 : (W.alloc (.cells #[.int .i64 kd, .string s, .slice sl ks.length cap] 24)).cell? ⟨W.heap.size, 1, none⟩ = some (.string s) := by go_simp
        have p2 : (W.alloc (.cells #[.int .i64 kd, .string s, .slice sl ks.length cap] 24)).cell? ⟨W.heap.size, 2, none⟩ = some (.slice sl ks.length cap) := by go_simp
        have w1 : IntKind.i64.wrap (left - 1) = left - 1 := IntWalk.i64_in _ (by omega)
        have w2 : IntKind.i64.wrap (left - 1 - (s.size : Int)) = left - 1 - s.size := IntWalk.i64_in _ (by omega)
        have w3 : IntKind.i64.wrap ((d : Int) + 1) = ((d + 1 : Nat) : Int) := by rw [IntWalk.i64_in _ (by omega)]; omega
        have HC := Lib.hid hc
        have HR := Lib.hid hrk
        have HS := Lib.hid hS
        have HF := Lib.hid hfk
        have HX := Lib.hid hx
        have HL := Lib.hid hl1
        have HL2 := Lib.hid hl2
        have HH := Lib.hid hss
        clear hc hrk hS hfk hx hk1 hk2 hl1 hl2 hss
        by_cases hdp : 200 < d
        · have k1 : decide ((200 : Int) < d) = true := by simp; omega
          have HE := Lib.hid (show weigh (.mk kd s ks) left d = -1 by rw [weigh, if_pos hdp])
          clear hdp hd
          go_enter Tryz.func11, Tryz.ntmps11
          go_wp2_with fail
          go_ret
          rw [HE.out]
          exact ⟨rfl, hX⟩
        · have k1 : decide ((200 : Int) < d) = false := by simp; omega
          have HE := Lib.hid (show weigh (.mk kd s ks) left d = weighs (ks.drop 0) (left - 1 - s.size) (d + 1) by rw [weigh, if_neg hdp]; rfl)
          have HD := Lib.hid (show d + 1 ≤ 201 by omega)
          clear hdp hd
          go_enter Tryz.func11, Tryz.ntmps11
          go_wp2_with fail
          go_loopw [1, 7] (fun l i wr => ∃ (k : Nat) (m : Int), k ≤ ks.length ∧ i = .int .i64 k ∧ l = .int .i64 m ∧ weighs (ks.drop k) m (d + 1) = weigh (.mk kd s ks) left d ∧ (m < 0 ∨ m ≤ 16384) ∧ Below (W.heap.size + 1) (W.alloc (.cells #[.int .i64 kd, .string s, .slice sl ks.length cap] 24)) wr) (fun _ i _ => ks.length - (intOf i).toNat)
          case atStart => exact ⟨0, _, Nat.zero_le _, rfl, rfl, HE.out.symm, by have := HL2.out; omega, Below.refl _ _⟩
          case round =>
            obtain ⟨k, m, hk, rfl, rfl, hm, hm2, hb⟩ := hrel
            have c2 := (hb.cell (p := ⟨W.heap.size, 2, none⟩) (by show W.heap.size < _; omega)).trans p2
            have hbW := hX.trans (hb.mono (Nat.le_add_right _ 1))
            clear p1 p2 hX
            have HM := Lib.hid hm
            clear hm
            by_cases hlt : k < ks.length
            · by_cases hneg : m < 0
              · have k2 : decide (0 ≤ m) = false := by simp; omega
                have HN := Lib.hid hneg
                clear hneg hm2
                go_wp2_with fail
                go_ret
                rw [← HM.out, weighs_neg HN.out]
                exact ⟨rfl, hbW⟩
              · have k2 : decide (0 ≤ m) = true := by simp; omega
                obtain ⟨u, hu⟩ : ∃ u, ks[k]? = some u := ⟨ks[k], List.getElem?_eq_getElem hlt⟩
                obtain ⟨b, a, rfl, hbl, h1, h2, h3⟩ := HC.out k u hu
                have hsame : ∀ b o, b < W.heap.size → wr.cell? ⟨b, o, none⟩ = W.cell? ⟨b, o, none⟩ := fun b o hb => hbW.cell (p := ⟨b, o, none⟩) (by show b < _; omega)
                have g1 := (hsame b _ (HS.out b hbl)).trans h1
                have g2 := (hsame b _ (HS.out b hbl)).trans h2
                have g3 := (hsame b _ (HS.out b hbl)).trans h3
                have hkw : IntKind.i64.wrap ((k : Int) + 1) = (k : Int) + 1 := IntWalk.i64_in _ (by omega)
                have hk0 := ih u (by have := kid_size (k := kd) (s := s) hu; have := HX.out; omega) (HF.out u (List.mem_of_getElem? hu)) wr S _ m (d + 1) HD.out (by omega) (by omega) (fun b hb => Nat.lt_of_lt_of_le (HS.out b hb) hbW.size) ((HR.out k u hu).same fun b o hb => hsame b o (HS.out b hb))
                have HN := Lib.hid (weighs_at (d := d + 1) hu hneg)
                have HG := Lib.hid (show weigh u m (d + 1) < 0 ∨ weigh u m (d + 1) ≤ 16384 by have := (weigh_le u m (d + 1)).1; omega)
                clear hsame h1 h2 h3 hu hneg hm2
                go_wp2_with fail
                refine hk0.mono ?_
                rintro e w2 ⟨rfl, hB⟩
                go_wp2_with fail
                go_roundw
                case rel => exact ⟨k + 1, _, by omega, by go_num, rfl, HN.out.symm.trans HM.out, HG.out, hb.trans (hB.mono (by have := hb.size; simp at this; omega))⟩
                case measure => simp [intOf]; omega
            · obtain rfl : k = ks.length := by omega
              go_wp2_with fail
              go_ret
              rw [← HM.out, List.drop_eq_nil_of_le (Nat.le_refl _), weighs]
              exact ⟨rfl, hbW⟩
theorem weigh_any {x : E} (hx : Sml x) (W : World) (S : Nat → Prop) (v : Value) (left : Int) (h1 : -1000000000000000000 ≤ left) (h2 : left ≤ 16384) (hS : ∀ b, S b → b < W.heap.size) (hr : RepX W S x v) :
    Calls Tryz.prog 11 #[v, .int .i64 left, .int .i64 0] W fun e W' => e = .returned (.int .i64 (weigh x left 0)) ∧ Below W.heap.size W W' := weigh_tt _ x (Nat.lt_succ_self _) hx W S v left 0 (by decide) h1 h2 hS hr
end Ev
end Go.Proofs.YtflhmoelenmomaaGreatDoor

/-
  The laws EvalMeans and EvalPure.
-/
namespace Go.Proofs.YtflhmoelenmomaaGreatDoor
open Go.RowKit Go.Lib
namespace Ev
open Rc

set_option maxHeartbeats 4000000 in
set_option maxRecDepth 100000 in
theorem meanslaw_any {x : E} (hx : Sml x) (W : World) (v : Value) (hr : RepX W (fun b => b < W.heap.size) x v) (hE : Vs.Env W) :
    Calls Tryz.prog 3 #[v] W fun e W' => e = .returned (.bool true) ∧ Below W.heap.size W W' := by
  obtain ⟨kd, s, sl, n, cap, rfl⟩ := hr.vals
  have hA := (Below.refl W.heap.size W).alloc (Nat.le_refl _) (.cells #[.int .i64 kd, .string s, .slice sl n cap] 24)
  have hX := heap_alloc_new W (.cells #[.int .i64 kd, .string s, .slice sl n cap] 24)
  have hal := alive_any (W.alloc (.cells #[.int .i64 kd, .string s, .slice sl n cap] 24)) (hE.alloc _)
  have HR := Lib.hid (fun (w : World) (hb : Below W.heap.size W w) => hr.move (W' := w) (S' := fun b => b < W.heap.size) fun k hk => ⟨hk, hb.block k hk⟩)
  have HW := Lib.hid (fun (w : World) (hb : Below W.heap.size W w) => weigh_any hx w (fun b => b < W.heap.size) _ 16384 (by decide) (by decide) (fun k hk => Nat.lt_of_lt_of_le hk hb.size) (HR.out w hb))
  clear hr hE
  have hB := Below.refl W.heap.size W
  by_cases hw : weigh x 16384 0 < 0
  · go_enter Tryz.func3, Tryz.ntmps3
    go_wp2_with (first
      | (go_at_call 10; with_reducible refine hal.mono ?_; rintro e w1 ⟨he, hb1⟩; subst he; replace hB := hA.trans (hb1.mono hA.size); have hX1 := (hb1.block W.heap.size (by simp)).trans hX; obtain ⟨c0, c1, c2, -, -, -⟩ := obj3 hX1; clear hb1 hal)
      | (go_at_call 11; with_reducible refine (HW.out _ hB).mono ?_; rintro e w2 ⟨he, hb2⟩; subst he; replace hB := hB.trans (hb2.mono hB.size); clear hb2))
    go_ret
    exact ⟨rfl, hB⟩
  · have hz : sizeW x ≤ 20000 := by have := (weigh_le x 16384 0).2 (by omega); omega
    have HV := Lib.hid (fun (w : World) (hb : Below W.heap.size W w) => eval_any hx hz w (fun b => b < W.heap.size) _ (fun k hk => Nat.lt_of_lt_of_le hk hb.size) (HR.out w hb))
    have HRV := Lib.hid (fun (w : World) (hb : Below W.heap.size W w) => reval_any hx hz w (fun b => b < W.heap.size) _ (fun k hk => Nat.lt_of_lt_of_le hk hb.size) (HR.out w hb))
    unfold evalV at HV HRV
    generalize evalP x = p at *
    obtain ⟨t, j, er⟩ := p
    go_enter Tryz.func3, Tryz.ntmps3
    go_wp2_with (first
      | (go_at_call 10; with_reducible refine hal.mono ?_; rintro e w1 ⟨he, hb1⟩; subst he; replace hB := hA.trans (hb1.mono hA.size); have hX1 := (hb1.block W.heap.size (by simp)).trans hX; obtain ⟨c0, c1, c2, -, -, -⟩ := obj3 hX1; have hl : W.heap.size < w1.heap.size := (Array.getElem?_eq_some_iff.1 hX1).1; clear hb1 hal)
      | (go_at_call 11; with_reducible refine (HW.out _ hB).mono ?_; rintro e w2 ⟨he, hb2⟩; subst he; replace hB := hB.trans (hb2.mono hB.size); have hX2 := (hb2.block W.heap.size hl).trans hX1; clear c0 c1 c2; obtain ⟨c0, c1, c2, -, -, -⟩ := obj3 hX2; have hl2 := Nat.lt_of_lt_of_le hl hb2.size; clear hb2)
      | (go_at_call 12; with_reducible refine (HV.out _ hB).mono ?_; rintro e w3 ⟨he, hb3⟩; subst he; replace hB := hB.trans (hb3.mono hB.size); have hX3 := (hb3.block W.heap.size hl2).trans hX2; clear c0 c1 c2; obtain ⟨c0, c1, c2, -, -, -⟩ := obj3 hX3; clear hb3)
      | (go_at_call 13; with_reducible refine (HRV.out _ hB).mono ?_; rintro e w4 ⟨he, hb4⟩; subst he; replace hB := hB.trans (hb4.mono hB.size); clear hb4))
    go_ret
    exact ⟨rfl, hB⟩
set_option maxHeartbeats 4000000 in
set_option maxRecDepth 100000 in
theorem purelaw_any {x y : E} (hx : Sml x) (hy : Sml y) (W : World) (v u : Value) (hr : RepX W (fun b => b < W.heap.size) x v) (hq : RepX W (fun b => b < W.heap.size) y u) (hE : Vs.Env W) :
    Calls Tryz.prog 9 #[v, u] W fun e W' => e = .returned (.bool true) ∧ Below W.heap.size W W' := by
  obtain ⟨kd, s, sl, n, cap, rfl⟩ := hr.vals
  obtain ⟨kd2, s2, sl2, n2, cap2, rfl⟩ := hq.vals
  have hA := ((Below.refl W.heap.size W).alloc (Nat.le_refl _) (.cells #[.int .i64 kd, .string s, .slice sl n cap] 24)).alloc (by simp) (.cells #[.int .i64 kd2, .string s2, .slice sl2 n2 cap2] 24)
  have hX := (heap_alloc_old (W.alloc (.cells #[.int .i64 kd, .string s, .slice sl n cap] 24)) (.cells #[.int .i64 kd2, .string s2, .slice sl2 n2 cap2] 24) (by simp)).trans (heap_alloc_new W (.cells #[.int .i64 kd, .string s, .slice sl n cap] 24))
  have hY : ((W.alloc (.cells #[.int .i64 kd, .string s, .slice sl n cap] 24)).alloc (.cells #[.int .i64 kd2, .string s2, .slice sl2 n2 cap2] 24)).heap[W.heap.size + 1]? = some (.cells #[.int .i64 kd2, .string s2, .slice sl2 n2 cap2] 24) := by
    have := heap_alloc_new (W.alloc (.cells #[.int .i64 kd, .string s, .slice sl n cap] 24)) (.cells #[.int .i64 kd2, .string s2, .slice sl2 n2 cap2] 24)
    simpa using this
  have hal := alive_any ((W.alloc (.cells #[.int .i64 kd, .string s, .slice sl n cap] 24)).alloc (.cells #[.int .i64 kd2, .string s2, .slice sl2 n2 cap2] 24)) ((hE.alloc _).alloc _)
  have HR := Lib.hid (fun (w : World) (hb : Below W.heap.size W w) => hr.move (W' := w) (S' := fun b => b < W.heap.size) fun k hk => ⟨hk, hb.block k hk⟩)
  have HQ := Lib.hid (fun (w : World) (hb : Below W.heap.size W w) => hq.move (W' := w) (S' := fun b => b < W.heap.size) fun k hk => ⟨hk, hb.block k hk⟩)
  have HW := Lib.hid (fun (w : World) (hb : Below W.heap.size W w) => weigh_any hx w (fun b => b < W.heap.size) _ 8192 (by decide) (by decide) (fun k hk => Nat.lt_of_lt_of_le hk hb.size) (HR.out w hb))
  have HU := Lib.hid (fun (w : World) (hb : Below W.heap.size W w) => weigh_any hy w (fun b => b < W.heap.size) _ 8192 (by decide) (by decide) (fun k hk => Nat.lt_of_lt_of_le hk hb.size) (HQ.out w hb))
  clear hr hq hE
  have hB := Below.refl W.heap.size W
  have hl0 : W.heap.size + 1 < ((W.alloc (.cells #[.int .i64 kd, .string s, .slice sl n cap] 24)).alloc (.cells #[.int .i64 kd2, .string s2, .slice sl2 n2 cap2] 24)).heap.size := by simp
  by_cases hw : weigh x 8192 0 < 0
  · go_enter Tryz.func9, Tryz.ntmps9
    go_wp2_with (first
      | (go_at_call 10; with_reducible refine hal.mono ?_; rintro e w1 ⟨he, hb1⟩; subst he; replace hB := hA.trans (hb1.mono hA.size); have hX1 := (hb1.block W.heap.size (by omega)).trans hX; obtain ⟨c0, c1, c2, -, -, -⟩ := obj3 hX1; clear hb1 hal)
      | (go_at_call 11; with_reducible refine (HW.out _ hB).mono ?_; rintro e w2 ⟨he, hb2⟩; subst he; replace hB := hB.trans (hb2.mono hB.size); clear hb2))
    go_ret
    exact ⟨rfl, hB⟩
  by_cases hw2 : weigh y 8192 0 < 0
  · go_enter Tryz.func9, Tryz.ntmps9
    go_wp2_with (first
      | (go_at_call 10; with_reducible refine hal.mono ?_; rintro e w1 ⟨he, hb1⟩; subst he; replace hB := hA.trans (hb1.mono hA.size); have hX1 := (hb1.block W.heap.size (by omega)).trans hX; have hY1 := (hb1.block _ hl0).trans hY; have hl1 := Nat.lt_of_lt_of_le hl0 hb1.size; obtain ⟨c0, c1, c2, -, -, -⟩ := obj3 hX1; clear hb1 hal)
      | (go_at_call 11; with_reducible refine (HW.out _ hB).mono ?_; rintro e w2 ⟨he, hb2⟩; subst he; replace hB := hB.trans (hb2.mono hB.size); have hY2 := (hb2.block _ hl1).trans hY1; clear c0 c1 c2; obtain ⟨c0, c1, c2, -, -, -⟩ := obj3 hY2; clear hb2)
      | (go_at_call 11; with_reducible refine (HU.out _ hB).mono ?_; rintro e w3 ⟨he, hb3⟩; subst he; replace hB := hB.trans (hb3.mono hB.size); clear hb3))
    go_ret
    exact ⟨rfl, hB⟩
  have hz : sizeW x ≤ 20000 := by have := (weigh_le x 8192 0).2 (by omega); omega
  have hz2 : sizeW y ≤ 20000 := by have := (weigh_le y 8192 0).2 (by omega); omega
  have HV := Lib.hid (fun (w : World) (hb : Below W.heap.size W w) => eval_any hx hz w (fun b => b < W.heap.size) _ (fun k hk => Nat.lt_of_lt_of_le hk hb.size) (HR.out w hb))
  have HVY := Lib.hid (fun (w : World) (hb : Below W.heap.size W w) => eval_any hy hz2 w (fun b => b < W.heap.size) _ (fun k hk => Nat.lt_of_lt_of_le hk hb.size) (HQ.out w hb))
  unfold evalV at HV HVY
  have hbd := eval_bounds x
  generalize evalP x = p at *
  obtain ⟨t, j, er⟩ := p
  generalize evalP y = p2 at *
  obtain ⟨t2, j2, er2⟩ := p2
  dsimp only at hbd
  have hj : (j : Int) ≤ 1000 := by omega
  have hts : (t.size : Int) ≤ 256 := by omega
  clear hbd
  go_enter Tryz.func9, Tryz.ntmps9
  go_wp2_with (first
    | (go_at_call 10; with_reducible refine hal.mono ?_; rintro e w1 ⟨he, hb1⟩; subst he; replace hB := hA.trans (hb1.mono hA.size); replace hX := (hb1.block W.heap.size (by omega)).trans hX; replace hY := (hb1.block _ hl0).trans hY; replace hl0 := Nat.lt_of_lt_of_le hl0 hb1.size; obtain ⟨c0, c1, c2, -, -, -⟩ := obj3 hX; obtain ⟨d0, d1, d2, -, -, -⟩ := obj3 hY; clear hb1 hal)
    | (go_at_call 11; with_reducible refine (HW.out _ hB).mono ?_; rintro e w2 ⟨he, hb2⟩; subst he; replace hB := hB.trans (hb2.mono hB.size); clear c0 c1 c2 d0 d1 d2; replace hX := (hb2.block W.heap.size (by omega)).trans hX; replace hY := (hb2.block _ hl0).trans hY; replace hl0 := Nat.lt_of_lt_of_le hl0 hb2.size; obtain ⟨c0, c1, c2, -, -, -⟩ := obj3 hX; obtain ⟨d0, d1, d2, -, -, -⟩ := obj3 hY; clear hb2)
    | (go_at_call 11; with_reducible refine (HU.out _ hB).mono ?_; rintro e w2 ⟨he, hb2⟩; subst he; replace hB := hB.trans (hb2.mono hB.size); clear c0 c1 c2 d0 d1 d2; replace hX := (hb2.block W.heap.size (by omega)).trans hX; replace hY := (hb2.block _ hl0).trans hY; replace hl0 := Nat.lt_of_lt_of_le hl0 hb2.size; obtain ⟨c0, c1, c2, -, -, -⟩ := obj3 hX; obtain ⟨d0, d1, d2, -, -, -⟩ := obj3 hY; clear hb2)
    | (go_at_call 12; with_reducible refine (HV.out _ hB).mono ?_; rintro e w2 ⟨he, hb2⟩; subst he; replace hB := hB.trans (hb2.mono hB.size); clear c0 c1 c2 d0 d1 d2; replace hX := (hb2.block W.heap.size (by omega)).trans hX; replace hY := (hb2.block _ hl0).trans hY; replace hl0 := Nat.lt_of_lt_of_le hl0 hb2.size; obtain ⟨c0, c1, c2, -, -, -⟩ := obj3 hX; obtain ⟨d0, d1, d2, -, -, -⟩ := obj3 hY; clear hb2)
    | (go_at_call 12; with_reducible refine (HVY.out _ hB).mono ?_; rintro e w2 ⟨he, hb2⟩; subst he; replace hB := hB.trans (hb2.mono hB.size); clear c0 c1 c2 d0 d1 d2; replace hX := (hb2.block W.heap.size (by omega)).trans hX; replace hY := (hb2.block _ hl0).trans hY; replace hl0 := Nat.lt_of_lt_of_le hl0 hb2.size; obtain ⟨c0, c1, c2, -, -, -⟩ := obj3 hX; obtain ⟨d0, d1, d2, -, -, -⟩ := obj3 hY; clear hb2))
  go_ret
  exact ⟨rfl, hB⟩
end Ev
end Go.Proofs.YtflhmoelenmomaaGreatDoor
