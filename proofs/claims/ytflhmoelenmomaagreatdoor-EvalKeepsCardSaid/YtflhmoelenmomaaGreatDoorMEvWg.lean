/-
  The reference's dep.
-/
import Derived.Test.YtflhmoelenmomaaGreatDoorMEvRF
import Derived.Test.YtflhmoelenmomaaGreatDoorMSgQW
namespace Go.Proofs.YtflhmoelenmomaaGreatDoor
open Go.RowKit Go.Lib
namespace Ev
open Rc

/-- what the reference's dep answers -/
def DA (W : World) (q : Except Int Dp) (e : Ending) (W' : World) : Prop := Below W.heap.size W W' ∧ match q with
  | .error k => e = .returned (.tuple #[.agg #[.string ⟨#[]⟩, .slice none 0 0], .int .i64 k])
  | .ok d => ∃ ra rn rc, e = .returned (.tuple #[.agg #[.string d.name, .slice ra rn rc], .int .i64 0]) ∧ Sg.GO W' W.heap.size (.slice ra rn rc) d.rng
theorem rdep_results {tmps : Array Value} {X : World} {g : Nat} {u0 u1 z : Value} (t2 : tmps[2]? = some (.pointer (some ⟨g, 0, none⟩))) (t3 : tmps[3]? = some z) (c0 : X.cell? ⟨g, 0, none⟩ = some u0) (c1 : X.cell? ⟨g, 1, none⟩ = some u1) :
    (results Tryz.f34 tmps).run Tryz.prog X = .ok (.tuple #[.agg #[u0, u1], z]) X := by
  simp [results, Tryz.results34, go_sem, t2, t3, c0, c1]
/-- two cells written anew -/
def put2 (w : World) (g : Nat) (v0 v1 : Value) : World := (w.setCell ⟨g, 0, none⟩ v0).setCell ⟨g, 1, none⟩ v1
theorem put2_same {w : World} {g : Nat} {u0 u1 : Value} {T : TypeId} (v0 v1 : Value) (h : w.heap[g]? = some (.cells #[u0, u1] T (0, 0))) : (put2 w g v0 v1).heap[g]? = some (.cells #[v0, v1] T (0, 0)) := by
  have h0 := heap_setCell_same w g 0 _ T v0 h
  simp only [List.setIfInBounds_toArray, List.set_cons_zero] at h0
  have h1 := heap_setCell_same _ g 1 _ T v1 h0
  simp only [List.setIfInBounds_toArray, List.set_cons_succ, List.set_cons_zero] at h1
  exact h1
theorem put2_old {w : World} {g b : Nat} (v0 v1 : Value) (h : b ≠ g) : (put2 w g v0 v1).heap[b]? = w.heap[b]? := by
  unfold put2
  rw [Below.heap_setCell _ _ _ _ h, Below.heap_setCell _ _ _ _ h]
theorem put2_size (w : World) (g : Nat) (v0 v1 : Value) : (put2 w g v0 v1).heap.size = w.heap.size := by simp [put2]
theorem put2_below {B : Nat} {W w : World} (h : Below B W w) {g : Nat} (hg : B ≤ g) (v0 v1 : Value) : Below B W (put2 w g v0 v1) := (h.setCell (p := ⟨g, 0, none⟩) hg _).setCell (p := ⟨g, 1, none⟩) hg _
/-- the reference's dep: its blocks -/
structure GW (W w : World) (cs : Array Value) : Prop where
  below : Below W.heap.size W w
  bx : w.heap[W.heap.size]? = some (.cells cs 35 (0, 0))
  b0 : w.heap[W.heap.size + 1]? = some (.cells #[.string ⟨#[]⟩, .slice none 0 0] 42 (0, 0))
  sz : W.heap.size + 2 ≤ w.heap.size
theorem GW.start (W : World) (cs : Array Value) : GW W ((W.alloc (.cells cs 35)).alloc (.cells #[.string ⟨#[]⟩, .slice none 0 0] 42)) cs :=
  ⟨((Below.refl _ _).alloc (Nat.le_refl _) _).alloc (by simp) _, (heap_alloc_old _ _ (by simp)).trans (heap_alloc_new W _), by
    have := heap_alloc_new (W.alloc (.cells cs 35)) (.cells #[.string ⟨#[]⟩, .slice none 0 0] 42)
    simpa using this, by simp⟩
theorem GW.keep {W w w' : World} {cs : Array Value} (h : GW W w cs) (hb : Below w.heap.size w w') : GW W w' cs := by
  have := h.sz
  exact ⟨h.below.trans (hb.mono h.below.size), (hb.block _ (by omega)).trans h.bx, (hb.block _ (by omega)).trans h.b0, Nat.le_trans h.sz hb.size⟩
theorem rdep_bad {W w : World} {cs : Array Value} (h : GW W w cs) {q : Except Int Dp} {k : Int} (hq : q = .error k) (tmps : Array Value) (h2 : tmps[2]? = some (.pointer (some ⟨W.heap.size + 1, 0, none⟩))) (h3 : tmps[3]? = some (.int .i64 k)) :
    bodyPost Tryz.prog Tryz.f34 (fun e W' => DA W q e W') .ret { tmps := tmps, defers := [] } (put2 w (W.heap.size + 1) (.string ⟨#[]⟩) (.slice none 0 0)) := by
  have hs := put2_same (.string ⟨#[]⟩) (.slice none 0 0) h.b0
  refine bodyPost_ret (rdep_results h2 h3 (obj2 hs).1 (obj2 hs).2) rfl ?_
  refine ⟨put2_below h.below (Nat.le_succ _) _ _, ?_⟩
  rw [hq]
theorem rdep_bad0 {W w : World} {cs : Array Value} (h : GW W w cs) {q : Except Int Dp} {k : Int} (hq : q = .error k) (tmps : Array Value) (h2 : tmps[2]? = some (.pointer (some ⟨W.heap.size + 1, 0, none⟩))) (h3 : tmps[3]? = some (.int .i64 k)) :
    bodyPost Tryz.prog Tryz.f34 (fun e W' => DA W q e W') .ret { tmps := tmps, defers := [] } w := by
  refine bodyPost_ret (rdep_results h2 h3 (obj2 h.b0).1 (obj2 h.b0).2) rfl ?_
  refine ⟨h.below, ?_⟩
  rw [hq]
set_option maxHeartbeats 4000000 in
set_option maxRecDepth 100000 in
theorem rdep_any {t : Int × E × E} (hx1 : Sml t.2.1) (hw1 : sizeW t.2.1 ≤ 20000) (hx2 : Sml t.2.2) (hw2 : sizeW t.2.2 ≤ 20000) (W : World) (S : Nat → Prop) (hS : ∀ b, S b → b < W.heap.size) (k3 : Int) (σ3 : ByteArray) (sl3 : Option Addr) (n3 c3 : Nat) (k4 : Int) (σ4 : ByteArray) (sl4 : Option Addr) (n4 c4 : Nat)
    (hr1 : RepX W S t.2.1 (.agg #[.int .i64 k3, .string σ3, .slice sl3 n3 c3])) (hr2 : RepX W S t.2.2 (.agg #[.int .i64 k4, .string σ4, .slice sl4 n4 c4])) :
    Calls Tryz.prog 34 #[.agg #[.int .i64 t.1, .int .i64 k3, .string σ3, .slice sl3 n3 c3, .int .i64 k4, .string σ4, .slice sl4 n4 c4]] W fun e W' => DA W (depP t) e W' := by
  have HN := Lib.hid (fun (w : World) (hb : Below W.heap.size W w) => word_any hx1 hw1 w S _ (fun k hk => Nat.lt_of_lt_of_le (hS k hk) hb.size) (hr1.move fun k hk => ⟨hk, hb.block k (hS k hk)⟩))
  have HT := Lib.hid (fun (w : World) (hb : Below W.heap.size W w) => reval_any hx2 hw2 w S _ (fun k hk => Nat.lt_of_lt_of_le (hS k hk) hb.size) (hr2.move fun k hk => ⟨hk, hb.block k (hS k hk)⟩))
  have hg0 := GW.start W #[.int .i64 t.1, .int .i64 k3, .string σ3, .slice sl3 n3 c3, .int .i64 k4, .string σ4, .slice sl4 n4 c4]
  have HG := Lib.hid hg0
  clear hx1 hw1 hx2 hw2 hS hr1 hr2 hg0
  by_cases hk1 : t.1 < 1
  · have HP := Lib.hid (show depP t = .error 1 by unfold depP; rw [if_neg (by omega)])
    go_enter Tryz.func34, Tryz.ntmps34
    go_wp2_with fail
    refine rdep_bad0 HG.out HP.out _ ?_ ?_ <;> rfl
  by_cases hk3 : 3 < t.1
  · have HP := Lib.hid (show depP t = .error 1 by unfold depP; rw [if_neg (by omega)])
    go_enter Tryz.func34, Tryz.ntmps34
    go_wp2_with fail
    refine rdep_bad0 HG.out HP.out _ ?_ ?_ <;> rfl
  have HK := Lib.hid (show 1 ≤ t.1 ∧ t.1 ≤ 3 by omega)
  cases hn : nameP t.2.1 with
  | error e9 =>
    have HP := Lib.hid (show depP t = .error e9 by unfold depP; rw [if_pos HK.out, hn])
    have he9 : (e9 == 0) = false := beq_eq_false_iff_ne.2 (name_er hn)
    rw [hn] at HN
    simp only [wordV] at HN
    clear hn
    go_enter Tryz.func34, Tryz.ntmps34
    go_wp2_with (first
      | (go_at_call 32; with_reducible refine (HN.out _ HG.out.below).mono ?_; rintro e w1 ⟨he, hb1⟩; subst he; have hg1 := HG.out.keep hb1; obtain ⟨b0, b1⟩ := obj2 hg1.b0; have bf := frz hg1.b0))
    refine rdep_bad hg1 HP.out _ ?_ ?_ <;> rfl
  | ok s =>
  rw [hn] at HN
  simp only [wordV] at HN
  unfold evalV at HT
  have hev : textP t.2.2 = if (evalP t.2.2).2.2 = 0 then .ok (evalP t.2.2).1 else .error (evalP t.2.2).2.2 := rfl
  have hbd := (eval_bounds t.2.2).2
  generalize evalP t.2.2 = p at *
  obtain ⟨tx, j, k⟩ := p
  simp only at hev hbd HT
  by_cases hk : k = 0
  rotate_left
  · have HP := Lib.hid (show depP t = .error k by unfold depP; rw [if_pos HK.out, hn]; dsimp only; rw [hev, if_neg hk])
    have he9 : (k == 0) = false := beq_eq_false_iff_ne.2 hk
    clear hn hev hk
    go_enter Tryz.func34, Tryz.ntmps34
    go_wp2_with (first
      | (go_at_call 32; with_reducible refine (HN.out _ HG.out.below).mono ?_; rintro e w1 ⟨he, hb1⟩; subst he; have hg1 := HG.out.keep hb1; obtain ⟨a0, a1, a2, a3, a4, a5, a6⟩ := obj7 hg1.bx)
      | (go_at_call 13; with_reducible refine (HT.out _ hg1.below).mono ?_; rintro e w2 ⟨he, hb2⟩; subst he; have hg2 := hg1.keep hb2; obtain ⟨b0, b1⟩ := obj2 hg2.b0; have bf := frz hg2.b0))
    refine rdep_bad hg2 HP.out _ ?_ ?_ <;> rfl
  subst hk
  rw [if_pos rfl] at hev
  have HRf := Lib.hid (fun (w : World) => (Sg.qparse_any tx w (by omega)).mono fun e W' h => (show RQ w.heap.size (rngP tx.data.toList) e W' ∧ Below w.heap.size w W' from ⟨rq_of h.1, h.2⟩))
  cases hrg : rngP tx.data.toList with
  | error e9 =>
    have HP := Lib.hid (show depP t = .error e9 by unfold depP; rw [if_pos HK.out, hn]; dsimp only; rw [hev]; dsimp only; rw [hrg])
    have he9 : (e9 == 0) = false := beq_eq_false_iff_ne.2 (rng_er hrg)
    rw [hrg] at HRf
    simp only [RQ] at HRf
    clear hn hev hrg hbd
    go_enter Tryz.func34, Tryz.ntmps34
    go_wp2_with (first
      | (go_at_call 32; with_reducible refine (HN.out _ HG.out.below).mono ?_; rintro e w1 ⟨he, hb1⟩; subst he; have hg1 := HG.out.keep hb1; obtain ⟨a0, a1, a2, a3, a4, a5, a6⟩ := obj7 hg1.bx)
      | (go_at_call 13; with_reducible refine (HT.out _ hg1.below).mono ?_; rintro e w2 ⟨he, hb2⟩; subst he; have hg2 := hg1.keep hb2)
      | (go_at_call 58; with_reducible refine (HRf.out _).mono ?_; rintro e w3 ⟨he, hb3⟩; subst he; have hg3 := hg2.keep hb3; obtain ⟨b0, b1⟩ := obj2 hg3.b0; have bf := frz hg3.b0))
    refine rdep_bad hg3 HP.out _ ?_ ?_ <;> rfl
  | ok rg =>
    have HP := Lib.hid (show depP t = .ok ⟨s, rg⟩ by unfold depP; rw [if_pos HK.out, hn]; dsimp only; rw [hev]; dsimp only; rw [hrg])
    rw [hrg] at HRf
    simp only [RQ] at HRf
    clear hn hev hrg hbd
    go_enter Tryz.func34, Tryz.ntmps34
    go_wp2_with (first
      | (go_at_call 32; with_reducible refine (HN.out _ HG.out.below).mono ?_; rintro e w1 ⟨he, hb1⟩; subst he; have hg1 := HG.out.keep hb1; obtain ⟨a0, a1, a2, a3, a4, a5, a6⟩ := obj7 hg1.bx)
      | (go_at_call 13; with_reducible refine (HT.out _ hg1.below).mono ?_; rintro e w2 ⟨he, hb2⟩; subst he; have hg2 := hg1.keep hb2)
      | (go_at_call 58; with_reducible refine (HRf.out _).mono ?_; rintro e w3 ⟨⟨v3, he, hgo⟩, hb3⟩; obtain ⟨ga, gn, gc, hv3⟩ := go_form hgo; subst hv3; subst he; have hg3 := hg2.keep hb3; obtain ⟨b0, b1⟩ := obj2 hg3.b0; have bf := frz hg3.b0; have HGO := Lib.hid hgo; clear hgo))
    change bodyPost _ _ _ _ _ (put2 w3 (W.heap.size + 1) (.string s) (.slice ga gn gc))
    have hs := put2_same (.string s) (.slice ga gn gc) hg3.b0
    refine bodyPost_ret (rdep_results rfl rfl (obj2 hs).1 (obj2 hs).2) rfl ?_
    refine ⟨put2_below hg3.below (Nat.le_succ _) _ _, ?_⟩
    rw [HP.out]
    refine ⟨ga, gn, gc, rfl, GO.mono (GO.same HGO.out fun j h1 h2 => put2_old _ _ ?_) hg2.below.size⟩
    have := hg2.sz
    omega
end Ev
end Go.Proofs.YtflhmoelenmomaaGreatDoor
