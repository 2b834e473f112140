/-
  The machine: begin.
-/
import Derived.Test.YtflhmoelenmomaaGreatDoorMEvD
import Derived.Test.YtflhmoelenmomaaGreatDoorMRcP
namespace Go.Proofs.YtflhmoelenmomaaGreatDoor
open Go.RowKit Go.Lib
namespace Kp
open Classical in
/-- a world that is as w in the blocks K -/
noncomputable def kp (w : World) (K : Nat → Prop) (Y : World) : World := if ∀ k, K k → Y.heap[k]? = w.heap[k]? then Y else w
theorem blk (w : World) (K : Nat → Prop) (Y : World) {k : Nat} (h : K k) : (kp w K Y).heap[k]? = w.heap[k]? := by
  unfold kp
  split
  · rename_i g; exact g k h
  · rfl
theorem of {w w' : World} {K : Nat → Prop} (h : ∀ k, K k → w'.heap[k]? = w.heap[k]?) : ∃ Y, w' = kp w K Y := ⟨w', by unfold kp; rw [if_pos h]⟩
theorem cell {w : World} {K : Nat → Prop} {a : Addr} {v : Value} (hk : K a.block) (h : w.cell? a = some v) (Y : World) : (kp w K Y).cell? a = some v := (World.cell?_of_block (blk w K Y hk)).trans h
theorem frozen {w : World} {K : Nat → Prop} {a : Addr} {v : Bool} (hk : K a.block) (h : w.frozen? a = v) (Y : World) : (kp w K Y).frozen? a = v := (World.frozen?_of_block (blk w K Y hk)).trans h
end Kp
namespace Ev
open Rc

theorem info_frame : (Tryz.prog.info? 87).map (fun i => (i.zero, i.size, i.bytes)) = some (some (.agg #[.int .i64 0, .string ⟨#[]⟩, .slice none 0 0, .slice none 0 0, .pointer none]), 5, 80) := by kernel_rfl
theorem info_string : (Tryz.prog.info? 9).map (fun i => (i.zero, i.size, i.bytes)) = some (some (.string ⟨#[]⟩), 1, 16) := by kernel_rfl
theorem info_ps {t : TypeId} {z : Option Value} {s b : Nat} (h : (Tryz.prog.info? t).map (fun i => (i.zero, i.size, i.bytes)) = some (z, s, b)) : ∃ i, Tryz.prog.info? t = some i ∧ i.zero = z ∧ i.size = s ∧ i.bytes = b := by
  cases hi : Tryz.prog.info? t with
  | none => rw [hi] at h; cases h
  | some i =>
    rw [hi] at h
    simp only [Option.map_some, Option.some.injEq, Prod.mk.injEq] at h
    exact ⟨i, rfl, h.1, h.2.1, h.2.2⟩
theorem frame_one (q : FV) : ∀ u ∈ q.cells, u.oneCell' = true := by
  intro u hu
  simp only [FV.cells, List.mem_cons, List.not_mem_nil, or_false] at hu
  rcases hu with rfl | rfl | rfl | rfl | rfl <;> rfl
set_option maxHeartbeats 2000000 in
set_option maxRecDepth 100000 in
theorem begin_room {W0 W : World} {S : Nat → Prop} {b n : Nat} {sv : Value} {qs : List FV} {st : List Fr} (h : MI W0 W S b sv qs st n 0) (hn : n < 1000) (hl : st.length ≤ 1000) (hS : ∀ k, S k → k < W0.heap.size) (kd : Int) (s : ByteArray) (sl : Option Addr) (m cap : Nat) (sp : Option Addr) (x : E) (l : Sees) (hx : RepX W S x (.agg #[.int .i64 kd, .string s, .slice sl m cap])) (hL : Lk W (.pointer sp) l) :
    Calls Tryz.prog 21 #[.pointer (some ⟨b, 0, none⟩), .agg #[.int .i64 kd, .string s, .slice sl m cap], .pointer sp] W fun e W' => e = .returned (.tuple #[]) ∧ ∃ sv' qs', MI W0 W' S b sv' qs' (⟨x, [], l⟩ :: st) (n + 1) 0 := by
  obtain ⟨i0, hi0, hz0, hz1, hz2⟩ := info_ps info_frame
  have hlo := h.lo
  have hbl : b < W.heap.size := h.lt
  have hbn : ¬ b = W.heap.size := by omega
  have hs0 := h.below.size
  -- the turn is counted
  have hobj1 : (W.setCell ⟨b, 1, none⟩ (.int .i64 ((n : Int) + 1))).heap[b]? = some (.cells #[sv, .int .i64 ((n + 1 : Nat) : Int), .int .i64 0] 62 (0, 0)) := heap_setCell_same _ b 1 _ _ _ h.obj
  have hkk : ∀ k, k ≠ b → (W.setCell ⟨b, 1, none⟩ (.int .i64 ((n : Int) + 1))).heap[k]? = W.heap[k]? := fun k hk => Below.heap_setCell _ _ _ _ hk
  have h1 := h.own (n' := n + 1) (flt' := 0) hS hobj1 hkk (by simp) (h.below.setCell (p := ⟨b, 1, none⟩) hlo _)
  have hx1 := hx.move (W' := W.setCell ⟨b, 1, none⟩ (.int .i64 ((n : Int) + 1))) (S' := S) fun k hk => ⟨hk, hkk k (by have := hS k hk; omega)⟩
  have hL1 := hL.move (W' := W.setCell ⟨b, 1, none⟩ (.int .i64 ((n : Int) + 1))) fun g cs hg => hkk g fun e => by
    subst e
    rw [h.obj] at hg
    cases hg
  have hsz1 : (W.setCell ⟨b, 1, none⟩ (.int .i64 ((n : Int) + 1))).heap.size = W.heap.size := by simp
  have hbW := (Below.refl W.heap.size (W.setCell ⟨b, 1, none⟩ (.int .i64 ((n : Int) + 1)))).alloc (Nat.le_of_eq hsz1.symm) (.cells #[.int .i64 kd, .string s, .slice sl m cap] 24)
  have hX2 := heap_alloc_new (W.setCell ⟨b, 1, none⟩ (.int .i64 ((n : Int) + 1))) (.cells #[.int .i64 kd, .string s, .slice sl m cap] 24)
  rw [hsz1] at hX2
  have h2 := h1.keep hS (by rw [hsz1]; exact hbW)
  have hx2 := hx1.move (W' := (W.setCell ⟨b, 1, none⟩ (.int .i64 ((n : Int) + 1))).alloc (.cells #[.int .i64 kd, .string s, .slice sl m cap] 24)) (S' := S) fun k hk => ⟨hk, hbW.block k (by have := hS k hk; omega)⟩
  have hL2 := hL1.keep (by rw [hsz1]; exact hbW)
  have hq2 : FO ((W.setCell ⟨b, 1, none⟩ (.int .i64 ((n : Int) + 1))).alloc (.cells #[.int .i64 kd, .string s, .slice sl m cap] 24)) S (b + 1) ⟨kd, s, sl, m, cap, none, 0, 0, sp⟩ ⟨x, [], l⟩ := ⟨hx2, World.ownsRow_nil _ _ _ _, hL2⟩
  have hsz : ((W.setCell ⟨b, 1, none⟩ (.int .i64 ((n : Int) + 1))).alloc (.cells #[.int .i64 kd, .string s, .slice sl m cap] 24)).heap.size = W.heap.size + 1 := by simp
  have i1 : ((n : Int) == 1000) = false := beq_eq_false_iff_ne.2 (by omega)
  obtain ⟨c0, c1, c2, f0, f1, f2⟩ := obj3 h.obj
  have H2 := Lib.hid h2
  have HQ := Lib.hid hq2
  have HX := Lib.hid hX2
  have HS := Lib.hid hS
  have hlq : qs.length ≤ 1000 := by rw [h.len]; exact hl
  obtain ⟨sa, sn, sc, rfl⟩ : ∃ sa sn sc, sv = .slice sa sn sc := by
    rcases h.row.2 with ⟨rfl, _⟩ | ⟨g, cap, cur, rfl, _⟩ <;> exact ⟨_, _, _, rfl⟩
  clear h h1 h2 hS hx hL hx1 hL1 hx2 hL2 hq2 hX2 hbW hobj1 hkk
  go_enter Tryz.func21, Tryz.ntmps21
  go_wp2_with fail
  clear c0 c1 c2 f0 f1 f2
  have h2 := H2.out
  have hq2 := HQ.out
  have hX2 := HX.out
  clear H2 HQ HX
  generalize (W.setCell ⟨b, 1, none⟩ (.int .i64 ((n : Int) + 1))).alloc (.cells #[.int .i64 kd, .string s, .slice sl m cap] 24) = w1 at *
  obtain ⟨c0, c1, c2, f0, f1, f2⟩ := obj3 h2.obj
  obtain ⟨x0, x1, x2, y0, y1, y2⟩ := obj3 hX2
  generalize W.heap.size = g at *
  have kb : (fun k => k = b ∨ k = g) b := .inl rfl
  have kg : (fun k => k = b ∨ k = g) g := .inr rfl
  have e0 := Kp.cell (w := w1) (K := fun k => k = b ∨ k = g) (a := ⟨b, 0, none⟩) kb c0
  have e1 := Kp.cell (w := w1) (K := fun k => k = b ∨ k = g) (a := ⟨g, 0, none⟩) kg x0
  have e2 := Kp.cell (w := w1) (K := fun k => k = b ∨ k = g) (a := ⟨g, 1, none⟩) kg x1
  have e3 := Kp.cell (w := w1) (K := fun k => k = b ∨ k = g) (a := ⟨g, 2, none⟩) kg x2
  have H2 := Lib.hid h2
  have HQ := Lib.hid hq2
  clear h2 hq2
  refine Mix.region (fun w' => ∃ Y, w' = Kp.kp w1 (fun k => k = b ∨ k = g) Y) 10 [0, 0, 0, 0, 0, 0, 0, 1, 1, 1, 9, 9, 9] [true, false] (by kernel_rfl) (fun _ _ d _ _ h => by cases d <;> exact h) (by rfl) (by kernel_rfl) (Kp.of fun _ _ => rfl) ?_
  simp only [Mix.selP_cons, Mix.selP_nil, Mix.sel_cons, Mix.sel_nil, Nat.reduceBEq, Nat.reduceAdd, cond_true, cond_false, List.drop_succ_cons, List.drop_zero]
  refine Mix.parts_q ?_
  repeat (go_big_quiet_step (fail))
  refine wpQuiet_nil ?_
  refine Mix.parts_e ?_
  refine Mix.eff_step (fun K hK => ?_)
  go_simp
  refine hK _ _ (Kp.of fun _ _ => rfl) ?_
  clear hK K
  refine Mix.eff_step (fun K hK => ?_)
  go_simp
  refine hK _ _ (Kp.of fun k hk => heap_alloc_old w1 _ (by rcases hk with rfl | rfl <;> omega)) ?_
  clear hK K
  have hA := ((Below.refl w1.heap.size w1).alloc (Nat.le_refl _) (.cells #[.int .i64 kd, .string s, .slice sl m cap, .slice none 0 0, .pointer sp] 87)).drew
  have hN : ((w1.alloc (.cells #[.int .i64 kd, .string s, .slice sl m cap, .slice none 0 0, .pointer sp] 87)).drew).heap[g + 1]? = some (.cells #[.int .i64 kd, .string s, .slice sl m cap, .slice none 0 0, .pointer sp] 87) := by rw [← hsz]; exact heap_alloc_new w1 _
  have hs3 : ((w1.alloc (.cells #[.int .i64 kd, .string s, .slice sl m cap, .slice none 0 0, .pointer sp] 87)).drew).heap.size = g + 2 := by simp [hsz]
  change Mix.eff _ _ _ _ _ _ _ ((w1.alloc (.cells #[.int .i64 kd, .string s, .slice sl m cap, .slice none 0 0, .pointer sp] 87)).drew)
  have h3 := H2.out.keep HS.out hA
  have hq3 := HQ.out.step (W' := (w1.alloc (.cells #[.int .i64 kd, .string s, .slice sl m cap, .slice none 0 0, .pointer sp] 87)).drew) (fun k hk => hA.block k (by have := HS.out k hk; omega)) (fun g cs hg => hA.block g (Array.getElem?_eq_some_iff.1 hg).1) (fun g hg => by cases hg)
  generalize (w1.alloc (.cells #[.int .i64 kd, .string s, .slice sl m cap, .slice none 0 0, .pointer sp] 87)).drew = w2 at *
  refine Mix.eff_step (fun K hK => ?_)
  refine step_append_lies _ rfl _ _ 60 rfl (b + 1) 87 i0 _ 5 80 Tryz.underlying60 hi0 hz0 hz1 hz2 rfl (by decide) (.slice sa sn sc) qs.length _ rfl h3.row ⟨g + 1, 0, none⟩ 1 1 (FV.cells ⟨kd, s, sl, m, cap, none, 0, 0, sp⟩) rfl rfl ?d1 (frame_one _) (by decide) ?d3 ?d4 ?d5 (g + 2) hs3 ?_
  case d1 => exact World.news_of_block hN
  case d3 => unfold maxLen; omega
  case d4 => omega
  case d5 => omega
  intro G c w10 hown2 hgr hat hlt2
  have hP := h3.push HS.out hgr hown2 (by rw [hs3]; exact hat) hq3 rfl
  have hsvb : ∀ k, k = b ∨ k = g → some k ≠ (Value.slice sa sn sc).ownBlock := fun k hk e => by
    obtain ⟨h5, h6⟩ := h3.svb e.symm
    rcases hk with rfl | rfl
    · omega
    · obtain ⟨cs, h7⟩ := own_type h3.row e.symm
      rw [hA.block k (by omega), hX2] at h7
      cases h7
  have hob3 : w10.heap[b]? = w1.heap[b]? := (hgr.block b (by omega) (hsvb b (.inl rfl))).trans (hA.block b (by omega))
  refine hK _ _ (Kp.of fun k hk => (hgr.block k (by rcases hk with rfl | rfl <;> omega) (hsvb k hk)).trans (hA.block k (by rcases hk with rfl | rfl <;> omega))) ?_
  clear hK K
  obtain ⟨a0, a1, a2, b0, b1, b2⟩ := obj3 (hob3.trans H2.out.obj)
  have HP := Lib.hid hP
  clear hP h3 hq3 hown2 hgr hat hlt2 hA hN hsvb hob3
  refine Mix.eff_nil (Mix.parts_n ?_)
  go_wp2_with fail
  go_end0
  exact ⟨rfl, _, _, HP.out⟩
end Ev
end Go.Proofs.YtflhmoelenmomaaGreatDoor

/-
  A region that draws its order, where two operations may be free at once: a plan is a tree of the orders that matter.
-/
namespace Go.Proofs.YtflhmoelenmomaaGreatDoor
open Go.RowKit
namespace Mix

inductive Plan
  | done
  | q (is : List Nat) (p : Plan)
  | one (i : Nat) (p : Plan)
  | two (i : Nat) (p : Plan) (j : Nat) (r : Plan)
def Plan.size : Plan → Nat
  | .done => 0
  | .q is p => is.length + p.size
  | .one _ p => p.size + 1
  | .two _ p _ _ => p.size + 1
def okPlan (md : Region.Mode) (ops : Array Oper) (n : Nat) : Plan → Array Bool → Bool
  | .done, listed => Region.seqB md ops (ops.size - n) n listed
  | .q is p, listed => okIs md ops n true is listed && okPlan md ops n p (setIs is listed)
  | .one i p, listed => decide (i < n) && decide (Region.ready md ops listed = [i]) && okPlan md ops n p (listed.setIfInBounds i true)
  | .two i p j r, listed => decide (i < n) && decide (j < n) && (decide (Region.ready md ops listed = [i, j]) || decide (Region.ready md ops listed = [j, i])) && decide (r.size = p.size) &&
      okPlan md ops n p (listed.setIfInBounds i true) && okPlan md ops n r (listed.setIfInBounds j true)
def nth : List Oper → Nat → Option Oper
  | [], _ => none
  | o :: _, 0 => some o
  | _ :: l, k + 1 => nth l k
theorem nth_get : ∀ (l : List Oper) (i : Nat), nth l i = l[i]?
  | [], i => by simp [nth]
  | o :: l, 0 => by simp [nth]
  | o :: l, k + 1 => by simp [nth, nth_get l k]
def pick (l : List Oper) : List Nat → List Oper
  | [] => []
  | i :: is => match nth l i with
    | some o => o :: pick l is
    | none => pick l is
theorem pick_map (l : List Oper) : ∀ (is : List Nat), (∀ i ∈ is, i < l.length) → is.map (fun i => l.toArray[i]?) = (pick l is).map some
  | [], _ => rfl
  | i :: is, h => by
    have hi := h i (by simp)
    have ho : nth l i = some l[i] := by rw [nth_get, List.getElem?_eq_getElem hi]
    have ih := pick_map l is fun j hj => h j (by simp [hj])
    simp only [List.map_cons, pick, ho, List.cons.injEq]
    exact ⟨by simp [hi], ih⟩
theorem okIs_lt {md : Region.Mode} {ops : Array Oper} {n : Nat} {b : Bool} : ∀ (is : List Nat) (listed : Array Bool), okIs md ops n b is listed = true → ∀ i ∈ is, i < n
  | [], _, _, i, hi => by simp at hi
  | j :: is, listed, h, i, hi => by
    simp only [okIs, Bool.and_eq_true, decide_eq_true_eq] at h
    rcases List.mem_cons.1 hi with rfl | hi
    · exact h.1.1
    · exact okIs_lt is _ h.2 i hi
def planP (P : Program) (l : List Oper) (Q : Exit → Act → World → Prop) (C : World → Prop) (R : Act → World → Prop) : Plan → Act → World → Prop
  | .done, a, w => R a w
  | .q is p, a, w => wpQuiet P l.toArray C (fun a' => planP P l Q C R p a' w) (pick l is) a
  | .one i p, a, w => ∀ o, nth l i = some o → if Region.wanted o (yielded l.toArray a.tmps) then o.wp P a w (fun a' w' => C w' ∧ planP P l Q C R p a' w') Q else planP P l Q C R p (a.put o.dst undef) w
  | .two i p j r, a, w => (∀ o, nth l i = some o → if Region.wanted o (yielded l.toArray a.tmps) then o.wp P a w (fun a' w' => C w' ∧ planP P l Q C R p a' w') Q else planP P l Q C R p (a.put o.dst undef) w) ∧
      (∀ o, nth l j = some o → if Region.wanted o (yielded l.toArray a.tmps) then o.wp P a w (fun a' w' => C w' ∧ planP P l Q C R r a' w') Q else planP P l Q C R r (a.put o.dst undef) w)
section
variable {P : Program} {l : List Oper} {Q : Exit → Act → World → Prop} {C : World → Prop}
theorem step_op {i : Nat} {a : Act} {w : World} {K K' : Act → World → Prop} (hi : i < l.length) (hc : C w) (hK : ∀ a' w', C w' → K a' w' → K' a' w')
    (h : ∀ o, nth l i = some o → if Region.wanted o (yielded l.toArray a.tmps) then o.wp P a w (fun a' w' => C w' ∧ K a' w') Q else K (a.put o.dst undef) w) : wpOp P l.toArray Q i (fun a' w' => C w' ∧ K' a' w') a w := by
  have h := h l[i] (by rw [nth_get, List.getElem?_eq_getElem hi])
  unfold wpOp
  have ho : l.toArray[i]? = some l[i] := by simp [hi]
  simp only [ho]
  split at h
  · rename_i hw
    rw [if_pos hw]
    exact .inl (Oper.wp_mono (fun a' w' h' => ⟨h'.1, hK _ _ h'.1 h'.2⟩) h)
  · rename_i hw
    rw [if_neg hw]
    exact ⟨hc, hK _ _ hc h⟩
theorem plan_any {md : Region.Mode} {n : Nat} {L : Array Bool → Act → World → Prop} {R : Act → World → Prop} (hn : n ≤ l.length)
    (hQ : ∀ (i : Nat) (o : Oper), l.toArray[i]? = some o → ∀ c a v w, Q (.panic c) (Act.put a o.dst v) w → Q (.panic c) a w) (ht : ∀ listed, HeadInv md l.toArray n listed → ∀ i, i < n → listed.getD i true = false → ∀ t, n ≤ t → t ∉ Region.ready md l.toArray listed)
    (hdone : ∀ listed a w, L listed a w → ∀ j ∈ Region.ready md l.toArray listed, n ≤ j) (hsel : Region.noSelect l.toArray = true)
    (hend : ∀ listed a w, C w → Region.seqB md l.toArray (l.toArray.size - n) n listed = true → R a w → L listed a w) :
    ∀ (p : Plan) (listed : Array Bool) (a : Act) (w : World), C w → HeadInv md l.toArray n listed → okPlan md l.toArray n p listed = true → planP P l Q C R p a w → anyL P md l.toArray Q C n L p.size listed a w
  | .done, listed, a, w, hc, _, hB, h => hend _ _ _ hc (by simpa [okPlan] using hB) h
  | .q is p, listed, a, w, hc, inv, hB, h => by
    simp only [okPlan, Bool.and_eq_true] at hB
    exact q_any hQ ht hdone hsel hc is (pick l is) listed a inv (pick_map l is fun i hi => Nat.lt_of_lt_of_le (okIs_lt is _ hB.1 i hi) hn) hB.1 (fun a' inv' h' => plan_any hn hQ ht hdone hsel hend p _ a' w hc inv' hB.2 h') h
  | .one i p, listed, a, w, hc, inv, hB, h => by
    simp only [okPlan, Bool.and_eq_true, decide_eq_true_eq] at hB
    obtain ⟨⟨hin, hr⟩, hB⟩ := hB
    show anyL P md l.toArray Q C n L (p.size + 1) listed a w
    refine ⟨fun h0 => (by rw [hr] at h0; cases h0), fun j hj => ?_⟩
    have hj' := hj
    rw [hr] at hj
    obtain rfl : j = i := by simpa using hj
    exact ⟨hin, step_op (Nat.lt_of_lt_of_le hin hn) hc (fun a' w' hc' h' => plan_any hn hQ ht hdone hsel hend p _ a' w' hc' (inv.set hj' hin) hB h') h⟩
  | .two i p j r, listed, a, w, hc, inv, hB, h => by
    simp only [okPlan, Bool.and_eq_true, Bool.or_eq_true, decide_eq_true_eq] at hB
    obtain ⟨⟨⟨⟨⟨hin, hjn⟩, hr⟩, hsz⟩, hB1⟩, hB2⟩ := hB
    show anyL P md l.toArray Q C n L (p.size + 1) listed a w
    refine ⟨fun h0 => (by rcases hr with hr | hr <;> (rw [hr] at h0; cases h0)), fun k hk => ?_⟩
    have hk' := hk
    have hor : k = i ∨ k = j := by
      rcases hr with hr | hr <;> (rw [hr] at hk; simp at hk)
      · exact hk
      · exact hk.symm
    rcases hor with rfl | rfl
    · exact ⟨hin, step_op (Nat.lt_of_lt_of_le hin hn) hc (fun a' w' hc' h' => plan_any hn hQ ht hdone hsel hend p _ a' w' hc' (inv.set hk' hin) hB1 h') h.1⟩
    · refine ⟨hjn, step_op (Nat.lt_of_lt_of_le hjn hn) hc (fun a' w' hc' h' => ?_) h.2⟩
      have := plan_any hn hQ ht hdone hsel hend r _ a' w' hc' (inv.set hk' hjn) hB2 h'
      rw [hsz] at this
      exact this
/-- n: how many operations the plan holds (the others come behind, in one order) -/
theorem plan_region {id : Nat} {a : Act} {w : World} (C : World → Prop) (n : Nat) (p : Plan) (hm : P.follows .mixedOrders = true) (hQ : ∀ c a d v w, Q (.panic c) (Act.put a d v) w → Q (.panic c) a w)
    (hB : (Region.noSelect l.toArray && decide (p.size = n) && decide (n ≤ l.length) && (decide (n = l.length) || (Region.sinkB .any l.toArray n && Region.chainB .any l.toArray n)) && okPlan .any l.toArray n p (Array.replicate l.length false)) = true)
    (hc : C w.drew) (h : planP P l Q C (fun a' w' => wpList P l.toArray Q (l.drop n) a' w') p a w.drew) : (Code.region id l.toArray true).wp P Q a w := by
  simp only [Bool.and_eq_true, Bool.or_eq_true, decide_eq_true_eq] at hB
  obtain ⟨⟨⟨⟨hs, hn⟩, hle⟩, htl⟩, hB⟩ := hB
  have inv0 : HeadInv .any l.toArray n (Array.replicate l.length false) :=
    ⟨by simp, fun j oj _ hl => (by rw [getD_replicate_false] at hl; cases hl), fun t _ ht => getD_in (by simpa using ht) (getD_replicate_false _ _)⟩
  have ht : ∀ listed, HeadInv .any l.toArray n listed → ∀ i, i < n → listed.getD i true = false → ∀ t, n ≤ t → t ∉ Region.ready .any l.toArray listed := by
    rcases htl with rfl | ⟨h1, h2⟩
    · intro listed inv i _ _ t hnt hr
      obtain ⟨_, o, ho, _⟩ := mem_ready.1 hr
      have := (Array.getElem?_eq_some_iff.1 ho).1
      simp at this
      omega
    · intro listed inv i hin hun t hnt hr
      have hlt : n < l.toArray.size := by
        obtain ⟨_, o, ho, _⟩ := mem_ready.1 hr
        have := (Array.getElem?_eq_some_iff.1 ho).1
        omega
      exact tail_waits h1 h2 hlt inv _ i rfl hin hun t hnt hr
  have H := plan_any (md := .any) (L := fun listed a' w' => Region.seqB .any l.toArray (l.toArray.size - n) n listed = true ∧ wpList P l.toArray Q (l.drop n) a' w') hle (fun _ _ _ c a v w h => hQ c a _ v w h) ht (fun listed a w hL => seqB_ready hL.1) hs (fun listed a w _ h1 h2 => ⟨h1, h2⟩) p (Array.replicate l.length false) a w.drew hc inv0 hB h
  refine wp_region_any hm ?_
  have := any_of (Q := Q) (g := l.toArray.size - n) (fun listed a' w' hL => by
    have := wpAny_of_seq (md := .any) (Q' := Q) (l.drop n) n listed a' w' (fun j => by simp [List.getElem?_drop]) (by rw [show (l.drop n).length = l.toArray.size - n by simp]; exact hL.1) hL.2
    rwa [show (l.drop n).length = l.toArray.size - n by simp] at this) _ _ _ _ H
  rw [hn, show n + (l.toArray.size - n) = l.toArray.size by simp; omega] at this
  simpa using this
variable {R : Act → World → Prop}
theorem plan_q {is : List Nat} {qs : List Oper} {p : Plan} {a : Act} {w : World} (hq : pick l is = qs) (h : wpQuiet P l.toArray C (fun a' => planP P l Q C R p a' w) qs a) : planP P l Q C R (.q is p) a w := by
  subst hq; exact h
theorem plan_done {a : Act} {w : World} (h : R a w) : planP P l Q C R .done a w := h
theorem one_of {o : Oper} {i : Nat} {p : Plan} {a : Act} {w : World} (ho : nth l i = some o)
    (h : ∀ K : Act → World → Prop, (∀ a' w', C w' → planP P l Q C R p a' w' → K a' w') → if Region.wanted o (yielded l.toArray a.tmps) then o.wp P a w K Q else K (a.put o.dst undef) w) :
    ∀ o, nth l i = some o → if Region.wanted o (yielded l.toArray a.tmps) then o.wp P a w (fun a' w' => C w' ∧ planP P l Q C R p a' w') Q else planP P l Q C R p (a.put o.dst undef) w := by
  intro o' ho'
  obtain rfl : o = o' := Option.some.inj (ho.symm.trans ho')
  have h' := h (fun a' w' => C w' ∧ planP P l Q C R p a' w') (fun a' w' h1 h2 => ⟨h1, h2⟩)
  split
  · rename_i hw; rw [if_pos hw] at h'; exact h'
  · rename_i hw; rw [if_neg hw] at h'; exact h'.2
theorem plan_one {o : Oper} {i : Nat} {p : Plan} {a : Act} {w : World} (ho : nth l i = some o)
    (h : ∀ K : Act → World → Prop, (∀ a' w', C w' → planP P l Q C R p a' w' → K a' w') → if Region.wanted o (yielded l.toArray a.tmps) then o.wp P a w K Q else K (a.put o.dst undef) w) : planP P l Q C R (.one i p) a w := one_of ho h
theorem plan_two {o o' : Oper} {i j : Nat} {p r : Plan} {a : Act} {w : World} (ho : nth l i = some o) (ho' : nth l j = some o')
    (h : ∀ K : Act → World → Prop, (∀ a' w', C w' → planP P l Q C R p a' w' → K a' w') → if Region.wanted o (yielded l.toArray a.tmps) then o.wp P a w K Q else K (a.put o.dst undef) w)
    (h' : ∀ K : Act → World → Prop, (∀ a' w', C w' → planP P l Q C R r a' w' → K a' w') → if Region.wanted o' (yielded l.toArray a.tmps) then o'.wp P a w K Q else K (a.put o'.dst undef) w) : planP P l Q C R (.two i p j r) a w := ⟨one_of ho h, one_of ho' h'⟩
end
end Mix
end Go.Proofs.YtflhmoelenmomaaGreatDoor

/-
  Walk: the reference's Mean: lets. (printed by gen_EvX.py)
-/
namespace Go.Proofs.YtflhmoelenmomaaGreatDoor
open Go.RowKit Go.Lib
namespace Ev
open Rc

theorem NS.same {W W' : World} {v : Value} {l : Sees} (h : NS W v l) (hs : W.heap.size ≤ W'.heap.size) (hb : ∀ g, v.ownBlock = some g → W'.heap[g]? = W.heap[g]?) : NS W' v l := by
  obtain ⟨sl, cap, rfl, h2, h3, h4⟩ := h.form
  refine ⟨sl, cap, rfl, h2, h3, fun i p hp => ?_⟩
  obtain ⟨b, o, e, hbl, c0, c1⟩ := h4 i p hp
  subst e
  have hg := hb b rfl
  exact ⟨b, o, rfl, Nat.lt_of_lt_of_le hbl hs, (World.cell?_of_block (a := ⟨b, _, none⟩) hg).trans c0, (World.cell?_of_block (a := ⟨b, _, none⟩) hg).trans c1⟩
theorem ns_one (w : World) (g : Nat) (s u : ByteArray) (h : w.heap[g]? = some (.cells #[.string s, .string u] 94 (0, 0))) : NS w (.slice (some ⟨g, 0, none⟩) 1 1) [(s, u)] := by
  refine ⟨some ⟨g, 0, none⟩, 1, rfl, Nat.le_refl _, (fun e => by cases e), fun i p hp => ?_⟩
  have hi : i = 0 := by
    have := (List.getElem?_eq_some_iff.1 hp).1
    simp at this
    omega
  subst hi
  simp at hp
  subst hp
  exact ⟨g, 0, rfl, (Array.getElem?_eq_some_iff.1 h).1, by simp [World.cell?, h], by simp [World.cell?, h]⟩
/-- names put behind a row of one's own -/
theorem step_cat {ops : Array Oper} {o : Oper} {a : Act} {w : World} {K : Act → World → Prop} {Q : Exit → Act → World → Prop} {E : Prop} (hgd : o.guard = none) (so xo : Operand)
    (ho : o.op = .call { callee := .builtin .append, args := #[so, xo], argTypes := #[92, 92] }) (B : Nat) (v : Value) (l0 : List N2) (hs : a.eval so = v) (hown : NO w B v l0) (nv : Value) (l : Sees) (hx : a.eval xo = nv) (hN : NS w nv l) (hl0 : l0.length ≤ 2000) (hl : l.length ≤ 2000) (hB : B ≤ w.heap.size)
    (h : ∀ v' w', NO w' B v' (l0 ++ l.reverse) → w.grownBy w' v.ownBlock → K (a.put o.dst v') w') :
    if Region.wanted o (yielded ops a.tmps) = true then Oper.wp Tryz.prog o a w K Q else E := by
  obtain ⟨i0, hi0, hz0, hz1, hz2⟩ := info_ps info_name
  rw [if_pos (by simp [Region.wanted, hgd])]
  obtain ⟨sl, cap, rfl, hcap, hn, hf⟩ := hN.form
  cases sl with
  | none =>
    have hl0' : l = [] := by
      cases hr : l.reverse with
      | nil => simpa using hr
      | cons p r =>
        obtain ⟨b, o', e, _⟩ := hf 0 p (by rw [hr]; rfl)
        cases e
    subst hl0'
    rw [hn rfl] at hx
    have hrun := run_append_owned_none (P := Tryz.prog) (w := w) B 92 o.type 94 i0 2 Tryz.underlying92 hi0 v l0.length (rowN l0) hown
    unfold Oper.wp
    simp [execOp, ho, resolve, invoke, builtin, hs, hx, hrun, Result.andThen]
    exact h v w (by simpa using hown) ⟨rfl, rfl, rfl, Nat.le_refl _, fun _ _ _ => rfl⟩
  | some ad =>
    refine wp_append_own w so xo 92 ho B 94 i0 _ 2 32 Tryz.underlying92 hi0 hz0 hz1 hz2 rfl (by decide) v l0.length (rowN l0) hs hown ad l.length cap (rowN l.reverse) hx (by rw [rowN_len]; simp) hN.cells (rowN_one _) (by unfold maxLen; omega) (by omega) hB ?_
    intro v' w' h1 h2 _
    refine h v' w' ?_ h2
    unfold NO
    rw [rowN_app, List.length_append, List.length_reverse]
    exact h1
theorem own_lit0 (w : World) (B : Nat) (hB : B ≤ w.heap.size) : NO (w.alloc (.cells #[] 94)) B (.slice (some ⟨w.heap.size, 0, none⟩) 0 0) [] := World.ownsRow_lit (base := B) (e := 94) (size := 2) w #[] 0 hB (by unfold maxLen; omega) rfl
set_option maxHeartbeats 8000000 in
set_option maxRecDepth 100000 in
theorem rmean_let (s : ByteArray) (a b : E) (ha : MH a) (hb : MH b) (hsm : ∀ x ∈ [a, b], ∀ l n t n', mean x l n = .ok t n' → t.size ≤ 256) (W : World) (S : Nat → Prop) (v nv : Value) (l : Sees) (n : Nat) (hS : ∀ b, S b → b < W.heap.size) (hr : RepX W S (.mk 5 s [a, b]) v) (hN : NS W nv l) (hn : n < 1000) (hl : l.length ≤ n) (hls : ∀ p ∈ l, p.2.size ≤ 256) :
    Calls Tryz.prog 24 #[v, nv, .int .i64 n] W fun e W' => e = .returned (ansV (meanLet [a, b] s l (n + 1))) ∧ Below W.heap.size W W' := by
  obtain ⟨bb, o, cap, rfl, hcap, hk⟩ := kids_of hS hr
  have hA := (Below.refl W.heap.size W).alloc (Nat.le_refl _) (.cells #[.int .i64 5, .string s, .slice (some ⟨bb, o, none⟩) 2 cap] 24)
  have i1 : ((n : Int) == 1000) = false := beq_eq_false_iff_ne.2 (by omega)
  have HK := Lib.hid (fun i u hu => hk i u hu)
  have HN := Lib.hid hN
  have HS := Lib.hid hS
  have HM := Lib.hid hsm
  have HL := Lib.hid hls
  obtain ⟨sv, cv, rfl, -, -, -⟩ := hN.form
  obtain ⟨k0, σ0, sl0, m0, cp0, h0⟩ := hk 0 a rfl
  have hq0 := ha (W.alloc (.cells #[.int .i64 5, .string s, .slice (some ⟨bb, o, none⟩) 2 cap] 24)) S _ _ l (n + 1) (fun b hb => Nat.lt_of_lt_of_le (HS.out b hb) hA.size) (h0.keep HS.out hA).rep (HN.out.keep hA) (by omega) (by omega) HL.out
  rw [show ((n + 1 : Nat) : Int) = (n : Int) + 1 by omega] at hq0
  have g0 := (h0.keep HS.out hA).c0
  have g1 := (h0.keep HS.out hA).c1
  have g2 := (h0.keep HS.out hA).c2
  simp only [Nat.zero_mul, Nat.add_zero] at g0 g1 g2
  obtain ⟨p0, p1, p2, f0, f1, f2⟩ := obj3 (heap_alloc_new W (.cells #[.int .i64 5, .string s, .slice (some ⟨bb, o, none⟩) 2 cap] 24))
  unfold MH at hb
  have HB := Lib.hid hb
  have hA2 := Lib.hid hA
  have hln : l.length ≤ 1000 := by omega
  clear hN hS hsm hls hr hk h0 ha hb hA
  have r0 := mean_rg a l (n + 1) (by omega)
  cases hm0 : mean a l (n + 1) with
  | bad n2 e2 =>
    rw [hm0] at hq0 r0
    have he2 : ¬ e2 = 0 := by
      have := mean_er a l (n + 1) n2 e2 hm0
      omega
    have hn2 : n2 ≤ 1000 := r0.2.1
    rw [show meanLet [a, b] s l (n + 1) = .bad n2 e2 by rw [meanLet, hm0]]
    simp only [ansV] at hq0 ⊢
    clear r0 HB HM HK
    go_enter Tryz.func24, Tryz.ntmps24
    go_wp2_with (first
      | (go_at_call 24; with_reducible refine hq0.mono ?_; rintro e W1 ⟨rfl, hB1⟩; have hB2 := hA2.out.trans (hB1.mono hA2.out.size); clear hq0))
    refine bodyPost_ret (mean_results rfl rfl rfl) rfl ?_
    exact ⟨rfl, hB2⟩
  | ok u n1 =>
    rw [hm0] at hq0 r0
    have hn1 : n1 ≤ 1000 := r0.2.1
    have hn1' : n + 1 ≤ n1 := r0.1
    have hus : u.size ≤ 256 := HM.out a (by simp) _ _ _ _ hm0
    have hL2 : ∀ p ∈ (s, u) :: l, p.2.size ≤ 256 := fun p hp => by
      rcases List.mem_cons.1 hp with rfl | hp
      · exact hus
      · exact HL.out p hp
    have HL2 := Lib.hid hL2
    simp only [ansV] at hq0
    have r1 := mean_rg b ((s, u) :: l) n1 hn1
    have hE : meanLet [a, b] s l (n + 1) = mean b ((s, u) :: l) n1 := by rw [meanLet, hm0]
    rw [hE]
    have HMB := Lib.hid (fun t n' => HM.out b (by simp) ((s, u) :: l) n1 t n')
    clear hL2 hE hm0 r0 HM
    go_enter Tryz.func24, Tryz.ntmps24
    go_wp2_with (first
      | (go_at_call 24; with_reducible refine hq0.mono ?_; rintro e W1 ⟨rfl, hB1⟩; have hB2 := hA2.out.trans (hB1.mono hA2.out.size); obtain ⟨k1, σ1, sl1, m1, cp1, h1⟩ := HK.out 1 b rfl; replace h1 := h1.keep HS.out hB2; have q0 := (hB1.cell (p := ⟨W.heap.size, 0, none⟩) (by simp)).trans p0; have q1 := (hB1.cell (p := ⟨W.heap.size, 1, none⟩) (by simp)).trans p1; have q2 := (hB1.cell (p := ⟨W.heap.size, 2, none⟩) (by simp)).trans p2; have hXl : W.heap.size < W1.heap.size := (by have := hB1.size; simp at this; omega); clear hq0 p0 p1 p2 f0 f1 f2 g0 g1 g2))
    have hN1 := HN.out.keep hB2
    generalize hXX : W.heap.size = X at *
    have HXX := Lib.hid hXX
    clear hXX
    have hbb : bb < W1.heap.size := h1.bl
    have t1 := Kp.cell (w := W1) (K := fun k => k = X ∨ k = bb) (a := ⟨X, 1, none⟩) (.inl rfl) q1
    have H1 := Lib.hid h1
    have HN1 := Lib.hid hN1
    have HQ := Lib.hid (And.intro q1 q2)
    clear h1 hN1 HN q0 q1 q2 HK
    refine Mix.plan_region (fun w' => ∃ Y, w' = Kp.kp W1 (fun k => k = X ∨ k = bb) Y) 10 (.q [1, 3, 4, 5, 6] (.two 0 (.two 2 (.one 7 (.one 8 (.one 9 .done))) 7 (.one 2 (.one 8 (.one 9 .done)))) 7 (.one 0 (.one 2 (.one 8 (.one 9 .done)))))) (by kernel_rfl) (fun _ _ d _ _ h => by cases d <;> exact h) (by kernel_rfl) (Kp.of fun _ _ => rfl) ?_
    refine Mix.plan_q (by simp only [Mix.pick, Mix.nth]; rfl) ?_
    repeat (go_big_quiet_step (fail))
    refine wpQuiet_nil ?_
    clear t1
    have hb0 : Below W1.heap.size W1 W1.drew := (Below.refl _ _).drew
    have hs0 : W1.drew.heap.size = W1.heap.size := rfl
    generalize W1.drew = w0 at *
    generalize hBB : W1.heap.size = B at *
    have HB0 := Lib.hid hBB
    clear hBB
    have hKl : ∀ k, (k = X ∨ k = bb) → k < B := fun k hk => by rcases hk with rfl | rfl <;> omega
    have hSz : ∀ w, Below B W1 w → B ≤ w.heap.size := fun w h => by have h1 := h.size; rw [HB0.out] at h1; exact h1
    have hns0 : NS w0 (.slice sv l.length cv) l := HN1.out.keep (by rw [HB0.out]; exact hb0)
    refine Mix.plan_two (by simp only [Mix.nth]; rfl) (by simp only [Mix.nth]; rfl) (fun K hK => ?_) (fun K hK => ?_)
    · go_simp
      refine hK _ _ (Kp.of fun k hk => (heap_alloc_old w0 _ (Nat.lt_of_lt_of_le (hKl k hk) (hSz _ hb0))).trans (hb0.block k (hKl k hk))) ?_
      clear hK K
      have hb1 : Below B W1 (w0.alloc (.cells #[] 94)) := hb0.alloc (hSz _ hb0) _
      have hx1 := heap_alloc_new w0 (.cells #[] 94)
      have hown1 := own_lit0 w0 B (by omega)
      rw [hs0] at hown1
      have hns1 : NS (w0.alloc (.cells #[] 94)) (.slice sv l.length cv) l := hns0.keep ((Below.refl _ _).alloc (Nat.le_refl _) _)
      have hs1 : (w0.alloc (.cells #[] 94)).heap.size = B + 1 := by simp [hs0]
      generalize w0.alloc (.cells #[] 94) = w1 at *
      refine Mix.plan_two (by simp only [Mix.nth]; rfl) (by simp only [Mix.nth]; rfl) (fun K hK => ?_) (fun K hK => ?_)
      · refine step_cat rfl _ _ rfl B (.slice (some ⟨B, 0, none⟩) 0 0) [] rfl hown1 (.slice sv l.length cv) l rfl hns1 (by first | omega | (simp; done) | (simp; omega)) (by first | omega | (simp; done) | (simp; omega)) (hSz _ hb1) ?_
        intro v2 w2 hownw2 hgrw2
        have hb2 : Below B W1 w2 := hb1.grown hgrw2 (hSz _ hb1) (fun k e => (hown1.lt k e).1)
        refine hK _ _ (Kp.of fun k hk => hb2.block k (hKl k hk)) ?_
        clear hK K
        refine Mix.plan_one (by simp only [Mix.nth]; rfl) (fun K hK => ?_)
        go_simp
        refine hK _ _ (Kp.of fun k hk => (heap_alloc_old w2 _ (Nat.lt_of_lt_of_le (hKl k hk) (hSz _ hb2))).trans (hb2.block k (hKl k hk))) ?_
        clear hK K
        have hb3 : Below B W1 (w2.alloc (.cells #[.string s, .string u] 94)) := hb2.alloc (hSz _ hb2) _
        have hx3 := heap_alloc_new w2 (.cells #[.string s, .string u] 94)
        have hownw3 := hownw2.alloc (.cells #[.string s, .string u] 94)
        have hlit : NS (w2.alloc (.cells #[.string s, .string u] 94)) (.slice (some ⟨w2.heap.size, 0, none⟩) 1 1) [(s, u)] := ns_one _ _ s u hx3
        refine Mix.plan_one (by simp only [Mix.nth]; rfl) (fun K hK => ?_)
        refine step_cat rfl _ _ rfl B v2 ([] ++ l.reverse) rfl hownw3 (.slice (some ⟨w2.heap.size, 0, none⟩) 1 1) [(s, u)] rfl hlit (by first | omega | (simp; done) | (simp; omega)) (by first | omega | (simp; done) | (simp; omega)) (hSz _ hb3) ?_
        intro v4 w4 hown4 hgrw4
        have hB4 : Below B W1 w4 := hb3.grown hgrw4 (hSz _ hb3) (fun k e => (hownw3.lt k e).1)
        refine hK _ _ (Kp.of fun k hk => hB4.block k (hKl k hk)) ?_
        clear hK K
        refine Mix.plan_one (by simp only [Mix.nth]; rfl) (fun K hK => ?_)
        go_simp
        refine hK _ _ (Kp.of fun k hk => hB4.block k (hKl k hk)) ?_
        clear hK K
        refine Mix.plan_done ?_
        simp only [List.drop_succ_cons, List.drop_nil]
        have hB5 := hB2.trans (hB4.mono (show X ≤ B by omega))
        have hns : NS w4 v4 ((s, u) :: l) := NO.ns (B := B) (by simpa using hown4)
        have h1 := H1.out.keep (fun k hk => by have := HS.out k hk; rw [HB0.out]; omega) (by rw [HB0.out]; exact hB4)
        have hq1 := HB.out w4 S _ _ ((s, u) :: l) n1 (fun k hk => by have := HS.out k hk; have := hSz _ hB4; omega) h1.rep hns hn1 (by simp; omega) HL2.out
        have y0 : w4.cell? ⟨bb, o + 3, none⟩ = some (.int .i64 k1) := h1.c0
        have y1 : w4.cell? ⟨bb, o + 4, none⟩ = some (.string σ1) := h1.c1
        have y2 : w4.cell? ⟨bb, o + 5, none⟩ = some (.slice sl1 m1 cp1) := h1.c2
        have y1' : w4.cell? ⟨bb, o + 3 + 1, none⟩ = some (.string σ1) := h1.c1
        have y2' : w4.cell? ⟨bb, o + 3 + 2, none⟩ = some (.slice sl1 m1 cp1) := h1.c2
        have z2 := (hB4.cell (p := ⟨X, 2, none⟩) hXl).trans HQ.out.2
        cases hm1 : mean b ((s, u) :: l) n1 with
        | bad n3 e3 =>
          rw [hm1] at hq1 r1
          have HE1 := Lib.hid hm1
          have he3 : ¬ e3 = 0 := by
            have := mean_er b ((s, u) :: l) n1 n3 e3 hm1
            omega
          have hn3 : n3 ≤ 1000 := r1.2.1
          simp only [ansV] at hq1
          clear r1 h1 hns hown4
          go_wp2_with (first
            | (go_at_call 24; with_reducible refine hq1.mono ?_; rintro e W5 ⟨rfl, hB6⟩; have hB7 := hB5.trans (hB6.mono (by have := hSz _ hB4; omega)); clear hq1))
          refine bodyPost_ret (mean_results rfl rfl rfl) rfl ?_
          rw [HXX.out, HE1.out]
          exact ⟨rfl, hB7⟩
        | ok t n3 =>
          have htz : ¬ (256 : Int) < t.size := by
            have := HMB.out t n3 hm1
            omega
          rw [hm1] at hq1 r1
          have HE1 := Lib.hid hm1
          have hn3 : n3 ≤ 1000 := r1.2.1
          simp only [ansV] at hq1
          clear r1 h1 hns hown4
          go_wp2_with (first
            | (go_at_call 24; with_reducible refine hq1.mono ?_; rintro e W5 ⟨rfl, hB6⟩; have hB7 := hB5.trans (hB6.mono (by have := hSz _ hB4; omega)); clear hq1))
          refine bodyPost_ret (mean_results rfl rfl rfl) rfl ?_
          rw [HXX.out, HE1.out]
          exact ⟨rfl, hB7⟩
      · go_simp
        refine hK _ _ (Kp.of fun k hk => (heap_alloc_old w1 _ (Nat.lt_of_lt_of_le (hKl k hk) (hSz _ hb1))).trans (hb1.block k (hKl k hk))) ?_
        clear hK K
        have hb2 : Below B W1 (w1.alloc (.cells #[.string s, .string u] 94)) := hb1.alloc (hSz _ hb1) _
        have hx2 := heap_alloc_new w1 (.cells #[.string s, .string u] 94)
        rw [hs1] at hx2
        have hown2 := hown1.alloc (.cells #[.string s, .string u] 94)
        have hns2 : NS (w1.alloc (.cells #[.string s, .string u] 94)) (.slice sv l.length cv) l := hns1.keep ((Below.refl _ _).alloc (Nat.le_refl _) _)
        have hs2 : (w1.alloc (.cells #[.string s, .string u] 94)).heap.size = B + 2 := by simp [hs1]
        generalize w1.alloc (.cells #[.string s, .string u] 94) = w2 at *
        have hlit2 : NS w2 (.slice (some ⟨B + 1, 0, none⟩) 1 1) [(s, u)] := ns_one _ _ s u hx2
        refine Mix.plan_one (by simp only [Mix.nth]; rfl) (fun K hK => ?_)
        refine step_cat rfl _ _ rfl B (.slice (some ⟨B, 0, none⟩) 0 0) [] rfl hown2 (.slice sv l.length cv) l rfl hns2 (by first | omega | (simp; done) | (simp; omega)) (by first | omega | (simp; done) | (simp; omega)) (hSz _ hb2) ?_
        intro v3 w3 hownw3 hgrw3
        have hb3 : Below B W1 w3 := hb2.grown hgrw3 (hSz _ hb2) (fun k e => (hown2.lt k e).1)
        refine hK _ _ (Kp.of fun k hk => hb3.block k (hKl k hk)) ?_
        clear hK K
        have hlit : NS w3 (.slice (some ⟨B + 1, 0, none⟩) 1 1) [(s, u)] := hlit2.same hgrw3.size fun g hg => by
          cases hg
          exact hgrw3.block (B + 1) (by omega) (by intro e; cases e)
        refine Mix.plan_one (by simp only [Mix.nth]; rfl) (fun K hK => ?_)
        refine step_cat rfl _ _ rfl B v3 ([] ++ l.reverse) rfl hownw3 (.slice (some ⟨B + 1, 0, none⟩) 1 1) [(s, u)] rfl hlit (by first | omega | (simp; done) | (simp; omega)) (by first | omega | (simp; done) | (simp; omega)) (hSz _ hb3) ?_
        intro v4 w4 hown4 hgrw4
        have hB4 : Below B W1 w4 := hb3.grown hgrw4 (hSz _ hb3) (fun k e => (hownw3.lt k e).1)
        refine hK _ _ (Kp.of fun k hk => hB4.block k (hKl k hk)) ?_
        clear hK K
        refine Mix.plan_one (by simp only [Mix.nth]; rfl) (fun K hK => ?_)
        go_simp
        refine hK _ _ (Kp.of fun k hk => hB4.block k (hKl k hk)) ?_
        clear hK K
        refine Mix.plan_done ?_
        simp only [List.drop_succ_cons, List.drop_nil]
        have hB5 := hB2.trans (hB4.mono (show X ≤ B by omega))
        have hns : NS w4 v4 ((s, u) :: l) := NO.ns (B := B) (by simpa using hown4)
        have h1 := H1.out.keep (fun k hk => by have := HS.out k hk; rw [HB0.out]; omega) (by rw [HB0.out]; exact hB4)
        have hq1 := HB.out w4 S _ _ ((s, u) :: l) n1 (fun k hk => by have := HS.out k hk; have := hSz _ hB4; omega) h1.rep hns hn1 (by simp; omega) HL2.out
        have y0 : w4.cell? ⟨bb, o + 3, none⟩ = some (.int .i64 k1) := h1.c0
        have y1 : w4.cell? ⟨bb, o + 4, none⟩ = some (.string σ1) := h1.c1
        have y2 : w4.cell? ⟨bb, o + 5, none⟩ = some (.slice sl1 m1 cp1) := h1.c2
        have y1' : w4.cell? ⟨bb, o + 3 + 1, none⟩ = some (.string σ1) := h1.c1
        have y2' : w4.cell? ⟨bb, o + 3 + 2, none⟩ = some (.slice sl1 m1 cp1) := h1.c2
        have z2 := (hB4.cell (p := ⟨X, 2, none⟩) hXl).trans HQ.out.2
        cases hm1 : mean b ((s, u) :: l) n1 with
        | bad n3 e3 =>
          rw [hm1] at hq1 r1
          have HE1 := Lib.hid hm1
          have he3 : ¬ e3 = 0 := by
            have := mean_er b ((s, u) :: l) n1 n3 e3 hm1
            omega
          have hn3 : n3 ≤ 1000 := r1.2.1
          simp only [ansV] at hq1
          clear r1 h1 hns hown4
          go_wp2_with (first
            | (go_at_call 24; with_reducible refine hq1.mono ?_; rintro e W5 ⟨rfl, hB6⟩; have hB7 := hB5.trans (hB6.mono (by have := hSz _ hB4; omega)); clear hq1))
          refine bodyPost_ret (mean_results rfl rfl rfl) rfl ?_
          rw [HXX.out, HE1.out]
          exact ⟨rfl, hB7⟩
        | ok t n3 =>
          have htz : ¬ (256 : Int) < t.size := by
            have := HMB.out t n3 hm1
            omega
          rw [hm1] at hq1 r1
          have HE1 := Lib.hid hm1
          have hn3 : n3 ≤ 1000 := r1.2.1
          simp only [ansV] at hq1
          clear r1 h1 hns hown4
          go_wp2_with (first
            | (go_at_call 24; with_reducible refine hq1.mono ?_; rintro e W5 ⟨rfl, hB6⟩; have hB7 := hB5.trans (hB6.mono (by have := hSz _ hB4; omega)); clear hq1))
          refine bodyPost_ret (mean_results rfl rfl rfl) rfl ?_
          rw [HXX.out, HE1.out]
          exact ⟨rfl, hB7⟩
    · go_simp
      refine hK _ _ (Kp.of fun k hk => (heap_alloc_old w0 _ (Nat.lt_of_lt_of_le (hKl k hk) (hSz _ hb0))).trans (hb0.block k (hKl k hk))) ?_
      clear hK K
      have hb1 : Below B W1 (w0.alloc (.cells #[.string s, .string u] 94)) := hb0.alloc (hSz _ hb0) _
      have hx1 := heap_alloc_new w0 (.cells #[.string s, .string u] 94)
      rw [hs0] at hx1
      have hns1 : NS (w0.alloc (.cells #[.string s, .string u] 94)) (.slice sv l.length cv) l := hns0.keep ((Below.refl _ _).alloc (Nat.le_refl _) _)
      have hs1 : (w0.alloc (.cells #[.string s, .string u] 94)).heap.size = B + 1 := by simp [hs0]
      generalize w0.alloc (.cells #[.string s, .string u] 94) = w1 at *
      have hlit1 : NS w1 (.slice (some ⟨B, 0, none⟩) 1 1) [(s, u)] := ns_one _ _ s u hx1
      refine Mix.plan_one (by simp only [Mix.nth]; rfl) (fun K hK => ?_)
      go_simp
      refine hK _ _ (Kp.of fun k hk => (heap_alloc_old w1 _ (Nat.lt_of_lt_of_le (hKl k hk) (hSz _ hb1))).trans (hb1.block k (hKl k hk))) ?_
      clear hK K
      have hb2 : Below B W1 (w1.alloc (.cells #[] 94)) := hb1.alloc (hSz _ hb1) _
      have hx2 := heap_alloc_new w1 (.cells #[] 94)
      have hown2 := own_lit0 w1 B (by omega)
      rw [hs1] at hown2
      have hns2 : NS (w1.alloc (.cells #[] 94)) (.slice sv l.length cv) l := hns1.keep ((Below.refl _ _).alloc (Nat.le_refl _) _)
      have hlit2 := hlit1.keep ((Below.refl _ _).alloc (Nat.le_refl _) (.cells #[] 94))
      have hs2 : (w1.alloc (.cells #[] 94)).heap.size = B + 2 := by simp [hs1]
      generalize w1.alloc (.cells #[] 94) = w2 at *
      refine Mix.plan_one (by simp only [Mix.nth]; rfl) (fun K hK => ?_)
      refine step_cat rfl _ _ rfl B (.slice (some ⟨B + 1, 0, none⟩) 0 0) [] rfl hown2 (.slice sv l.length cv) l rfl hns2 (by first | omega | (simp; done) | (simp; omega)) (by first | omega | (simp; done) | (simp; omega)) (hSz _ hb2) ?_
      intro v3 w3 hownw3 hgrw3
      have hb3 : Below B W1 w3 := hb2.grown hgrw3 (hSz _ hb2) (fun k e => (hown2.lt k e).1)
      refine hK _ _ (Kp.of fun k hk => hb3.block k (hKl k hk)) ?_
      clear hK K
      have hlit : NS w3 (.slice (some ⟨B, 0, none⟩) 1 1) [(s, u)] := hlit2.same hgrw3.size fun g hg => by
        cases hg
        exact hgrw3.block B (by omega) (by intro e; cases e)
      refine Mix.plan_one (by simp only [Mix.nth]; rfl) (fun K hK => ?_)
      refine step_cat rfl _ _ rfl B v3 ([] ++ l.reverse) rfl hownw3 (.slice (some ⟨B, 0, none⟩) 1 1) [(s, u)] rfl hlit (by first | omega | (simp; done) | (simp; omega)) (by first | omega | (simp; done) | (simp; omega)) (hSz _ hb3) ?_
      intro v4 w4 hown4 hgrw4
      have hB4 : Below B W1 w4 := hb3.grown hgrw4 (hSz _ hb3) (fun k e => (hownw3.lt k e).1)
      refine hK _ _ (Kp.of fun k hk => hB4.block k (hKl k hk)) ?_
      clear hK K
      refine Mix.plan_one (by simp only [Mix.nth]; rfl) (fun K hK => ?_)
      go_simp
      refine hK _ _ (Kp.of fun k hk => hB4.block k (hKl k hk)) ?_
      clear hK K
      refine Mix.plan_done ?_
      simp only [List.drop_succ_cons, List.drop_nil]
      have hB5 := hB2.trans (hB4.mono (show X ≤ B by omega))
      have hns : NS w4 v4 ((s, u) :: l) := NO.ns (B := B) (by simpa using hown4)
      have h1 := H1.out.keep (fun k hk => by have := HS.out k hk; rw [HB0.out]; omega) (by rw [HB0.out]; exact hB4)
      have hq1 := HB.out w4 S _ _ ((s, u) :: l) n1 (fun k hk => by have := HS.out k hk; have := hSz _ hB4; omega) h1.rep hns hn1 (by simp; omega) HL2.out
      have y0 : w4.cell? ⟨bb, o + 3, none⟩ = some (.int .i64 k1) := h1.c0
      have y1 : w4.cell? ⟨bb, o + 4, none⟩ = some (.string σ1) := h1.c1
      have y2 : w4.cell? ⟨bb, o + 5, none⟩ = some (.slice sl1 m1 cp1) := h1.c2
      have y1' : w4.cell? ⟨bb, o + 3 + 1, none⟩ = some (.string σ1) := h1.c1
      have y2' : w4.cell? ⟨bb, o + 3 + 2, none⟩ = some (.slice sl1 m1 cp1) := h1.c2
      have z2 := (hB4.cell (p := ⟨X, 2, none⟩) hXl).trans HQ.out.2
      cases hm1 : mean b ((s, u) :: l) n1 with
      | bad n3 e3 =>
        rw [hm1] at hq1 r1
        have HE1 := Lib.hid hm1
        have he3 : ¬ e3 = 0 := by
          have := mean_er b ((s, u) :: l) n1 n3 e3 hm1
          omega
        have hn3 : n3 ≤ 1000 := r1.2.1
        simp only [ansV] at hq1
        clear r1 h1 hns hown4
        go_wp2_with (first
          | (go_at_call 24; with_reducible refine hq1.mono ?_; rintro e W5 ⟨rfl, hB6⟩; have hB7 := hB5.trans (hB6.mono (by have := hSz _ hB4; omega)); clear hq1))
        refine bodyPost_ret (mean_results rfl rfl rfl) rfl ?_
        rw [HXX.out, HE1.out]
        exact ⟨rfl, hB7⟩
      | ok t n3 =>
        have htz : ¬ (256 : Int) < t.size := by
          have := HMB.out t n3 hm1
          omega
        rw [hm1] at hq1 r1
        have HE1 := Lib.hid hm1
        have hn3 : n3 ≤ 1000 := r1.2.1
        simp only [ansV] at hq1
        clear r1 h1 hns hown4
        go_wp2_with (first
          | (go_at_call 24; with_reducible refine hq1.mono ?_; rintro e W5 ⟨rfl, hB6⟩; have hB7 := hB5.trans (hB6.mono (by have := hSz _ hB4; omega)); clear hq1))
        refine bodyPost_ret (mean_results rfl rfl rfl) rfl ?_
        rw [HXX.out, HE1.out]
        exact ⟨rfl, hB7⟩
end Ev
end Go.Proofs.YtflhmoelenmomaaGreatDoor
