/-
  A region that draws its order, where two operations may be free at once: a plan is a tree of the orders that matter.
-/
import Derived.Test.YtbefgplaaghlbaaGreatDoorMix
namespace Go.Proofs.YtbefgplaaghlbaaGreatDoor
open Go.RowKit
namespace Mix

inductive Plan
  | done
  | q (is : List Nat) (p : Plan)
  | one (i : Nat) (p : Plan)
  | two (i : Nat) (p : Plan) (j : Nat) (r : Plan)
def Plan.size : Plan → Nat
  | .done => 0
  | .q is p => is.length + p.size
  | .one _ p => p.size + 1
  | .two _ p _ _ => p.size + 1
def okPlan (md : Region.Mode) (ops : Array Oper) (n : Nat) : Plan → Array Bool → Bool
  | .done, listed => Region.seqB md ops (ops.size - n) n listed
  | .q is p, listed => okIs md ops n true is listed && okPlan md ops n p (setIs is listed)
  | .one i p, listed => decide (i < n) && decide (Region.ready md ops listed = [i]) && okPlan md ops n p (listed.setIfInBounds i true)
  | .two i p j r, listed => decide (i < n) && decide (j < n) && (decide (Region.ready md ops listed = [i, j]) || decide (Region.ready md ops listed = [j, i])) && decide (r.size = p.size) &&
      okPlan md ops n p (listed.setIfInBounds i true) && okPlan md ops n r (listed.setIfInBounds j true)
def nth : List Oper → Nat → Option Oper
  | [], _ => none
  | o :: _, 0 => some o
  | _ :: l, k + 1 => nth l k
theorem nth_get : ∀ (l : List Oper) (i : Nat), nth l i = l[i]?
  | [], i => by simp [nth]
  | o :: l, 0 => by simp [nth]
  | o :: l, k + 1 => by simp [nth, nth_get l k]
def pick (l : List Oper) : List Nat → List Oper
  | [] => []
  | i :: is => match nth l i with
    | some o => o :: pick l is
    | none => pick l is
theorem pick_map (l : List Oper) : ∀ (is : List Nat), (∀ i ∈ is, i < l.length) → is.map (fun i => l.toArray[i]?) = (pick l is).map some
  | [], _ => rfl
  | i :: is, h => by
    have hi := h i (by simp)
    have ho : nth l i = some l[i] := by rw [nth_get, List.getElem?_eq_getElem hi]
    have ih := pick_map l is fun j hj => h j (by simp [hj])
    simp only [List.map_cons, pick, ho, List.cons.injEq]
    exact ⟨by simp [hi], ih⟩
theorem okIs_lt {md : Region.Mode} {ops : Array Oper} {n : Nat} {b : Bool} : ∀ (is : List Nat) (listed : Array Bool), okIs md ops n b is listed = true → ∀ i ∈ is, i < n
  | [], _, _, i, hi => by simp at hi
  | j :: is, listed, h, i, hi => by
    simp only [okIs, Bool.and_eq_true, decide_eq_true_eq] at h
    rcases List.mem_cons.1 hi with rfl | hi
    · exact h.1.1
    · exact okIs_lt is _ h.2 i hi
def planP (P : Program) (l : List Oper) (Q : Exit → Act → World → Prop) (C : World → Prop) (R : Act → World → Prop) : Plan → Act → World → Prop
  | .done, a, w => R a w
  | .q is p, a, w => wpQuiet P l.toArray C (fun a' => planP P l Q C R p a' w) (pick l is) a
  | .one i p, a, w => ∀ o, nth l i = some o → if Region.wanted o (yielded l.toArray a.tmps) then o.wp P a w (fun a' w' => C w' ∧ planP P l Q C R p a' w') Q else planP P l Q C R p (a.put o.dst undef) w
  | .two i p j r, a, w => (∀ o, nth l i = some o → if Region.wanted o (yielded l.toArray a.tmps) then o.wp P a w (fun a' w' => C w' ∧ planP P l Q C R p a' w') Q else planP P l Q C R p (a.put o.dst undef) w) ∧
      (∀ o, nth l j = some o → if Region.wanted o (yielded l.toArray a.tmps) then o.wp P a w (fun a' w' => C w' ∧ planP P l Q C R r a' w') Q else planP P l Q C R r (a.put o.dst undef) w)
section
variable {P : Program} {l : List Oper} {Q : Exit → Act → World → Prop} {C : World → Prop}
theorem step_op {i : Nat} {a : Act} {w : World} {K K' : Act → World → Prop} (hi : i < l.length) (hc : C w) (hK : ∀ a' w', C w' → K a' w' → K' a' w')
    (h : ∀ o, nth l i = some o → if Region.wanted o (yielded l.toArray a.tmps) then o.wp P a w (fun a' w' => C w' ∧ K a' w') Q else K (a.put o.dst undef) w) : wpOp P l.toArray Q i (fun a' w' => C w' ∧ K' a' w') a w := by
  have h := h l[i] (by rw [nth_get, List.getElem?_eq_getElem hi])
  unfold wpOp
  have ho : l.toArray[i]? = some l[i] := by simp [hi]
  simp only [ho]
  split at h
  · rename_i hw
    rw [if_pos hw]
    exact .inl (Oper.wp_mono (fun a' w' h' => ⟨h'.1, hK _ _ h'.1 h'.2⟩) h)
  · rename_i hw
    rw [if_neg hw]
    exact ⟨hc, hK _ _ hc h⟩
theorem plan_any {md : Region.Mode} {n : Nat} {L : Array Bool → Act → World → Prop} {R : Act → World → Prop} (hn : n ≤ l.length)
    (hQ : ∀ (i : Nat) (o : Oper), l.toArray[i]? = some o → ∀ c a v w, Q (.panic c) (Act.put a o.dst v) w → Q (.panic c) a w) (ht : ∀ listed, HeadInv md l.toArray n listed → ∀ i, i < n → listed.getD i true = false → ∀ t, n ≤ t → t ∉ Region.ready md l.toArray listed)
    (hdone : ∀ listed a w, L listed a w → ∀ j ∈ Region.ready md l.toArray listed, n ≤ j) (hsel : Region.noSelect l.toArray = true)
    (hend : ∀ listed a w, C w → Region.seqB md l.toArray (l.toArray.size - n) n listed = true → R a w → L listed a w) :
    ∀ (p : Plan) (listed : Array Bool) (a : Act) (w : World), C w → HeadInv md l.toArray n listed → okPlan md l.toArray n p listed = true → planP P l Q C R p a w → anyL P md l.toArray Q C n L p.size listed a w
  | .done, listed, a, w, hc, _, hB, h => hend _ _ _ hc (by simpa [okPlan] using hB) h
  | .q is p, listed, a, w, hc, inv, hB, h => by
    simp only [okPlan, Bool.and_eq_true] at hB
    exact q_any hQ ht hdone hsel hc is (pick l is) listed a inv (pick_map l is fun i hi => Nat.lt_of_lt_of_le (okIs_lt is _ hB.1 i hi) hn) hB.1 (fun a' inv' h' => plan_any hn hQ ht hdone hsel hend p _ a' w hc inv' hB.2 h') h
  | .one i p, listed, a, w, hc, inv, hB, h => by
    simp only [okPlan, Bool.and_eq_true, decide_eq_true_eq] at hB
    obtain ⟨⟨hin, hr⟩, hB⟩ := hB
    show anyL P md l.toArray Q C n L (p.size + 1) listed a w
    refine ⟨fun h0 => (by rw [hr] at h0; cases h0), fun j hj => ?_⟩
    have hj' := hj
    rw [hr] at hj
    obtain rfl : j = i := by simpa using hj
    exact ⟨hin, step_op (Nat.lt_of_lt_of_le hin hn) hc (fun a' w' hc' h' => plan_any hn hQ ht hdone hsel hend p _ a' w' hc' (inv.set hj' hin) hB h') h⟩
  | .two i p j r, listed, a, w, hc, inv, hB, h => by
    simp only [okPlan, Bool.and_eq_true, Bool.or_eq_true, decide_eq_true_eq] at hB
    obtain ⟨⟨⟨⟨⟨hin, hjn⟩, hr⟩, hsz⟩, hB1⟩, hB2⟩ := hB
    show anyL P md l.toArray Q C n L (p.size + 1) listed a w
    refine ⟨fun h0 => (by rcases hr with hr | hr <;> (rw [hr] at h0; cases h0)), fun k hk => ?_⟩
    have hk' := hk
    have hor : k = i ∨ k = j := by
      rcases hr with hr | hr <;> (rw [hr] at hk; simp at hk)
      · exact hk
      · exact hk.symm
    rcases hor with rfl | rfl
    · exact ⟨hin, step_op (Nat.lt_of_lt_of_le hin hn) hc (fun a' w' hc' h' => plan_any hn hQ ht hdone hsel hend p _ a' w' hc' (inv.set hk' hin) hB1 h') h.1⟩
    · refine ⟨hjn, step_op (Nat.lt_of_lt_of_le hjn hn) hc (fun a' w' hc' h' => ?_) h.2⟩
      have := plan_any hn hQ ht hdone hsel hend r _ a' w' hc' (inv.set hk' hjn) hB2 h'
      rw [hsz] at this
      exact this
/-- n: how many operations the plan holds (the others come behind, in one order) -/
theorem plan_region {id : Nat} {a : Act} {w : World} (C : World → Prop) (n : Nat) (p : Plan) (hm : P.follows .mixedOrders = true) (hQ : ∀ c a d v w, Q (.panic c) (Act.put a d v) w → Q (.panic c) a w)
    (hB : (Region.noSelect l.toArray && decide (p.size = n) && decide (n ≤ l.length) && (decide (n = l.length) || (Region.sinkB .any l.toArray n && Region.chainB .any l.toArray n)) && okPlan .any l.toArray n p (Array.replicate l.length false)) = true)
    (hc : C w.drew) (h : planP P l Q C (fun a' w' => wpList P l.toArray Q (l.drop n) a' w') p a w.drew) : (Code.region id l.toArray true).wp P Q a w := by
  simp only [Bool.and_eq_true, Bool.or_eq_true, decide_eq_true_eq] at hB
  obtain ⟨⟨⟨⟨hs, hn⟩, hle⟩, htl⟩, hB⟩ := hB
  have inv0 : HeadInv .any l.toArray n (Array.replicate l.length false) :=
    ⟨by simp, fun j oj _ hl => (by rw [getD_replicate_false] at hl; cases hl), fun t _ ht => getD_in (by simpa using ht) (getD_replicate_false _ _)⟩
  have ht : ∀ listed, HeadInv .any l.toArray n listed → ∀ i, i < n → listed.getD i true = false → ∀ t, n ≤ t → t ∉ Region.ready .any l.toArray listed := by
    rcases htl with rfl | ⟨h1, h2⟩
    · intro listed inv i _ _ t hnt hr
      obtain ⟨_, o, ho, _⟩ := mem_ready.1 hr
      have := (Array.getElem?_eq_some_iff.1 ho).1
      simp at this
      omega
    · intro listed inv i hin hun t hnt hr
      have hlt : n < l.toArray.size := by
        obtain ⟨_, o, ho, _⟩ := mem_ready.1 hr
        have := (Array.getElem?_eq_some_iff.1 ho).1
        omega
      exact tail_waits h1 h2 hlt inv _ i rfl hin hun t hnt hr
  have H := plan_any (md := .any) (L := fun listed a' w' => Region.seqB .any l.toArray (l.toArray.size - n) n listed = true ∧ wpList P l.toArray Q (l.drop n) a' w') hle (fun _ _ _ c a v w h => hQ c a _ v w h) ht (fun listed a w hL => seqB_ready hL.1) hs (fun listed a w _ h1 h2 => ⟨h1, h2⟩) p (Array.replicate l.length false) a w.drew hc inv0 hB h
  refine wp_region_any hm ?_
  have := any_of (Q := Q) (g := l.toArray.size - n) (fun listed a' w' hL => by
    have := wpAny_of_seq (md := .any) (Q' := Q) (l.drop n) n listed a' w' (fun j => by simp [List.getElem?_drop]) (by rw [show (l.drop n).length = l.toArray.size - n by simp]; exact hL.1) hL.2
    rwa [show (l.drop n).length = l.toArray.size - n by simp] at this) _ _ _ _ H
  rw [hn, show n + (l.toArray.size - n) = l.toArray.size by simp; omega] at this
  simpa using this
variable {R : Act → World → Prop}
theorem plan_q {is : List Nat} {qs : List Oper} {p : Plan} {a : Act} {w : World} (hq : pick l is = qs) (h : wpQuiet P l.toArray C (fun a' => planP P l Q C R p a' w) qs a) : planP P l Q C R (.q is p) a w := by
  subst hq; exact h
theorem plan_done {a : Act} {w : World} (h : R a w) : planP P l Q C R .done a w := h
theorem one_of {o : Oper} {i : Nat} {p : Plan} {a : Act} {w : World} (ho : nth l i = some o)
    (h : ∀ K : Act → World → Prop, (∀ a' w', C w' → planP P l Q C R p a' w' → K a' w') → if Region.wanted o (yielded l.toArray a.tmps) then o.wp P a w K Q else K (a.put o.dst undef) w) :
    ∀ o, nth l i = some o → if Region.wanted o (yielded l.toArray a.tmps) then o.wp P a w (fun a' w' => C w' ∧ planP P l Q C R p a' w') Q else planP P l Q C R p (a.put o.dst undef) w := by
  intro o' ho'
  obtain rfl : o = o' := Option.some.inj (ho.symm.trans ho')
  have h' := h (fun a' w' => C w' ∧ planP P l Q C R p a' w') (fun a' w' h1 h2 => ⟨h1, h2⟩)
  split
  · rename_i hw; rw [if_pos hw] at h'; exact h'
  · rename_i hw; rw [if_neg hw] at h'; exact h'.2
theorem plan_one {o : Oper} {i : Nat} {p : Plan} {a : Act} {w : World} (ho : nth l i = some o)
    (h : ∀ K : Act → World → Prop, (∀ a' w', C w' → planP P l Q C R p a' w' → K a' w') → if Region.wanted o (yielded l.toArray a.tmps) then o.wp P a w K Q else K (a.put o.dst undef) w) : planP P l Q C R (.one i p) a w := one_of ho h
theorem plan_two {o o' : Oper} {i j : Nat} {p r : Plan} {a : Act} {w : World} (ho : nth l i = some o) (ho' : nth l j = some o')
    (h : ∀ K : Act → World → Prop, (∀ a' w', C w' → planP P l Q C R p a' w' → K a' w') → if Region.wanted o (yielded l.toArray a.tmps) then o.wp P a w K Q else K (a.put o.dst undef) w)
    (h' : ∀ K : Act → World → Prop, (∀ a' w', C w' → planP P l Q C R r a' w' → K a' w') → if Region.wanted o' (yielded l.toArray a.tmps) then o'.wp P a w K Q else K (a.put o'.dst undef) w) : planP P l Q C R (.two i p j r) a w := ⟨one_of ho h, one_of ho' h'⟩
end
end Mix
end Go.Proofs.YtbefgplaaghlbaaGreatDoor
