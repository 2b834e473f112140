/-
  A region that draws its order and holds both reads and what makes memory: the reads are taken first (they yield the same in every world that the rest can leave), the rest stands in one order.
-/
import Derived.Test.YtbefgplaaghlbaaGreatDoorSxA
import Derived.StillTail
import Derived.Deep.QuietTactic
import Derived.BigQuiet
namespace Go.Proofs.YtbefgplaaghlbaaGreatDoor
open Go.RowKit
namespace Mix
section
variable {P : Program} {ops : Array Oper} {Q : Exit → Act → World → Prop} {md : Region.Mode} {C : World → Prop}

/-- whatever order of the operations below n is picked, and each world on the way is of the class -/
def anyL (P : Program) (md : Region.Mode) (ops : Array Oper) (Q : Exit → Act → World → Prop) (C : World → Prop) (n : Nat) (L : Array Bool → Act → World → Prop) : Nat → Array Bool → Act → World → Prop
  | 0, listed, a, w => L listed a w
  | fuel + 1, listed, a, w =>
    Region.ready md ops listed ≠ [] ∧ ∀ i ∈ Region.ready md ops listed, i < n ∧ wpOp P ops Q i (fun a' w' => C w' ∧ anyL P md ops Q C n L fuel (listed.setIfInBounds i true) a' w') a w
theorem any_of {n g : Nat} {L : Array Bool → Act → World → Prop} (hL : ∀ listed a w, L listed a w → wpAny P md ops Q g listed a w) : ∀ (fuel : Nat) (listed : Array Bool) (a : Act) (w : World), anyL P md ops Q C n L fuel listed a w → wpAny P md ops Q (fuel + g) listed a w
  | 0, _, _, _, h => by rw [Nat.zero_add]; exact hL _ _ _ h
  | fuel + 1, _, _, _, h => by
    rw [show fuel + 1 + g = (fuel + g) + 1 by omega]
    exact ⟨fun h0 => absurd h0 h.1, fun i hi => wpOp_mono (fun a' w' h' => any_of hL fuel _ a' w' h'.2) (h.2 i hi).2⟩

/-- in state a operation o yields v and leaves the world as it is, in every world of the class -/
def Same (P : Program) (ops : Array Oper) (C : World → Prop) (o : Oper) (v : Value) (a : Act) : Prop := ∀ w, C w → YieldsAt P ops w o v a
theorem Same.of_same {o : Oper} {v : Value} {a a' : Act} (hy : Same P ops C o v a) (he : execOp a'.eval o = execOp a.eval o)
    (hw : Region.wanted o (yielded ops a'.tmps) = Region.wanted o (yielded ops a.tmps)) : Same P ops C o v a' := fun w hc => (hy w hc).of_same he hw
theorem Same.op {i : Nat} {o : Oper} {v : Value} {a : Act} (hi : ops[i]? = some o) (hy : Same P ops C o v a) {K : Act → World → Prop} {w : World} (hc : C w) (h : K (a.put o.dst v) w) : wpOp P ops Q i K a w :=
  wpOp_of_stOp (K := fun a' => K a' w) (fun _ h => h) ((hy w hc).stOp hi h)
theorem op_put {j : Nat} {oi oj : Oper} {v : Value} (hj : ops[j]? = some oj) (hap : oi.apart ops oj = true)
    (hsi : ∀ cs b, oi.op ≠ .select cs b) (hsj : ∀ cs b, oj.op ≠ .select cs b)
    (hQ : ∀ c a v w, Q (.panic c) (Act.put a oi.dst v) w → Q (.panic c) a w) {K : Act → World → Prop} {a : Act} {w : World}
    (hy : Same P ops C oi v a) (h : wpOp P ops Q j K (a.put oi.dst v) w) :
    wpOp P ops Q j (fun a' w' => Same P ops C oi v a' ∧ K (a'.put oi.dst v) w') a w := by
  obtain ⟨h1, h2, h3⟩ := Oper.apart_spec hap
  have keep : ∀ (a : Act), Same P ops C oi v a → ∀ u, Same P ops C oi v (a.put oj.dst u) := fun a hy u =>
    hy.of_same (execOp_put oi hsi a oj.dst u h3) (wanted_put oi a oj.dst u h3)
  have keepD : ∀ d, Same P ops C oi v { a with defers := d :: a.defers } := fun d => hy.of_same rfl rfl
  unfold wpOp at *
  simp only [hj] at *
  rw [wanted_put oj a oi.dst v h1] at h
  split
  · rename_i hw
    simp only [hw, if_true] at h
    rcases h with h | ⟨hasks, hlets⟩
    case inr => exact .inr ⟨by unfold Oper.asks at *; rw [execOp_put oj hsj a oi.dst v h1] at hasks; exact hasks, hlets⟩
    refine .inl ?_
    unfold Oper.wp at *
    rw [execOp_put oj hsj a oi.dst v h1] at h
    generalize (execOp a.eval oj).run P w = r at *
    cases r with
    | ok n w' =>
      cases n <;> simp only [Oper.upon] at h ⊢
      case value u => exact ⟨keep a hy u, by rw [← Act.put_comm a v u h2]; exact h⟩
      case skip => exact ⟨keep a hy _, by rw [← Act.put_comm a v undef h2]; exact h⟩
      case defer d =>
        refine ⟨keep _ (keepD d) _, ?_⟩
        rw [← Act.put_comm _ v undef h2, ← Act.put_defers]
        exact h
      case enter f args =>
        refine Calls.mono h fun e w'' he => ?_
        cases e with
        | returned u => exact ⟨keep a hy u, by rw [← Act.put_comm a v u h2]; exact he⟩
        | panicked c => exact hQ _ _ _ _ he
        | outgrown => exact he
      case row row args => exact Rows.mono h fun u w'' he => ⟨keep a hy u, by rw [← Act.put_comm a v u h2]; exact he⟩
    | halt x w' =>
      cases x <;> simp only [Oper.upon] at h ⊢
      case panic u => exact hQ _ _ _ _ h
  · rename_i hw
    simp only [hw] at h
    exact ⟨keep a hy _, by rw [← Act.put_comm a v undef h2]; exact h⟩

/-- an operation that yields the same in every world of the class may be taken first -/
theorem any_first {n : Nat} {L : Array Bool → Act → World → Prop} (ht : ∀ listed, HeadInv md ops n listed → ∀ i, i < n → listed.getD i true = false → ∀ t, n ≤ t → t ∉ Region.ready md ops listed)
    (hdone : ∀ listed a w, L listed a w → ∀ j ∈ Region.ready md ops listed, n ≤ j)
    {i : Nat} {oi : Oper} {v : Value} (hQ : ∀ c a v w, Q (.panic c) (Act.put a oi.dst v) w → Q (.panic c) a w) (hi : ops[i]? = some oi) (hin : i < n) (hsel : ∀ (j : Nat) (o : Oper) cs b, ops[j]? = some o → o.op ≠ .select cs b) :
    ∀ (fuel : Nat) (listed : Array Bool) (a : Act) (w : World), C w → HeadInv md ops n listed →
      (∀ j oj, ops[j]? = some oj → j ≠ i → listed.getD j true = false → (∀ e ∈ oj.after, Region.binds md e = true → e.on ≠ i) → oi.apart ops oj = true) →
      i ∈ Region.ready md ops listed → Same P ops C oi v a →
      anyL P md ops Q C n L fuel (listed.setIfInBounds i true) (a.put oi.dst v) w → anyL P md ops Q C n L (fuel + 1) listed a w := by
  intro fuel
  induction fuel with
  | zero =>
    intro listed a w hc inv hfree hr hy H
    have hun := (mem_ready.1 hr).1
    refine ⟨fun h => (by rw [h] at hr; cases hr), fun j hj => ?_⟩
    have hjn : j < n := by
      rcases Nat.lt_or_ge j n with h | h
      · exact h
      · exact absurd hj (ht listed inv i hin hun j h)
    refine ⟨hjn, ?_⟩
    by_cases hji : j = i
    · subst hji; exact hy.op hi hc ⟨hc, H⟩
    · have := hdone _ _ _ H j (ready_mono hj hji)
      omega
  | succ fuel ih =>
    intro listed a w hc inv hfree hr hy H
    have hun := (mem_ready.1 hr).1
    refine ⟨fun h => (by rw [h] at hr; cases hr), fun j hj => ?_⟩
    have hjn : j < n := by
      rcases Nat.lt_or_ge j n with h | h
      · exact h
      · exact absurd hj (ht listed inv i hin hun j h)
    refine ⟨hjn, ?_⟩
    by_cases hji : j = i
    · subst hji; exact hy.op hi hc ⟨hc, H⟩
    · have h1 := (H.2 j (ready_mono hj hji)).2
      obtain ⟨hjun, oj, hoj, hall⟩ := mem_ready.1 hj
      have hnot : ∀ e ∈ oj.after, Region.binds md e = true → e.on ≠ i := fun e he hb heq => by
        have h1 := hall e he hb
        have h0 := (mem_ready.1 hr).1
        rw [heq] at h1
        rcases Nat.lt_or_ge i listed.size with h' | h'
        · simp [h'] at h0 h1; rw [h0] at h1; cases h1
        · simp [Array.getElem?_eq_none h'] at h1
      have h2 := op_put hoj (hfree j oj hoj hji hjun hnot) (fun cs b => hsel i oi cs b hi) (fun cs b => hsel j oj cs b hoj) hQ hy h1
      have hfree' : ∀ k ok, ops[k]? = some ok → k ≠ i → (listed.setIfInBounds j true).getD k true = false →
          (∀ e ∈ ok.after, Region.binds md e = true → e.on ≠ i) → oi.apart ops ok = true := fun k ok hk hki hun hno => by
        refine hfree k ok hk hki ?_ hno
        by_cases hjk : j = k
        · subst hjk; exact hjun
        · rw [getD_set_ne true hjk] at hun; exact hun
      refine wpOp_mono (fun a' w' h3 => ⟨h3.2.1, ih (listed.setIfInBounds j true) a' w' h3.2.1 (inv.set hj hjn) hfree' (ready_mono hr (Ne.symm hji)) h3.1 ?_⟩) h2
      rw [Array.setIfInBounds_comm _ _ hji]
      exact h3.2.2

/-- no call of a Go function -/
def plainB (o : Oper) : Bool := match o.op with
  | .move _ | .assign _ | .nilCheck _ | .pick _ _ _ | .load _ _ | .fieldAddr _ _ _ | .field _ _ _ | .indexAddr _ _ _ | .index _ _ _ | .binOp _ _ _ _ _ | .unOp _ _ _ | .extract _ _ | .convert _ _ _ | .slice _ _ _ _ _ | .makeInterface _ _ | .build _ _ => true
  | .call { callee := .builtin .len, .. } => true
  | _ => false
theorem run_value {α : Type} {s : Sem α} {g : α → Value} {w w' : World} {f : FuncId} {args : Array Value} : (s >>= fun x => (pure (Next.value (g x)) : Sem Next)).run P w ≠ .ok (.enter f args) w' := by
  rw [Sem.run_bind]
  cases s.run P w <;> simp
theorem ne_bind {α : Type} {s : Sem α} {k : α → Sem Next} {w w' : World} {f : FuncId} {args : Array Value} (h : ∀ a w, (k a).run P w ≠ .ok (.enter f args) w') : (s >>= k).run P w ≠ .ok (.enter f args) w' := by
  rw [Sem.run_bind]
  cases hs : s.run P w with
  | ok a w1 => simp only [Result.andThen_ok]; exact h a w1
  | halt x w1 => simp [Result.andThen]
theorem ne_panic {w w' : World} {f : FuncId} {args : Array Value} : (runtimePanic RuntimeError.nilDeref : Sem Next).run P w ≠ .ok (.enter f args) w' := by
  unfold runtimePanic
  refine ne_bind fun p w1 => ?_
  simp [goPanic]
theorem plain_run {o : Oper} (h : plainB o = true) (ρ : Operand → Value) (w w' : World) (f : FuncId) (args : Array Value) : (execOp ρ o).run P w ≠ .ok (.enter f args) w' := by
  obtain ⟨dst, op, type, pos, after, guard⟩ := o
  cases op
  case call c =>
    obtain ⟨callee, xs, ts⟩ := c
    cases callee
    case builtin b =>
      cases b <;> first | (simp [plainB] at h; done) | (simp only [execOp, resolve, invoke, builtin, pure_bind]; exact run_value)
    all_goals simp [plainB] at h
  case nilCheck x =>
    simp only [execOp]
    split
    · exact ne_panic
    · exact ne_panic
    · exact ne_panic
    · split
      · exact ne_panic
      · refine ne_bind fun p w1 => ne_bind fun r w2 => ?_
        split
        · simp
        · simp
      · simp
    · simp
  all_goals first
    | (simp [plainB] at h; done)
    | (simp only [execOp]; exact run_value)
    | (simp only [execOp]; intro e; simp at e)
theorem quiet_same {o : Oper} {a : Act} {K : Act → Prop} (hp : plainB o = true) (hw : Region.wanted o (yielded ops a.tmps) = true) (h : o.quiet P a C K) : ∃ v, Same P ops C o v a ∧ K (a.put o.dst v) := by
  obtain ⟨v, h1, h2⟩ := h
  refine ⟨v, fun w hc => .inl ⟨hw, ?_⟩, h2⟩
  have h3 := h1 w hc
  unfold Oper.quietAt at h3
  have h4 := fun w' f args => plain_run (P := P) hp a.eval w w' f args
  generalize (execOp a.eval o).run P w = r at *
  cases r with
  | ok n w' =>
    cases n <;> simp only [Oper.quietUpon] at h3
    case value u => obtain ⟨rfl, rfl⟩ := h3; exact .inl rfl
    case skip => obtain ⟨rfl, rfl⟩ := h3; exact .inr (.inl ⟨rfl, rfl⟩)
    case enter f args => exact absurd rfl (h4 _ _ _)
  | halt x w' => simp only [Oper.quietUpon] at h3

/-- operations in one order, each world on the way of the class -/
def eff (P : Program) (ops : Array Oper) (Q : Exit → Act → World → Prop) (C : World → Prop) (R : Act → World → Prop) : List Oper → Act → World → Prop
  | [], a, w => R a w
  | o :: l, a, w => if Region.wanted o (yielded ops a.tmps) then o.wp P a w (fun a' w' => C w' ∧ eff P ops Q C R l a' w') Q else eff P ops Q C R l (a.put o.dst undef) w
theorem eff_nil {R : Act → World → Prop} {a : Act} {w : World} (h : R a w) : eff P ops Q C R [] a w := h
theorem eff_step {R : Act → World → Prop} {o : Oper} {l : List Oper} {a : Act} {w : World}
    (h : ∀ K : Act → World → Prop, (∀ a' w', C w' → eff P ops Q C R l a' w' → K a' w') → if Region.wanted o (yielded ops a.tmps) then o.wp P a w K Q else K (a.put o.dst undef) w) : eff P ops Q C R (o :: l) a w := by
  have h' := h (fun a' w' => C w' ∧ eff P ops Q C R l a' w') (fun a' w' h1 h2 => ⟨h1, h2⟩)
  unfold eff
  split
  · rename_i hw; rw [if_pos hw] at h'; exact h'
  · rename_i hw; rw [if_neg hw] at h'; exact h'.2
/-- parts in turn: reads (true), what is forced (false) -/
def parts (P : Program) (ops : Array Oper) (Q : Exit → Act → World → Prop) (C : World → Prop) (R : Act → World → Prop) : List (Bool × List Oper) → Act → World → Prop
  | [], a, w => R a w
  | (true, qs) :: r, a, w => wpQuiet P ops C (fun a' => parts P ops Q C R r a' w) qs a
  | (false, es) :: r, a, w => eff P ops Q C (fun a' w' => parts P ops Q C R r a' w') es a w
def okIs (md : Region.Mode) (ops : Array Oper) (n : Nat) (b : Bool) : List Nat → Array Bool → Bool
  | [], _ => true
  | i :: is, listed => decide (i < n) && (bif b then (Region.ready md ops listed).contains i && Region.free md ops listed i && ((ops[i]?).map plainB).getD false else decide (Region.ready md ops listed = [i])) && okIs md ops n b is (listed.setIfInBounds i true)
def setIs : List Nat → Array Bool → Array Bool
  | [], listed => listed
  | i :: is, listed => setIs is (listed.setIfInBounds i true)
def okPs (md : Region.Mode) (ops : Array Oper) (n : Nat) : List (Bool × List Nat) → Array Bool → Bool
  | [], listed => Region.seqB md ops (ops.size - n) n listed
  | (b, is) :: r, listed => okIs md ops n b is listed && okPs md ops n r (setIs is listed)
def cnt : List (Bool × List Nat) → Nat
  | [] => 0
  | (_, is) :: r => is.length + cnt r
section
variable {n : Nat} {L : Array Bool → Act → World → Prop} (hQ : ∀ (i : Nat) (o : Oper), ops[i]? = some o → ∀ c a v w, Q (.panic c) (Act.put a o.dst v) w → Q (.panic c) a w) (ht : ∀ listed, HeadInv md ops n listed → ∀ i, i < n → listed.getD i true = false → ∀ t, n ≤ t → t ∉ Region.ready md ops listed)
    (hdone : ∀ listed a w, L listed a w → ∀ j ∈ Region.ready md ops listed, n ≤ j) (hsel : Region.noSelect ops = true)
include hQ ht hdone hsel
theorem q_any {R : Act → Prop} {m : Nat} {w : World} (hc : C w) : ∀ (is : List Nat) (qs : List Oper) (listed : Array Bool) (a : Act), HeadInv md ops n listed →
    is.map (fun i => ops[i]?) = qs.map some → okIs md ops n true is listed = true → (∀ a', HeadInv md ops n (setIs is listed) → R a' → anyL P md ops Q C n L m (setIs is listed) a' w) → wpQuiet P ops C R qs a → anyL P md ops Q C n L (is.length + m) listed a w
  | [], qs, listed, a, inv, hm, _, hR, h => by
    cases qs with
    | nil => rw [List.length_nil, Nat.zero_add]; exact hR a inv h
    | cons o qs => simp at hm
  | i :: is, qs, listed, a, inv, hm, hB, hR, h => by
    cases qs with
    | nil => simp at hm
    | cons o qs =>
      simp only [List.map_cons, List.cons.injEq] at hm
      obtain ⟨ho, hm⟩ := hm
      simp only [okIs, cond_true, Bool.and_eq_true, ho, Option.map_some, Option.getD_some, decide_eq_true_eq] at hB
      obtain ⟨⟨hin, ⟨hr, hf⟩, hp⟩, hB'⟩ := hB
      have e : (i :: is).length + m = is.length + m + 1 := by simp; omega
      rw [e]
      have hr' : i ∈ Region.ready md ops listed := by simpa using hr
      unfold wpQuiet at h
      by_cases hw : Region.wanted o (yielded ops a.tmps) = true
      · rw [if_pos hw] at h
        obtain ⟨v, hy, hk⟩ := quiet_same hp hw h
        exact any_first ht hdone (hQ i o ho) ho hin (Region.noSelect_spec hsel) _ listed a w hc inv (Region.free_spec ho hf) hr' hy (q_any hc is qs _ _ (inv.set hr' hin) hm hB' hR hk)
      · rw [if_neg hw] at h
        exact any_first ht hdone (hQ i o ho) ho hin (Region.noSelect_spec hsel) _ listed a w hc inv (Region.free_spec ho hf) hr' (v := undef) (fun _ _ => .inr ⟨by simpa using hw, rfl⟩) (q_any hc is qs _ _ (inv.set hr' hin) hm hB' hR h)
omit hQ ht hdone hsel in
theorem e_any {R : Act → World → Prop} {m : Nat} : ∀ (is : List Nat) (es : List Oper) (listed : Array Bool) (a : Act) (w : World), C w → HeadInv md ops n listed →
    is.map (fun i => ops[i]?) = es.map some → okIs md ops n false is listed = true → (∀ a' w', C w' → HeadInv md ops n (setIs is listed) → R a' w' → anyL P md ops Q C n L m (setIs is listed) a' w') → eff P ops Q C R es a w → anyL P md ops Q C n L (is.length + m) listed a w
  | [], es, listed, a, w, hc, inv, hm, _, hR, h => by
    cases es with
    | nil => rw [List.length_nil, Nat.zero_add]; exact hR a w hc inv h
    | cons o es => simp at hm
  | i :: is, es, listed, a, w, hc, inv, hm, hB, hR, h => by
    cases es with
    | nil => simp at hm
    | cons o es =>
      simp only [List.map_cons, List.cons.injEq] at hm
      obtain ⟨ho, hm⟩ := hm
      simp only [okIs, cond_false, Bool.and_eq_true, decide_eq_true_eq] at hB
      obtain ⟨⟨hin, hr⟩, hB'⟩ := hB
      have e : (i :: is).length + m = is.length + m + 1 := by simp; omega
      rw [e]
      refine ⟨fun h0 => (by rw [hr] at h0; cases h0), fun j hj => ?_⟩
      have hj' := hj
      rw [hr] at hj
      obtain rfl : j = i := by simpa using hj
      refine ⟨hin, ?_⟩
      have inv' := inv.set hj' hin
      unfold wpOp
      simp only [ho]
      unfold eff at h
      split
      · rename_i hw
        rw [if_pos hw] at h
        exact .inl (Oper.wp_mono (fun a' w' h' => ⟨h'.1, e_any is es _ a' w' h'.1 inv' hm hB' hR h'.2⟩) h)
      · rename_i hw
        rw [if_neg hw] at h
        exact ⟨hc, e_any is es _ _ w hc inv' hm hB' hR h⟩
theorem parts_any {R : Act → World → Prop} (hend : ∀ listed a w, C w → Region.seqB md ops (ops.size - n) n listed = true → R a w → L listed a w) : ∀ (ix : List (Bool × List Nat)) (os : List (Bool × List Oper)) (listed : Array Bool) (a : Act) (w : World), C w → HeadInv md ops n listed →
    ix.map (fun p => (p.1, p.2.map (fun i => ops[i]?))) = os.map (fun p => (p.1, p.2.map some)) → okPs md ops n ix listed = true → parts P ops Q C R os a w → anyL P md ops Q C n L (cnt ix) listed a w
  | [], os, listed, a, w, hc, _, hm, hB, h => by
    cases os with
    | nil => exact hend _ _ _ hc (by simpa [okPs] using hB) h
    | cons p os => simp at hm
  | (b, is) :: ix, os, listed, a, w, hc, inv, hm, hB, h => by
    cases os with
    | nil => simp at hm
    | cons p os =>
      obtain ⟨b', qs⟩ := p
      simp only [List.map_cons, List.cons.injEq, Prod.mk.injEq] at hm
      obtain ⟨⟨rfl, hq⟩, hm⟩ := hm
      simp only [okPs, Bool.and_eq_true] at hB
      cases b with
      | true => exact q_any hQ ht hdone hsel hc is qs listed a inv hq hB.1 (fun a' inv' h' => parts_any hend ix os _ a' w hc inv' hm hB.2 h') h
      | false => exact e_any is qs listed a w hc inv hq hB.1 (fun a' w' hc' inv' h' => parts_any hend ix os _ a' w' hc' inv' hm hB.2 h') h
end

/-- the operations that bear the tag k -/
def sel (k : Nat) : List Nat → List Oper → List Oper
  | t :: ts, o :: os => bif t == k then o :: sel k ts os else sel k ts os
  | _, _ => []
def selI (k : Nat) : List Nat → Nat → List Nat
  | [], _ => []
  | t :: ts, i => bif t == k then i :: selI k ts (i + 1) else selI k ts (i + 1)
theorem sel_cons (k t : Nat) (ts : List Nat) (o : Oper) (os : List Oper) : sel k (t :: ts) (o :: os) = bif t == k then o :: sel k ts os else sel k ts os := rfl
theorem sel_nil (k : Nat) : sel k [] [] = [] := rfl
theorem mix_region {id : Nat} {a : Act} {w : World} {l : List Oper} (C : World → Prop) (n : Nat) (ix : List (Bool × List Nat)) (os : List (Bool × List Oper)) (hm : P.follows .mixedOrders = true) (hQ : ∀ (i : Nat) (o : Oper), l.toArray[i]? = some o → ∀ c a v w, Q (.panic c) (Act.put a o.dst v) w → Q (.panic c) a w)
    (hio : ix.map (fun p => (p.1, p.2.map (fun i => l[i]?))) = os.map (fun p => (p.1, p.2.map some)))
    (hB : (Region.noSelect l.toArray && decide (cnt ix = n) && decide (n ≤ l.length) && (decide (n = l.length) || (Region.sinkB .any l.toArray n && Region.chainB .any l.toArray n)) && okPs .any l.toArray n ix (Array.replicate l.length false)) = true)
    (hc : C w.drew) (h : parts P l.toArray Q C (fun a' w' => wpList P l.toArray Q (l.drop n) a' w') os a w.drew) : (Code.region id l.toArray true).wp P Q a w := by
  simp only [Bool.and_eq_true, Bool.or_eq_true, decide_eq_true_eq] at hB
  obtain ⟨⟨⟨⟨hs, hn⟩, hle⟩, htl⟩, hB⟩ := hB
  have inv0 : HeadInv .any l.toArray n (Array.replicate l.length false) :=
    ⟨by simp, fun j oj _ hl => (by rw [getD_replicate_false] at hl; cases hl), fun t _ ht => getD_in (by simpa using ht) (getD_replicate_false _ _)⟩
  have ht : ∀ listed, HeadInv .any l.toArray n listed → ∀ i, i < n → listed.getD i true = false → ∀ t, n ≤ t → t ∉ Region.ready .any l.toArray listed := by
    rcases htl with rfl | ⟨h1, h2⟩
    · intro listed inv i _ _ t hnt hr
      obtain ⟨_, o, ho, _⟩ := mem_ready.1 hr
      have := (Array.getElem?_eq_some_iff.1 ho).1
      simp at this
      omega
    · intro listed inv i hin hun t hnt hr
      have hlt : n < l.toArray.size := by
        obtain ⟨_, o, ho, _⟩ := mem_ready.1 hr
        have := (Array.getElem?_eq_some_iff.1 ho).1
        omega
      exact tail_waits h1 h2 hlt inv _ i rfl hin hun t hnt hr
  have H := parts_any (md := .any) (L := fun listed a' w' => Region.seqB .any l.toArray (l.toArray.size - n) n listed = true ∧ wpList P l.toArray Q (l.drop n) a' w') hQ ht (fun listed a w hL => seqB_ready hL.1) hs (fun listed a w _ h1 h2 => ⟨h1, h2⟩) ix os (Array.replicate l.length false) a w.drew hc inv0 (by simpa using hio) hB h
  refine wp_region_any hm ?_
  have := any_of (Q := Q) (g := l.toArray.size - n) (fun listed a' w' hL => by
    have := wpAny_of_seq (md := .any) (Q' := Q) (l.drop n) n listed a' w' (fun j => by simp [List.getElem?_drop]) (by rw [show (l.drop n).length = l.toArray.size - n by simp]; exact hL.1) hL.2
    rwa [show (l.drop n).length = l.toArray.size - n by simp] at this) _ _ _ _ H
  rw [hn, show n + (l.toArray.size - n) = l.toArray.size by simp; omega] at this
  simpa using this
def selP (tags : List Nat) (l : List Oper) : Nat → List Bool → List (Bool × List Oper)
  | _, [] => []
  | k, b :: r => (b, sel k tags l) :: selP tags l (k + 1) r
def selX (tags : List Nat) : Nat → List Bool → List (Bool × List Nat)
  | _, [] => []
  | k, b :: r => (b, selI k tags 0) :: selX tags (k + 1) r
theorem selP_nil (tags : List Nat) (l : List Oper) (k : Nat) : selP tags l k [] = [] := rfl
theorem selP_cons (tags : List Nat) (l : List Oper) (k : Nat) (b : Bool) (r : List Bool) : selP tags l k (b :: r) = (b, sel k tags l) :: selP tags l (k + 1) r := rfl
theorem parts_q {R : Act → World → Prop} {qs : List Oper} {r : List (Bool × List Oper)} {a : Act} {w : World} (h : wpQuiet P ops C (fun a' => parts P ops Q C R r a' w) qs a) : parts P ops Q C R ((true, qs) :: r) a w := h
theorem parts_e {R : Act → World → Prop} {es : List Oper} {r : List (Bool × List Oper)} {a : Act} {w : World} (h : eff P ops Q C (fun a' w' => parts P ops Q C R r a' w') es a w) : parts P ops Q C R ((false, es) :: r) a w := h
theorem parts_n {R : Act → World → Prop} {a : Act} {w : World} (h : R a w) : parts P ops Q C R [] a w := h
/-- tags: of each operation, in which part it comes; kinds: of each part, does it only read; n: how many operations have a part (the others come behind, in one order) -/
theorem region {id : Nat} {a : Act} {w : World} {l : List Oper} (C : World → Prop) (n : Nat) (tags : List Nat) (kinds : List Bool) (hm : P.follows .mixedOrders = true) (hQ : ∀ c a d v w, Q (.panic c) (Act.put a d v) w → Q (.panic c) a w)
    (hio : (selX tags 0 kinds).map (fun p => (p.1, p.2.map (fun i => l[i]?))) = (selP tags l 0 kinds).map (fun p => (p.1, p.2.map some)))
    (hB : (Region.noSelect l.toArray && decide (cnt (selX tags 0 kinds) = n) && decide (n ≤ l.length) && (decide (n = l.length) || (Region.sinkB .any l.toArray n && Region.chainB .any l.toArray n)) && okPs .any l.toArray n (selX tags 0 kinds) (Array.replicate l.length false)) = true)
    (hc : C w.drew) (h : parts P l.toArray Q C (fun a' w' => wpList P l.toArray Q (l.drop n) a' w') (selP tags l 0 kinds) a w.drew) : (Code.region id l.toArray true).wp P Q a w :=
  mix_region C n _ _ hm (fun _ _ _ c a v w h => hQ c a _ v w h) hio hB hc h
/-- where a panic's end leans on slot k: no operation writes it -/
theorem region_d {id : Nat} {a : Act} {w : World} {l : List Oper} (C : World → Prop) (n : Nat) (tags : List Nat) (kinds : List Bool) (k : Nat) (hD : l.all (fun o => o.dst != some k) = true) (hm : P.follows .mixedOrders = true) (hQ : ∀ c a d v w, d ≠ some k → Q (.panic c) (Act.put a d v) w → Q (.panic c) a w)
    (hio : (selX tags 0 kinds).map (fun p => (p.1, p.2.map (fun i => l[i]?))) = (selP tags l 0 kinds).map (fun p => (p.1, p.2.map some)))
    (hB : (Region.noSelect l.toArray && decide (cnt (selX tags 0 kinds) = n) && decide (n ≤ l.length) && (decide (n = l.length) || (Region.sinkB .any l.toArray n && Region.chainB .any l.toArray n)) && okPs .any l.toArray n (selX tags 0 kinds) (Array.replicate l.length false)) = true)
    (hc : C w.drew) (h : parts P l.toArray Q C (fun a' w' => wpList P l.toArray Q (l.drop n) a' w') (selP tags l 0 kinds) a w.drew) : (Code.region id l.toArray true).wp P Q a w :=
  mix_region C n _ _ hm (fun i o ho c a v w h => hQ c a _ v w (by
    have hl : l[i]? = some o := by simpa using ho
    have := List.all_eq_true.1 hD o (List.mem_of_getElem? hl)
    simpa using this) h) hio hB hc h
end
end Mix
end Go.Proofs.YtbefgplaaghlbaaGreatDoor
