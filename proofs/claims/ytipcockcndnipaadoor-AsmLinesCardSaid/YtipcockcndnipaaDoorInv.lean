/-
  A region that draws its order, by an invariant: what holds when such and such operations are done, in whatever order.
-/
import Derived.Test.YtipcockcndnipaaDoorMix
namespace Go.Proofs.YtipcockcndnipaaDoor
open Go.RowKit
namespace Mix

/-- which operations are done -/
abbrev Done := Nat → Bool
def Done.add (d : Done) (i : Nat) : Done := fun j => j == i || d j
theorem Done.add_same (d : Done) (i : Nat) : d.add i i = true := by simp [Done.add]
theorem Done.add_mono {d : Done} {i j : Nat} (h : d j = true) : d.add i j = true := by simp [Done.add, h]
theorem Done.add_inv {d : Done} {i j : Nat} (h : d.add i j = true) : j = i ∨ d j = true := by simpa [Done.add] using h
def depsB (l : List Oper) : Bool := (List.range l.length).all fun i => (l[i]?.map fun o => o.after.all fun e => !Region.binds .any e || decide (e.on < i)).getD true
theorem depsB_at {l : List Oper} (h : depsB l = true) {i : Nat} {o : Oper} (ho : l[i]? = some o) : ∀ e ∈ o.after.toList, Region.binds .any e = true → e.on < i := by
  intro e he hb
  have hi : i < l.length := (List.getElem?_eq_some_iff.1 ho).1
  have h1 := List.all_eq_true.1 h i (List.mem_range.2 hi)
  rw [ho] at h1
  simp only [Option.map_some, Option.getD_some, Array.all_eq_true', Bool.or_eq_true, Bool.not_eq_true', decide_eq_true_eq] at h1
  rcases h1 e (by simpa using he) with h2 | h2
  · rw [hb] at h2; cases h2
  · exact h2
/-- what is done, all that it waits for is done -/
def Closed (l : List Oper) (d : Done) : Prop := ∀ j o, l[j]? = some o → d j = true → ∀ e ∈ o.after.toList, Region.binds .any e = true → d e.on = true
theorem Closed.add {l : List Oper} {d : Done} {i : Nat} {o : Oper} (h : Closed l d) (ho : l[i]? = some o) (hi : ∀ e ∈ o.after.toList, Region.binds .any e = true → d e.on = true) : Closed l (d.add i) := by
  intro j o' ho' hj e he hb
  rcases Done.add_inv hj with rfl | hj
  · rw [ho] at ho'
    cases ho'
    exact Done.add_mono (hi e he hb)
  · exact Done.add_mono (h j o' ho' hj e he hb)
theorem inv_any {P : Program} {l : List Oper} {Q : Exit → Act → World → Prop} (J : Done → Act → World → Prop) (hB : depsB l = true)
    (hs : ∀ (d : Done) (i : Nat) (o : Oper) (a : Act) (w : World), Closed l d → l[i]? = some o → d i = false → (∀ e ∈ o.after.toList, Region.binds .any e = true → d e.on = true) → J d a w → wpOp P l.toArray Q i (J (d.add i)) a w)
    (he : ∀ (d : Done) (a : Act) (w : World), (∀ i, i < l.length → d i = true) → J d a w → Q .normal a w) :
    ∀ (fuel : Nat) (listed : Array Bool) (a : Act) (w : World), listed.size = l.length → ((List.range l.length).filter fun i => !listed.getD i true).length ≤ fuel → Closed l (fun i => listed.getD i false) → J (fun i => listed.getD i false) a w → wpAny P .any l.toArray Q fuel listed a w := by
  have hready : ∀ (listed : Array Bool), listed.size = l.length → Region.ready .any l.toArray listed = [] → ∀ i, i < l.length → listed.getD i false = true := by
    intro listed hsz hr i
    induction i using Nat.strongRecOn with
    | ind i ih =>
      intro hi
      cases hl : listed.getD i false with
      | true => rfl
      | false =>
        exfalso
        have hm : i ∈ Region.ready .any l.toArray listed := by
          unfold Region.ready
          rw [List.mem_filter]
          refine ⟨by simpa using hi, ?_⟩
          have ho : l.toArray[i]? = some l[i] := by simp [hi]
          rw [ho]
          have hl' : listed.getD i true = false := by
            have : i < listed.size := by omega
            simpa [Array.getD, this] using hl
          simp only [hl', Bool.not_false, Bool.true_and, Option.map_some, Option.getD_some, Array.all_eq_true', Bool.or_eq_true, Bool.not_eq_true']
          intro e he'
          cases hb : Region.binds .any e with
          | false => exact .inl rfl
          | true =>
            have hlt := depsB_at hB (List.getElem?_eq_getElem hi) e (by simpa using he') hb
            exact .inr (ih e.on hlt (by omega))
        rw [hr] at hm
        simp at hm
  intro fuel
  induction fuel with
  | zero =>
    intro listed a w hsz hf hcl hJ
    have hall : ∀ i, i < l.length → listed.getD i false = true := by
      intro i hi
      have h0 : (List.range l.length).filter (fun i => !listed.getD i true) = [] := List.length_eq_zero_iff.1 (by omega)
      have : i ∉ (List.range l.length).filter (fun i => !listed.getD i true) := by rw [h0]; simp
      rw [List.mem_filter] at this
      have hlt : i < listed.size := by omega
      simp [hi, Array.getD, hlt] at this
      simpa [Array.getD, hlt] using this
    refine ⟨?_, he _ a w hall hJ⟩
    unfold Region.ready
    rw [List.filter_eq_nil_iff]
    intro i hi
    have hi' : i < l.length := by simpa using hi
    have hlt : i < listed.size := by omega
    have := hall i hi'
    have h1 : listed.getD i true = true := by simpa [Array.getD, hlt] using this
    simp [h1]
  | succ fuel ih =>
    intro listed a w hsz hf hcl hJ
    refine ⟨fun hr => he _ a w (hready listed hsz hr) hJ, fun i hi => ?_⟩
    unfold Region.ready at hi
    rw [List.mem_filter] at hi
    obtain ⟨hi, hp⟩ := hi
    have hi' : i < l.length := by simpa using hi
    have ho : l.toArray[i]? = some l[i] := by simp [hi']
    have hlt : i < listed.size := by omega
    rw [ho] at hp
    simp only [Option.map_some, Option.getD_some, Bool.and_eq_true, Bool.not_eq_true', Array.all_eq_true', Bool.or_eq_true] at hp
    have hn : listed.getD i false = false := by have := hp.1; simpa [Array.getD, hlt] using this
    have hfun : (fun j => (listed.setIfInBounds i true).getD j false) = Done.add (fun j => listed.getD j false) i := by
      funext j
      unfold Done.add
      by_cases hj : j < listed.size
      · by_cases hji : j = i
        · subst hji; simp [Array.getD, hj]
        · simp [Array.getD, hj, hji, Ne.symm hji]
      · by_cases hji : j = i
        · omega
        · simp [Array.getD, hj, hji]
    have hdeps : ∀ e ∈ (l[i]).after.toList, Region.binds .any e = true → (fun j => listed.getD j false) e.on = true := fun e he' hb => by
      rcases hp.2 e (by simpa using he') with h | h
      · rw [hb] at h; cases h
      · exact h
    refine wpOp_mono (fun a' w' h => ih _ a' w' (by simpa using hsz) ?_ ?_ h) (?_ : wpOp P l.toArray Q i (fun a' w' => J (fun j => (listed.setIfInBounds i true).getD j false) a' w') a w)
    · have e : (List.range l.length).filter (fun j => !(listed.setIfInBounds i true).getD j true) = ((List.range l.length).filter fun j => !listed.getD j true).filter fun j => j != i := by
        rw [List.filter_filter]
        refine List.filter_congr fun j hj => ?_
        have hj' : j < listed.size := by have : j < l.length := by simpa using hj
                                         omega
        by_cases hji : j = i
        · subst hji; simp [Array.getD, hj']
        · simp [Array.getD, hj', hji, Ne.symm hji]
      rw [e]
      have hmem : i ∈ (List.range l.length).filter fun j => !listed.getD j true := by
        rw [List.mem_filter]
        exact ⟨hi, by have := hp.1; simp [this]⟩
      have : (((List.range l.length).filter fun j => !listed.getD j true).filter fun j => j != i).length < ((List.range l.length).filter fun j => !listed.getD j true).length :=
        List.length_filter_lt_length_iff_exists.2 ⟨i, hmem, by simp⟩
      omega
    · rw [hfun]
      exact hcl.add (List.getElem?_eq_getElem hi') hdeps
    · rw [hfun]
      exact hs _ i l[i] a w hcl (List.getElem?_eq_getElem hi') hn hdeps hJ
/-- a region that draws its order, by an invariant -/
theorem region_inv {P : Program} {id : Nat} {a : Act} {w : World} {l : List Oper} {Q : Exit → Act → World → Prop} (hm : P.follows .mixedOrders = true) (J : Done → Act → World → Prop) (hB : depsB l = true)
    (h0 : J (fun _ => false) a w.drew)
    (hs : ∀ (d : Done) (i : Nat) (o : Oper) (a : Act) (w : World), Closed l d → l[i]? = some o → d i = false → (∀ e ∈ o.after.toList, Region.binds .any e = true → d e.on = true) → J d a w → wpOp P l.toArray Q i (J (d.add i)) a w)
    (he : ∀ (d : Done) (a : Act) (w : World), (∀ i, i < l.length → d i = true) → J d a w → Q .normal a w) : (Code.region id l.toArray true).wp P Q a w := by
  refine wp_region_any hm ?_
  refine inv_any J hB hs he _ _ a _ (by simp) ?_ ?_ ?_
  · have : ((List.range l.length).filter fun i => !(Array.replicate l.toArray.size false).getD i true).length ≤ (List.range l.length).length := List.length_filter_le _ _
    simpa using this
  · intro j o ho hj
    by_cases h : j < l.length <;> simp [Array.getD, h] at hj
  · have : (fun i => (Array.replicate l.toArray.size false).getD i false) = fun _ => false := by
      funext i
      by_cases hi : i < l.length <;> simp [Array.getD, hi]
    rw [this]
    exact h0
/-- an operation that leaves a value -/
theorem op_value {P : Program} {l : List Oper} {Q : Exit → Act → World → Prop} {i : Nat} {o : Oper} {a : Act} {w w' : World} {v : Value} {K : Act → World → Prop} (ho : l[i]? = some o) (hg : o.guard = none)
    (hr : (execOp a.eval o).run P w = .ok (.value v) w') (h : K (a.put o.dst v) w') : wpOp P l.toArray Q i K a w := by
  unfold wpOp
  have : l.toArray[i]? = some o := by simpa using ho
  rw [this]
  simp only
  rw [if_pos (by simp [Region.wanted, hg])]
  left
  unfold Oper.wp
  rw [hr]
  exact h
theorem op_wp {P : Program} {l : List Oper} {Q : Exit → Act → World → Prop} {i : Nat} {o : Oper} {a : Act} {w : World} {K : Act → World → Prop} (ho : l[i]? = some o) (hg : o.guard = none) (h : o.wp P a w K Q) : wpOp P l.toArray Q i K a w := by
  unfold wpOp
  have : l.toArray[i]? = some o := by simpa using ho
  rw [this]
  simp only
  rw [if_pos (by simp [Region.wanted, hg])]
  exact .inl h
theorem op_skip {P : Program} {l : List Oper} {Q : Exit → Act → World → Prop} {i : Nat} {o : Oper} {a : Act} {w w' : World} {K : Act → World → Prop} (ho : l[i]? = some o) (hg : o.guard = none) (hd : o.dst = none)
    (hr : (execOp a.eval o).run P w = .ok .skip w') (h : K a w') : wpOp P l.toArray Q i K a w := by
  unfold wpOp
  have : l.toArray[i]? = some o := by simpa using ho
  rw [this]
  simp only
  rw [if_pos (by simp [Region.wanted, hg])]
  left
  unfold Oper.wp
  rw [hr]
  simp only [Oper.upon, hd, Act.put]
  exact h
end Mix
end Go.Proofs.YtipcockcndnipaaDoor
