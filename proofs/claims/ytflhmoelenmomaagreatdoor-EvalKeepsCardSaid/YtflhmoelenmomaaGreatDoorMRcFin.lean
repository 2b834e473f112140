/-
  From a walk to a row, for any law of this seat: the arguments read behind the call as before it, whatever their types, since nothing below the old heap has turned.
-/
import Derived.Test.YtflhmoelenmomaaGreatDoorRows
import Derived.WalkKit
import Derived.ProofKit
import Derived.OpenShut
import Derived.Laws.IdiomArrays
import Derived.Test.YtflhmoelenmomaaGreatDoorMRcQ
import Derived.Lib.SmallJoins
import Derived.Deep.Slices
import Derived.Deep.Strs
import Derived.Deep.Fields
import Derived.ChangeSame
import Derived.SizedLaws
namespace Go.Proofs.YtflhmoelenmomaaGreatDoor
open Go.RowKit Go.WideShapes Go.ChangeShapes
namespace Fin

theorem own : ownKnob Tryz.prog.godebug = none := by kernel_rfl
theorem laidOut : laidOutB Tryz.prog = true := by kernel_rfl

theorem args_below {H : Type} {enc : TypeId × Value → H} {W W' : World} (hb : Below W.heap.size W W') (ts : List TypeId) : ∀ (vs : List Value) (ds : List (DataW H)) (ps : List MemPlace),
    (ts.all fun t => Tryz.prog.readableRec t && decide (t < Tryz.prog.types.size)) = true → (∀ p ∈ ps, p.block < W.heap.size) →
    DataW.TrodAll enc Tryz.prog W 0 (fun _ => true) true ts vs ds ps → DataW.TrodAll enc Tryz.prog W' 0 (fun b => decide (b < W.heap.size)) true ts vs ds ps := by
  induction ts with
  | nil =>
    intro vs ds ps _ _ h
    cases vs <;> cases ds <;> exact h
  | cons t ts ih =>
    intro vs ds ps hr hlt h
    cases vs with
    | nil => exact False.elim (by simp [DataW.TrodAll] at h)
    | cons v vs =>
      cases ds with
      | nil => exact False.elim (by simp [DataW.TrodAll] at h)
      | cons d ds =>
        obtain ⟨p, q, h1, h2, rfl⟩ := h
        rw [List.all_cons, Bool.and_eq_true, Bool.and_eq_true, decide_eq_true_eq] at hr
        exact ⟨p, q, Below.trod laidOut hr.1.1 hr.1.2 h1 hb (fun x hx => hlt x (List.mem_append_left _ hx)), ih vs ds q hr.2 (fun x hx => hlt x (List.mem_append_right _ hx)) h2, rfl⟩

/-- what every law's row asks behind the call: true, and each argument reads as it did -/
theorem law_post {H : Type} {enc : TypeId × Value → H} {f : Func} {s : ChangeSpec} {W W' : World} {args : Array Value} {ds gs : List (DataW H)} {before : List MemPlace} (hv : s.vars = []) (hres : f.resultTypes = #[4])
    (hts : (f.params.toList.all fun t => Tryz.prog.readableRec t && decide (t < Tryz.prog.types.size)) = true) (hW : DataW.Whole enc Tryz.prog f.params.toList s.vars false W args.toList ds gs before) (hb : Below W.heap.size W W')
    (hs : s.fn H (ds ++ []) = { results := [.lit (.bool true)], args := ds }) : s.post enc Tryz.prog f false true false false W args (.bool true) W' := by
  have hlt : ∀ p ∈ before, p.block < W.heap.size := fun p hp => hW.lt p hp
  have hW' := hW
  obtain ⟨p, q, hA, hV, rfl, _, _⟩ := hW
  rw [hv] at hV
  obtain ⟨rfl, rfl⟩ := trodVars_none hV
  refine ⟨ds, [], p ++ [], [], p, [], hW', ?_, ?_, ?_, hb.frame _, fun h => by cases h⟩
  · rw [hs, hres]
    exact trodAll_mk1 (shut_bool Tryz.underlying4 true)
  · rw [hs]
    exact args_below hb _ _ _ _ hts (fun x hx => hlt x (List.mem_append_left _ hx)) hA
  · rw [hs, hv]
    rfl

end Fin
end Go.Proofs.YtflhmoelenmomaaGreatDoor

/-
  Expressions and recipes that came in.
-/
namespace Go.Proofs.YtflhmoelenmomaaGreatDoor
open Go.RowKit Go.WideShapes Go.ChangeShapes Go.Deep
namespace Rc

theorem bytes_expr : Tryz.prog.bytesOf 24 = 48 := by kernel_rfl
theorem bytes_field : 1 ≤ Tryz.prog.bytesOf 35 := by
  rw [show Tryz.prog.bytesOf 35 = 104 by kernel_rfl]
  decide
theorem cells_expr : Tryz.prog.cellsOf 24 = 3 := by kernel_rfl
theorem cells_field : Tryz.prog.cellsOf 35 = 7 := by kernel_rfl
theorem weightsAll_mem {H : Type} {P : Program} {e : TypeId} {n : Nat} {d : DataW H} : ∀ {ds : List (DataW H)}, d ∈ ds → n ∈ d.weights P e → n ∈ DataW.weightsAll P e ds
  | [], h, _ => by simp at h
  | x :: ds, h, hn => by
    simp only [DataW.weightsAll, List.mem_append]
    rcases List.mem_cons.1 h with rfl | h
    · exact .inl hn
    · exact .inr (weightsAll_mem h hn)
theorem spot_cell {W : World} {a : Addr} {v : Value} (h : W.cell? a = some v) : a = ⟨a.block, a.off, none⟩ := by
  obtain ⟨b, o, s⟩ := a
  cases s with
  | none => rfl
  | some s =>
    simp only [World.cell?] at h
    split at h <;> simp at h
theorem spot_plus (b o n : Nat) : (⟨b, o, none⟩ : Addr).add n = ⟨b, o + n, none⟩ := by
  unfold Addr.add
  split
  · rename_i h; subst h; rfl
  · rfl
section
variable {H : Type} {enc : TypeId × Value → H} {W : World} {base : Nat} {sp : Nat → Bool} {held : Bool}
set_option maxRecDepth 100000 in
theorem open_expr : ∀ (fuel : Nat) (cs : List Value) (y : DataW H × List MemPlace), DataW.trod enc Tryz.prog W base sp held fuel 24 cs = some y → (∀ n ∈ y.1.weights Tryz.prog 24, n ≤ reachBytes) →
    ∃ (x : E) (v0 v1 v2 : Value), cs = [v0, v1, v2] ∧ RepX W (fun b => b < W.heap.size) x (.agg #[v0, v1, v2]) ∧ Sml x := by
  intro fuel
  induction fuel using Nat.strongRecOn with
  | ind fuel ih =>
    intro cs y h hw
    have hs := Tryz.underlying24
    have c2 : Tryz.prog.cellsOf 9 = 1 := by kernel_rfl
    have c3 : Tryz.prog.cellsOf 22 = 1 := by kernel_rfl
    have c5 : Tryz.prog.cellsOf 3 = 1 := by kernel_rfl
    obtain ⟨xs, n, rfl, rfl, hl, hlen, hf⟩ := DataW.trod_struct hs h
    rw [cells_expr] at hl
    match cs, hl, xs, hlen, hf, hw with
    | [v0, v1, v2], _, [y0, y1, y2], _, hf, hw =>
    have h0 : DataW.trod enc Tryz.prog W base sp held n 3 (([v0, v1, v2].drop 0).take (Tryz.prog.cellsOf 3)) = some y0 := hf 0 _ rfl
    have h1 : DataW.trod enc Tryz.prog W base sp held n 9 (([v0, v1, v2].drop 1).take (Tryz.prog.cellsOf 9)) = some y1 := hf 1 _ rfl
    have h2 : DataW.trod enc Tryz.prog W base sp held n 22 (([v0, v1, v2].drop 2).take (Tryz.prog.cellsOf 22)) = some y2 := hf 2 _ rfl
    rw [c5] at h0
    rw [c2] at h1
    rw [c3] at h2
    simp only [List.drop_zero, List.drop_succ_cons, List.take_succ_cons, List.take_zero] at h0 h1 h2
    simp only [List.map_cons, List.map_nil, DataW.weights, hs, DataW.weightsEach, List.mem_append, List.append_nil] at hw
    obtain ⟨kd, e0, _, b0⟩ := DataW.trod_int Tryz.underlying3 h0
    obtain ⟨s, e1, d1, _⟩ := DataW.trod_string Tryz.underlying9 h1
    simp only [List.cons.injEq, and_true] at e0 e1
    subst e0 e1
    have hz := Lib.size_eq s
    have hrb := reachBytes_lt
    have hss : s.size ≤ 140737488355328 := by
      have := hw s.size (.inr (.inl (by
        have : y1 = (DataW.lit (.string s.data.toList), []) := d1
        rw [this]
        simp only [DataW.weights, List.mem_singleton]
        exact hz)))
      omega
    have hkd : -9223372036854775808 ≤ kd ∧ kd ≤ 9223372036854775807 := by
      have hb0 : IntKind.i64.min ≤ kd ∧ kd ≤ IntKind.i64.max := by simpa [Lit.wf] using b0
      exact hb0
    rcases DataW.trod_slice Tryz.underlying22 h2 with ⟨e2, -⟩ | ⟨a, len, cap, elems, rest, m, hm, e2, d2, hb, hlc, hcm, hel, hE, -, -⟩
    · simp only [List.cons.injEq, and_true] at e2
      subst e2
      exact ⟨.mk kd s [], _, _, _, rfl, .leaf _ _ _ _, .mk _ _ _ hkd.1 hkd.2 hss (by simp) (by simp)⟩
    · simp only [List.cons.injEq, and_true] at e2
      subst e2
      have d2' : y2.1 = (DataW.slice (elems.map (·.1)) (rest.map (·.1))) := by rw [show y2 = _ from d2]
      have hw2 : ∀ n ∈ y2.1.weights Tryz.prog 22, n ≤ reachBytes := fun n hn => hw n (.inr (.inr hn))
      rw [d2'] at hw2
      simp only [DataW.weights, Tryz.underlying22, bytes_expr] at hw2
      have hlr := hw2 _ (List.mem_cons_self ..)
      simp only [List.length_map] at hlr
      have hx : ∀ i, ∃ q : E × Value × Value × Value, i < len → W.cell? ⟨a.block, a.off + i * 3, none⟩ = some q.2.1 ∧ W.cell? ⟨a.block, a.off + i * 3 + 1, none⟩ = some q.2.2.1 ∧ W.cell? ⟨a.block, a.off + i * 3 + 2, none⟩ = some q.2.2.2 ∧
          a = ⟨a.block, a.off, none⟩ ∧ a.block < W.heap.size ∧ RepX W (fun b => b < W.heap.size) q.1 (.agg #[q.2.1, q.2.2.1, q.2.2.2]) ∧ Sml q.1 := fun i => by
        by_cases hi : i < len
        · have hEi := hE i hi
          have hil : i < elems.length := by omega
          rw [List.getElem?_eq_getElem hil, cells_expr] at hEi
          obtain ⟨cs', hc, ht⟩ := Option.bind_eq_some_iff.1 hEi
          obtain ⟨x, u0, u1, u2, rfl, hr, hsm⟩ := ih m (by omega) cs' elems[i] ht (fun k hk => hw2 k (List.mem_cons_of_mem _ (List.mem_append_left _ (weightsAll_mem (List.mem_map.2 ⟨_, List.getElem_mem hil, rfl⟩) hk))))
          obtain ⟨_, hcl, hat⟩ := World.cells?_some hc
          have g0 := hat 0 (by decide)
          have g1 := hat 1 (by decide)
          have g2 := hat 2 (by decide)
          have hE0 := hE 0 (by omega)
          rw [List.getElem?_eq_getElem (show 0 < elems.length by omega), cells_expr] at hE0
          obtain ⟨cs0, hc0, _⟩ := Option.bind_eq_some_iff.1 hE0
          obtain ⟨_, hcl0, hat0⟩ := World.cells?_some hc0
          obtain ⟨v, hv⟩ : ∃ v, cs0[0]? = some v := ⟨cs0[0]'(by omega), List.getElem?_eq_getElem (by omega)⟩
          have gg : W.cell? a = some v := by
            have := (hat0 0 (by decide)).trans hv
            simpa [Addr.add] using this
          have ha := spot_cell gg
          rw [ha, spot_plus, spot_plus] at g0 g1 g2
          refine ⟨(x, u0, u1, u2), fun _ => ⟨g0, g1, g2, ha, World.block_lt_of_cell? W a gg, hr, hsm⟩⟩
        · exact ⟨(.mk 0 ⟨#[]⟩ [], .nilIface, .nilIface, .nilIface), fun h => absurd h hi⟩
      have hlen : ((List.range len).map fun i => (Classical.choose (hx i)).1).length = len := by simp
      have hget : ∀ i u, ((List.range len).map fun i => (Classical.choose (hx i)).1)[i]? = some u → i < len ∧ u = (Classical.choose (hx i)).1 := fun i u hu => by
        have hi : i < len := by rw [← hlen]; exact (List.getElem?_eq_some_iff.1 hu).1
        rw [List.getElem?_map, List.getElem?_range hi] at hu
        simp at hu
        exact ⟨hi, hu.symm⟩
      refine ⟨.mk kd s ((List.range len).map fun i => (Classical.choose (hx i)).1), _, _, _, rfl, ?_, .mk _ _ _ hkd.1 hkd.2 hss (by rw [hlen]; omega) fun x hxm => ?_⟩
      · have := RepX.mk (W := W) (S := fun b => b < W.heap.size) kd s ((List.range len).map fun i => (Classical.choose (hx i)).1) (some a) cap (fun i => (Classical.choose (hx i)).2.1) (fun i => (Classical.choose (hx i)).2.2.1) (fun i => (Classical.choose (hx i)).2.2.2) (by rw [hlen]; exact hlc)
          (fun i u hu => by
            obtain ⟨hi, rfl⟩ := hget i u hu
            obtain ⟨g0, g1, g2, ha, hbl, _, _⟩ := Classical.choose_spec (hx i) hi
            exact ⟨a.block, a.off, by rw [← ha], hbl, g0, g1, g2⟩)
          (fun i u hu => by
            obtain ⟨hi, rfl⟩ := hget i u hu
            exact (Classical.choose_spec (hx i) hi).2.2.2.2.2.1)
        rw [hlen] at this
        exact this
      · obtain ⟨i, hi, rfl⟩ := List.mem_map.1 hxm
        exact (Classical.choose_spec (hx i) (List.mem_range.1 hi)).2.2.2.2.2.2
end
end Rc
end Go.Proofs.YtflhmoelenmomaaGreatDoor

/-
  Recipes and fields that came in.
-/
namespace Go.Proofs.YtflhmoelenmomaaGreatDoor
open Go.RowKit Go.WideShapes Go.ChangeShapes Go.Deep
namespace Rc

theorem cells_source : Tryz.prog.cellsOf 33 = 7 := by kernel_rfl
theorem cells_int : Tryz.prog.cellsOf 3 = 1 := by kernel_rfl
theorem cells_fieldS : Tryz.prog.cellsOf 31 = 1 := by kernel_rfl
def SmlF (f : Int × E × E) : Prop := (-9223372036854775808 ≤ f.1 ∧ f.1 ≤ 9223372036854775807) ∧ Sml f.2.1 ∧ Sml f.2.2
section
variable {H : Type} {enc : TypeId × Value → H} {W : World} {base : Nat} {sp : Nat → Bool} {held : Bool}
set_option maxRecDepth 100000 in
theorem open_field7 {fuel : Nat} {cs : List Value} {y : DataW H × List MemPlace} (h : DataW.trod enc Tryz.prog W base sp held fuel 35 cs = some y) (hw : ∀ n ∈ y.1.weights Tryz.prog 35, n ≤ reachBytes) :
    ∃ (t : Int × E × E) (q : F7), cs = cells7 q ∧ RepF W (fun b => b < W.heap.size) t q ∧ SmlF t := by
  have hs := Tryz.underlying35
  obtain ⟨y0, y1, y2, n, e, hl, h0, h1, h2⟩ := trod_struct3 hs h
  subst e
  rw [cells_field] at hl
  simp only [DataW.weights, hs, List.map_cons, List.map_nil, DataW.weightsEach, List.mem_append, List.append_nil] at hw
  match cs, hl with
  | [v0, v1, v2, v3, v4, v5, v6], _ =>
    simp only [cells_int, cells_expr, List.drop_zero, List.drop_succ_cons, List.take_succ_cons, List.take_zero] at h0 h1 h2
    obtain ⟨kd, e0, _, b0⟩ := DataW.trod_int Tryz.underlying3 h0
    simp only [List.cons.injEq, and_true] at e0
    subst e0
    have hkd : IntKind.i64.min ≤ kd ∧ kd ≤ IntKind.i64.max := by simpa [Lit.wf] using b0
    obtain ⟨a, u0, u1, u2, ea, ra, sa⟩ := open_expr n _ _ h1 (fun k hk => hw k (.inr (.inl hk)))
    obtain ⟨b, w0, w1, w2, eb, rb, sb⟩ := open_expr n _ _ h2 (fun k hk => hw k (.inr (.inr hk)))
    simp only [List.cons.injEq, and_true] at ea eb
    obtain ⟨rfl, rfl, rfl⟩ := ea
    obtain ⟨rfl, rfl, rfl⟩ := eb
    exact ⟨(kd, a, b), (.int .i64 kd, (_, _, _), (_, _, _)), rfl, ⟨rfl, ra, rb⟩, hkd, sa, sb⟩
set_option maxRecDepth 100000 in
theorem open_fields {fuel : Nat} {v : Value} {y : DataW H × List MemPlace} (h : DataW.trod enc Tryz.prog W base sp held fuel 31 [v] = some y) (hw : ∀ n ∈ y.1.weights Tryz.prog 31, n ≤ reachBytes) :
    ∃ (sl : Option Addr) (n c : Nat) (ts : List (Int × E × E)), v = .slice sl n c ∧ FS W (fun b => b < W.heap.size) sl n ts ∧ n ≤ c ∧ n ≤ 140737488355328 ∧ ∀ f ∈ ts, SmlF f := by
  rcases DataW.trod_slice Tryz.underlying31 h with ⟨e2, -⟩ | ⟨a, len, cap, elems, rest, m, hm, e2, d2, hb, hlc, hcm, hel, hE, -, -⟩
  · simp only [List.cons.injEq, and_true] at e2
    subst e2
    exact ⟨none, 0, 0, [], rfl, ⟨rfl, fun i t ht => by simp at ht⟩, Nat.le_refl _, by omega, by simp⟩
  · simp only [List.cons.injEq, and_true] at e2
    subst e2
    have d2' : y.1 = (DataW.slice (elems.map (·.1)) (rest.map (·.1))) := by rw [show y = _ from d2]
    rw [d2'] at hw
    simp only [DataW.weights, Tryz.underlying31] at hw
    have hlr := hw _ (List.mem_cons_self ..)
    have hrb := reachBytes_lt
    have hbf := bytes_field
    simp only [List.length_map] at hlr
    have hll : len ≤ 140737488355328 := by
      have h1 := Nat.le_mul_of_pos_right (elems.length + rest.length) hbf
      omega
    have hx : ∀ i, ∃ q : (Int × E × E) × F7, i < len → (∀ j v, (cells7 q.2)[j]? = some v → W.cell? ⟨a.block, a.off + i * 7 + j, none⟩ = some v) ∧ a = ⟨a.block, a.off, none⟩ ∧ a.block < W.heap.size ∧ RepF W (fun b => b < W.heap.size) q.1 q.2 ∧ SmlF q.1 := fun i => by
      by_cases hi : i < len
      · have hEi := hE i hi
        have hil : i < elems.length := by omega
        rw [List.getElem?_eq_getElem hil, cells_field] at hEi
        obtain ⟨cs', hc, ht⟩ := Option.bind_eq_some_iff.1 hEi
        obtain ⟨x, q, rfl, hr, hsm⟩ := open_field7 ht (fun k hk => hw k (List.mem_cons_of_mem _ (List.mem_append_left _ (weightsAll_mem (List.mem_map.2 ⟨_, List.getElem_mem hil, rfl⟩) hk))))
        obtain ⟨_, hcl, hat⟩ := World.cells?_some hc
        have hE0 := hE 0 (by omega)
        rw [List.getElem?_eq_getElem (show 0 < elems.length by omega), cells_field] at hE0
        obtain ⟨cs0, hc0, _⟩ := Option.bind_eq_some_iff.1 hE0
        obtain ⟨_, hcl0, hat0⟩ := World.cells?_some hc0
        obtain ⟨v, hv⟩ : ∃ v, cs0[0]? = some v := ⟨cs0[0]'(by omega), List.getElem?_eq_getElem (by omega)⟩
        have gg : W.cell? a = some v := by
          have := (hat0 0 (by decide)).trans hv
          simpa [Addr.add] using this
        have ha := spot_cell gg
        refine ⟨(x, q), fun _ => ⟨fun j u hu => ?_, ha, World.block_lt_of_cell? W a gg, hr, hsm⟩⟩
        have hj : j < 7 := (List.getElem?_eq_some_iff.1 hu).1
        have g := hat j hj
        rw [ha, spot_plus, spot_plus] at g
        exact g.trans hu
      · exact ⟨((0, .mk 0 ⟨#[]⟩ [], .mk 0 ⟨#[]⟩ []), (.nilIface, (.nilIface, .nilIface, .nilIface), (.nilIface, .nilIface, .nilIface))), fun h => absurd h hi⟩
    have hlen : ((List.range len).map fun i => (Classical.choose (hx i)).1).length = len := by simp
    have hget : ∀ i u, ((List.range len).map fun i => (Classical.choose (hx i)).1)[i]? = some u → i < len ∧ u = (Classical.choose (hx i)).1 := fun i u hu => by
      have hi : i < len := by rw [← hlen]; exact (List.getElem?_eq_some_iff.1 hu).1
      rw [List.getElem?_map, List.getElem?_range hi] at hu
      simp at hu
      exact ⟨hi, hu.symm⟩
    refine ⟨some a, len, cap, (List.range len).map fun i => (Classical.choose (hx i)).1, rfl, ⟨hlen.symm, fun i u hu => ?_⟩, hlc, hll, fun f hf => ?_⟩
    · obtain ⟨hi, rfl⟩ := hget i u hu
      obtain ⟨g0, ha, hbl, hr, -⟩ := Classical.choose_spec (hx i) hi
      exact ⟨a.block, a.off, (Classical.choose (hx i)).2, by rw [← ha], hbl, hr, g0⟩
    · obtain ⟨i, hi, rfl⟩ := List.mem_map.1 hf
      exact (Classical.choose_spec (hx i) (List.mem_range.1 hi)).2.2.2.2
set_option maxRecDepth 100000 in
theorem open_source {r : Reach} {b0 : Nat} {v : Value} {d : DataW H} {q : List MemPlace} (hv : Value.okWide Tryz.prog W r b0 33 v)
    (h : DataW.Trod enc Tryz.prog W base sp held 33 v d q) (hw : ∀ n ∈ d.weights Tryz.prog 33, n ≤ reachBytes) : ∃ x, RepR W (fun b => b < W.heap.size) x v ∧ SmlS x := by
  have hs := Tryz.underlying33
  obtain ⟨cs, rfl, hsz⟩ := okWide_struct hs hv
  rw [cells_source] at hsz
  obtain ⟨l⟩ := cs
  match l, hsz with
  | [v0, v1, v2, v3, v4, v5, v6], _ =>
    obtain ⟨fuel, hf⟩ := h
    obtain ⟨y0, y1, y2, n, e, _, h0, h1, h2⟩ := trod_struct3 hs hf
    simp only [Prod.mk.injEq] at e
    obtain ⟨rfl, rfl⟩ := e
    simp only [DataW.weights, hs, List.map_cons, List.map_nil, DataW.weightsEach, List.mem_append, List.append_nil] at hw
    simp only [Value.cells, cells_fieldS, cells_expr, List.drop_zero, List.drop_succ_cons, List.take_succ_cons, List.take_zero] at h0 h1 h2
    obtain ⟨a, u0, u1, u2, ea, ra, sa⟩ := open_expr n _ _ h0 (fun k hk => hw k (.inl hk))
    obtain ⟨b, w0, w1, w2, eb, rb, sb⟩ := open_expr n _ _ h1 (fun k hk => hw k (.inr (.inl hk)))
    simp only [List.cons.injEq, and_true] at ea eb
    obtain ⟨rfl, rfl, rfl⟩ := ea
    obtain ⟨rfl, rfl, rfl⟩ := eb
    obtain ⟨sl, m, c, ts, rfl, hF, hc, hl, hT⟩ := open_fields h2 (fun k hk => hw k (.inr (.inr hk)))
    obtain ⟨k1, σ1, sl1, n1, c1, e1⟩ := ra.vals
    obtain ⟨k2, σ2, sl2, n2, c2, e2⟩ := rb.vals
    simp only [Value.agg.injEq, Array.mk.injEq, List.cons.injEq, and_true] at e1 e2
    obtain ⟨rfl, rfl, rfl⟩ := e1
    obtain ⟨rfl, rfl, rfl⟩ := e2
    exact ⟨⟨a, b, ts⟩, ⟨_, _, _, _, _, _, _, _, _, _, sl, m, c, rfl, ra, rb, hF, hc⟩, sa, sb, by rw [← hF.1]; exact hl, hT⟩
set_option maxRecDepth 100000 in
theorem open_fld {r : Reach} {b0 : Nat} {v : Value} {d : DataW H} {q : List MemPlace} (hv : Value.okWide Tryz.prog W r b0 35 v)
    (h : DataW.Trod enc Tryz.prog W base sp held 35 v d q) (hw : ∀ n ∈ d.weights Tryz.prog 35, n ≤ reachBytes) : ∃ t q, v = .agg (cells7 q).toArray ∧ RepF W (fun b => b < W.heap.size) t q ∧ SmlF t := by
  have hs := Tryz.underlying35
  obtain ⟨cs, rfl, hsz⟩ := okWide_struct hs hv
  obtain ⟨l⟩ := cs
  obtain ⟨fuel, hf⟩ := h
  obtain ⟨t, q, e, hr, hT⟩ := open_field7 (by simpa [Value.cells] using hf) hw
  exact ⟨t, q, by rw [← e], hr, hT⟩
end
end Rc
end Go.Proofs.YtflhmoelenmomaaGreatDoor

/-
  Expressions that came in: as arguments of a law.
-/
namespace Go.Proofs.YtflhmoelenmomaaGreatDoor
open Go.RowKit Go.WideShapes Go.ChangeShapes Go.Deep
namespace Ev
open Rc

section
variable {H : Type} {enc : TypeId × Value → H} {W : World} {base : Nat} {sp : Nat → Bool} {held : Bool}
set_option maxRecDepth 100000 in
theorem open_ex {r : Reach} {b0 : Nat} {v : Value} {d : DataW H} {q : List MemPlace} (hv : Value.okWide Tryz.prog W r b0 24 v)
    (h : DataW.Trod enc Tryz.prog W base sp held 24 v d q) (hw : ∀ n ∈ d.weights Tryz.prog 24, n ≤ reachBytes) : ∃ x, RepX W (fun b => b < W.heap.size) x v ∧ Sml x := by
  have hs := Tryz.underlying24
  obtain ⟨cs, rfl, hsz⟩ := okWide_struct hs hv
  obtain ⟨l⟩ := cs
  obtain ⟨fuel, hf⟩ := h
  obtain ⟨x, v0, v1, v2, e, hr, hT⟩ := open_expr fuel _ _ (by simpa [Value.cells] using hf) hw
  exact ⟨x, by rw [← e] at hr; exact hr, hT⟩
end
end Ev
end Go.Proofs.YtflhmoelenmomaaGreatDoor
