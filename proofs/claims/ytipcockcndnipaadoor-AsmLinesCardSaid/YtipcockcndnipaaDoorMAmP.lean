/-
  Arguments that came in: lists of instructions, an instruction, lists of texts. A list appended to a list.
-/
import Derived.Test.YtipcockcndnipaaDoorMAmA
import Derived.Deep.Slices
import Derived.Deep.Fields
import Derived.ChangeSame
import Derived.SizedLaws
import Derived.Lib.SmallJoins
import Derived.SliceStrings
namespace Go.Proofs.YtipcockcndnipaaDoor
open Go.RowKit Go.WideShapes Go.ChangeShapes Go.Deep
namespace Cd
section
variable {H : Type} {enc : TypeId × Value → H} {P : Program} {w : World} {base : Nat} {spare : Nat → Bool} {held : Bool}
theorem open_slice_fields {t e : TypeId} {fs : Array Field} {fuel : Nat} {cs : List Value} {x : DataW H × List MemPlace} (ht : P.underlying t = some (.slice e)) (he : P.underlying e = some (.struct fs))
    (hone : oneCellFields P fs = true) (hC : P.cellsOf e = fs.size) (h : DataW.trod enc P w base spare held fuel t cs = some x) :
    (cs = [.slice none 0 0]) ∨
    ∃ (a : Addr) (len cap : Nat), cs = [.slice (some a) len cap] ∧ len ≤ cap ∧ cap ≤ maxLen ∧
      ∀ i, i < len → ∃ (n : Nat), ∀ (j : Nat) (f : Field), fs[j]? = some f → ∃ (v : Value) (y : DataW H × List MemPlace), w.cell? (a.add (i * fs.size + j)) = some v ∧ DataW.trod enc P w base spare held n f.type [v] = some y := by
  rcases open_slice ht h with h0 | ⟨a, len, cap, m, n, D, Pl, hcs, hb, hl, hm, hmm, hx, hi⟩
  · exact .inl h0.1
  · refine .inr ⟨a, len, cap, hcs, hl, hm, fun i hil => ?_⟩
    have him : i < m := by rw [hmm]; split <;> omega
    obtain ⟨cs', hc, ht'⟩ := hi i him
    rw [hC] at hc
    obtain ⟨ys, n', hn', hy, hlen, hyl, hf⟩ := DataW.trod_struct he ht'
    obtain ⟨_, hcl, hat⟩ := World.cells?_some hc
    refine ⟨n', fun j f hj => ?_⟩
    obtain ⟨ho, hk⟩ := hone_of hone j f hj
    have hjl : j < fs.size := (Array.getElem?_eq_some_iff.1 hj).1
    have hcell := hat j hjl
    have hv : cs'[j]? = some (cs'[j]'(by omega)) := List.getElem?_eq_getElem (by omega)
    have h1 := hf j f hj
    rw [ho, hk] at h1
    have hone' : (cs'.drop j).take 1 = [cs'[j]'(by omega)] := by
      rw [List.drop_eq_getElem_cons (by omega)]
      rfl
    rw [hone'] at h1
    have hys : ys[j]? = some (ys[j]'(by omega)) := List.getElem?_eq_getElem (by omega)
    refine ⟨_, _, ?_, h1.trans hys⟩
    rw [← Go.Deep.add_add, hcell, hv]
end
theorem cell_spot {W : World} {a : Addr} {v : Value} (h : W.cell? a = some v) : a = ⟨a.block, a.off, none⟩ := by
  obtain ⟨b, o, s⟩ := a
  cases s with
  | none => rfl
  | some s =>
    simp only [World.cell?] at h
    split at h <;> simp at h
theorem spot_add (b o n : Nat) : (⟨b, o, none⟩ : Addr).add n = ⟨b, o + n, none⟩ := by
  unfold Addr.add
  split
  · rename_i h; subst h; rfl
  · rfl

set_option maxRecDepth 100000 in
/-- a list of instructions that came in -/
theorem open_ins {H : Type} {enc : TypeId × Value → H} {W : World} {r : Reach} {b0 base : Nat} {sp : Nat → Bool} {held : Bool} {v : Value} {d : DataW H} {q : List MemPlace} (hv : Value.okWide Tryd.prog W r b0 28 v)
    (h : DataW.Trod enc Tryd.prog W base sp held 28 v d q) : ∃ p, PS W v p := by
  have hu := Tryd.underlying28
  have hs := Tryd.underlying23
  obtain ⟨sl, n, c, rfl⟩ := okWide_slice hu hv
  obtain ⟨fuel, hf⟩ := h
  rcases open_slice_fields hu hs (by kernel_rfl) (by kernel_rfl) hf with h0 | ⟨a, len, cap, hcs, hl, hm, hi⟩
  · simp [Value.cells] at h0
    obtain ⟨rfl, rfl, rfl⟩ := h0
    exact ⟨[], by simp, by simp, none, 0, rfl, fun k x hk => by simp at hk⟩
  · simp [Value.cells] at hcs
    obtain ⟨rfl, rfl, rfl⟩ := hcs
    have hx : ∀ i, ∃ x : I, i < n → At3 W a.block a.off i x ∧ a.block < W.heap.size ∧ a = ⟨a.block, a.off, none⟩ ∧ -9223372036854775808 ≤ x.n ∧ x.n ≤ 9223372036854775807 := fun i => by
      by_cases hin : i < n
      · obtain ⟨m, hf⟩ := hi i hin
        obtain ⟨v0, y0, g0, t0⟩ := hf 0 _ rfl
        obtain ⟨v1, y1, g1, t1⟩ := hf 1 _ rfl
        obtain ⟨v2, y2, g2, t2⟩ := hf 2 _ rfl
        obtain ⟨x0, e0, _, _⟩ := DataW.trod_int Tryd.underlying3 t0
        obtain ⟨x1, e1, _, w1⟩ := DataW.trod_int Tryd.underlying3 t1
        obtain ⟨x2, e2, _, _⟩ := DataW.trod_string Tryd.underlying9 t2
        simp at e0 e1 e2
        subst e0 e1 e2
        obtain ⟨m', hf'⟩ := hi 0 (by omega)
        obtain ⟨u, y', gg, _⟩ := hf' 0 _ rfl
        have gg' : W.cell? a = some u := gg
        have ha := cell_spot gg'
        have k0 : W.cell? (a.add (i * 3 + 0)) = some (.int .i64 x0) := g0
        have k1 : W.cell? (a.add (i * 3 + 1)) = some (.int .i64 x1) := g1
        have k2 : W.cell? (a.add (i * 3 + 2)) = some (.string x2) := g2
        rw [ha, spot_add] at k0 k1 k2
        have hw : -9223372036854775808 ≤ x1 ∧ x1 ≤ 9223372036854775807 := by
          have e1 : IntKind.i64.min = -9223372036854775808 := by decide
          have e2 : IntKind.i64.max = 9223372036854775807 := by decide
          simp only [Lit.wf, Bool.and_eq_true, decide_eq_true_eq] at w1
          omega
        exact ⟨⟨x0, x1, x2⟩, fun _ => ⟨⟨k0, k1, k2⟩, World.block_lt_of_cell? W a gg', ha, hw⟩⟩
      · exact ⟨⟨0, 0, ⟨#[]⟩⟩, fun h => absurd h hin⟩
    refine ⟨(List.range n).map fun i => Classical.choose (hx i), ?_⟩
    have hlen : ((List.range n).map fun i => Classical.choose (hx i)).length = n := by simp
    refine ⟨by rw [hlen]; unfold maxLen at hm; omega, fun x hxm => ?_, some a, c, by rw [hlen], fun k x hk => ?_⟩
    · obtain ⟨i, hin, rfl⟩ := List.mem_map.1 hxm
      have h := Classical.choose_spec (hx i) (List.mem_range.1 hin)
      exact h.2.2.2
    · have hkn : k < n := by rw [← hlen]; exact (List.getElem?_eq_some_iff.1 hk).1
      have h := Classical.choose_spec (hx k) hkn
      rw [List.getElem?_map, List.getElem?_range hkn] at hk
      simp at hk
      subst hk
      exact ⟨a.block, a.off, by rw [← h.2.2.1], h.2.1, h.1⟩
set_option maxRecDepth 100000 in
/-- a list of instructions that came in, its room besides -/
theorem open_ins2 {H : Type} {enc : TypeId × Value → H} {W : World} {r : Reach} {b0 base : Nat} {sp : Nat → Bool} {held : Bool} {v : Value} {d : DataW H} {q : List MemPlace} (hv : Value.okWide Tryd.prog W r b0 28 v)
    (h : DataW.Trod enc Tryd.prog W base sp held 28 v d q) : ∃ p, PS W v p ∧ ∀ sl cap, v = .slice sl p.length cap → p.length ≤ cap ∧ (sl = none → cap = 0) := by
  obtain ⟨p, hP⟩ := open_ins hv h
  refine ⟨p, hP, ?_⟩
  rintro sl cap rfl
  obtain ⟨fuel, hf⟩ := h
  rcases open_slice_fields Tryd.underlying28 Tryd.underlying23 (by kernel_rfl) (by kernel_rfl) hf with h0 | ⟨a, len, c, hcs, hl, _, _⟩
  · simp [Value.cells] at h0
    obtain ⟨rfl, h1, h2⟩ := h0
    exact ⟨by rw [h1]; exact Nat.zero_le _, fun _ => h2⟩
  · simp [Value.cells] at hcs
    obtain ⟨rfl, h1, h2⟩ := hcs
    exact ⟨by omega, fun e => by cases e⟩
set_option maxRecDepth 100000 in
/-- an instruction that came in -/
theorem open_one {H : Type} {enc : TypeId × Value → H} {W : World} {r : Reach} {b0 base : Nat} {sp : Nat → Bool} {held : Bool} {v : Value} {d : DataW H} {q : List MemPlace} (hv : Value.okWide Tryd.prog W r b0 23 v)
    (h : DataW.Trod enc Tryd.prog W base sp held 23 v d q) : ∃ x : I, v = IV x ∧ -9223372036854775808 ≤ x.n ∧ x.n ≤ 9223372036854775807 := by
  obtain ⟨v0, v1, v2, y0, y1, y2, n, rfl, _, _, t0, t1, t2⟩ := Go.Joins.open_agg3 Tryd.underlying23 (by kernel_rfl) (by kernel_rfl) hv h
  obtain ⟨x0, e0, _, _⟩ := DataW.trod_int Tryd.underlying3 t0
  obtain ⟨x1, e1, _, w1⟩ := DataW.trod_int Tryd.underlying3 t1
  obtain ⟨x2, e2, _, _⟩ := DataW.trod_string Tryd.underlying9 t2
  simp at e0 e1 e2
  subst e0 e1 e2
  have e1 : IntKind.i64.min = -9223372036854775808 := by decide
  have e2 : IntKind.i64.max = 9223372036854775807 := by decide
  simp only [Lit.wf, Bool.and_eq_true, decide_eq_true_eq] at w1
  exact ⟨⟨x0, x1, x2⟩, rfl, by show _ ≤ x1; omega, by show x1 ≤ _; omega⟩
theorem bytes_ins : Tryd.prog.bytesOf 23 = 32 := by kernel_rfl
set_option maxRecDepth 100000 in
theorem open_ins3 {H : Type} {enc : TypeId × Value → H} {W : World} {r : Reach} {b0 base : Nat} {sp : Nat → Bool} {held : Bool} {v : Value} {d : DataW H} {q : List MemPlace} (hv : Value.okWide Tryd.prog W r b0 28 v)
    (h : DataW.Trod enc Tryd.prog W base sp held 28 v d q) {ts : List TypeId} {ds : List (DataW H)} (hw : (DataW.weightsEach Tryd.prog ts ds).all (· ≤ reachBytes) = true) (ht : ts[0]? = some 28) (hd : ds[0]? = some d) :
    ∃ p, PS W v p ∧ (∃ sl cap, v = .slice sl p.length cap ∧ (sl = none → cap = 0)) ∧ p.length * 32 ≤ 140737488355328 := by
  obtain ⟨p, hP, hq⟩ := open_ins2 hv h
  obtain ⟨sl, cap, rfl, -⟩ := hP.form
  refine ⟨p, hP, ⟨sl, cap, rfl, (hq sl cap rfl).2⟩, ?_⟩
  obtain ⟨fuel, hf⟩ := h
  rcases open_slice Tryd.underlying28 hf with ⟨h0, -⟩ | ⟨a, len, c, m, n, D, Pl, hcs, hb, hl, hm, hmm, hx, hi⟩
  · simp [Value.cells] at h0
    obtain ⟨-, h1, -⟩ := h0
    rw [h1]
    decide
  · simp [Value.cells] at hcs
    obtain ⟨-, h1, -⟩ := hcs
    have hdd := congrArg Prod.fst hx
    simp only at hdd
    rw [hdd] at hd
    have hs := sized_slice hw ht hd Tryd.underlying28
    rw [bytes_ins] at hs
    have hr := reachBytes_lt
    simp only [List.length_map, List.length_range] at hs
    have hpow : (2 : Nat) ^ 47 = 140737488355328 := by decide
    have h2 : len * 32 ≤ (len + (m - len)) * 32 := Nat.mul_le_mul_right _ (Nat.le_add_right _ _)
    omega
set_option maxRecDepth 100000 in
/-- a list of instructions that came in, none of it nil with room -/
theorem open_ins4 {H : Type} {enc : TypeId × Value → H} {W : World} {r : Reach} {b0 base : Nat} {sp : Nat → Bool} {held : Bool} {v : Value} {d : DataW H} {q : List MemPlace} (hv : Value.okWide Tryd.prog W r b0 28 v)
    (h : DataW.Trod enc Tryd.prog W base sp held 28 v d q) : ∃ p, PS W v p ∧ ∃ sl cap, v = .slice sl p.length cap ∧ (sl = none → cap = 0) := by
  obtain ⟨p, hP, hq⟩ := open_ins2 hv h
  obtain ⟨sl, cap, rfl, -⟩ := hP.form
  exact ⟨p, hP, sl, cap, rfl, (hq sl cap rfl).2⟩
/-- a list of texts that came in -/
def LS (W : World) (v : Value) (ls : List ByteArray) : Prop := ls.length ≤ 9223372036854775807 ∧ (∀ x ∈ ls, x.size ≤ 140737488355328) ∧ ∃ (sl : Option Addr) (cap : Nat), v = .slice sl ls.length cap ∧ ∀ k x, ls[k]? = some x → ∃ b o, sl = some ⟨b, o, none⟩ ∧ b < W.heap.size ∧ W.cell? ⟨b, o + k, none⟩ = some (.string x)
theorem weightsAll_str {H : Type} {ss : List ByteArray} {s : ByteArray} (h : s ∈ ss) : s.data.toList.length ∈ DataW.weightsAll (H := H) Tryd.prog 9 (strs ss) := by
  induction ss with
  | nil => cases h
  | cons y ss ih =>
    rw [strs, List.map_cons, DataW.weightsAll]
    rcases List.mem_cons.1 h with rfl | h
    · exact List.mem_append_left _ (by simp [DataW.weights])
    · exact List.mem_append_right _ (ih h)
set_option maxRecDepth 100000 in
theorem open_strs {H : Type} {enc : TypeId × Value → H} {W : World} {r : Reach} {b0 base : Nat} {sp : Nat → Bool} {held : Bool} {v : Value} {d : DataW H} {q : List MemPlace} (hv : Value.okWide Tryd.prog W r b0 55 v)
    (h : DataW.Trod enc Tryd.prog W base sp held 55 v d q) (hw : ∀ n ∈ d.weights Tryd.prog 55, n ≤ reachBytes) : ∃ ls, LS W v ls := by
  have hu := Tryd.underlying55
  obtain ⟨sl, n, c, rfl⟩ := okWide_slice hu hv
  obtain ⟨fuel, hf⟩ := h
  rcases open_strings hu Tryd.underlying9 (by kernel_rfl) hf with ⟨h0, -⟩ | ⟨a, len, cap, ss, hcs, hb, hl, hm, hsl, hx, hc, -⟩
  · simp [Value.cells] at h0
    obtain ⟨rfl, rfl, rfl⟩ := h0
    exact ⟨[], by simp, fun x hx => (by cases hx), none, 0, rfl, fun k x hk => by simp at hk⟩
  · simp [Value.cells] at hcs
    obtain ⟨rfl, rfl, rfl⟩ := hcs
    have hn : n ≤ ss.length := by rw [hsl]; split <;> omega
    have hlen : (ss.take n).length = n := by rw [List.length_take]; omega
    refine ⟨ss.take n, by rw [hlen]; unfold maxLen at hm; omega, fun x hxm => ?_, some a, c, by rw [hlen], fun k x hk => ?_⟩
    · have hd := congrArg Prod.fst hx
      simp only at hd
      subst hd
      have h1 := hw x.data.toList.length (by
        simp only [DataW.weights, hu]
        exact List.mem_cons_of_mem _ (List.mem_append_left _ (weightsAll_str hxm)))
      have hr := reachBytes_lt
      have hpow : (2 : Nat) ^ 47 = 140737488355328 := by decide
      rw [Lib.size_eq]
      omega
    · have hkn : k < n := by rw [← hlen]; exact (List.getElem?_eq_some_iff.1 hk).1
      have h1 := hc k (by omega)
      have h0 := hc 0 (by omega)
      have h0' : W.cell? a = some (.string (ss.getD 0 ByteArray.empty)) := h0
      have ha := cell_spot h0'
      rw [List.getElem?_take, if_pos hkn] at hk
      rw [List.getD_eq_getElem?_getD, hk] at h1
      rw [ha, spot_add] at h1
      exact ⟨a.block, a.off, by rw [← ha], World.block_lt_of_cell? W _ h0', h1⟩
end Cd
namespace Aw
open As

theorem rowI_one : ∀ (p : List Cd.I), ∀ u ∈ rowI p, u.oneCell' = true
  | [], u, h => by simp [rowI] at h
  | x :: p, u, h => by
    have e : rowI (x :: p) = [.int .i64 x.op, .int .i64 x.n, .string x.s] ++ rowI p := by simp [rowI]
    rw [e] at h
    rcases List.mem_append.1 h with h | h
    · simp only [List.mem_cons, List.not_mem_nil, or_false] at h
      obtain rfl | rfl | rfl := h <;> rfl
    · exact rowI_one p u h
/-- v is a slice of the instructions q, nil let in -/
def SR (W : World) (v : Value) (q : List Cd.I) : Prop :=
  (v = .slice none 0 0 ∧ q = []) ∨ ∃ (a : Addr) (c : Nat), v = .slice (some a) q.length c ∧ ∀ j u, (rowI q)[j]? = some u → W.cell? (a.add j) = some u
theorem SR.below {W W' : World} {v : Value} {q : List Cd.I} (h : SR W v q) (hb : Below W.heap.size W W') : SR W' v q := by
  rcases h with ⟨rfl, rfl⟩ | ⟨a, c, rfl, hc⟩
  · exact .inl ⟨rfl, rfl⟩
  · exact .inr ⟨a, c, rfl, fun j u hj => (hb.cell (World.block_lt_of_cell? W _ (hc j u hj))).trans (hc j u hj)⟩
theorem SR.of_ps {W : World} {sl : Option Addr} {cap : Nat} {p : List Cd.I} (h : Cd.PS W (.slice sl p.length cap) p) (hn : sl = none → cap = 0) : SR W (.slice sl p.length cap) p := by
  cases sl with
  | none =>
    rw [hn rfl]
    cases p with
    | nil => exact .inl ⟨rfl, rfl⟩
    | cons x p =>
      obtain ⟨sl', cap', e, hf⟩ := h.form
      cases e
      obtain ⟨b, o, e, -⟩ := hf 0 x rfl
      cases e
  | some a =>
    refine .inr ⟨a, cap, rfl, fun j u hj => ?_⟩
    obtain ⟨sl', cap', e, hf⟩ := h.form
    cases e
    have hjl : j < p.length * 3 := by rw [← rowI_len]; exact (List.getElem?_eq_some_iff.1 hj).1
    have hi : j / 3 < p.length := by omega
    obtain ⟨b, o, e, _, h3⟩ := hf (j / 3) p[j / 3] (List.getElem?_eq_getElem hi)
    cases e
    obtain ⟨g1, g2, g3⟩ := rowI_at p (j / 3) p[j / 3] (List.getElem?_eq_getElem hi)
    rw [Cd.spot_add]
    have hr : j = j / 3 * 3 ∨ j = j / 3 * 3 + 1 ∨ j = j / 3 * 3 + 2 := by omega
    rcases hr with e | e | e
    · rw [e, g1] at hj
      rw [e, ← Option.some.inj hj]
      exact h3.c0
    · rw [e, g2] at hj
      rw [e, ← Option.some.inj hj]
      exact h3.c1
    · rw [e, g3] at hj
      rw [e, ← Option.some.inj hj]
      exact h3.c2
theorem own_empty (W : World) : OI (W.alloc (.cells #[] 23)) W.heap.size (.slice (some ⟨W.heap.size, 0, none⟩) 0 0) [] := World.ownsRow_lit W #[] 0 (Nat.le_refl _) (by decide) rfl
theorem wpList_append_sr {ops : Array Oper} {Q : Exit → Act → World → Prop} {rest : List Oper} {o : Oper} {a : Act} {w : World} (hgd : Region.wanted o (yielded ops a.tmps) = true) (s x : Operand)
    (ho : o.op = .call { callee := .builtin .append, args := #[s, x], argTypes := #[28, 28] })
    (base : Nat) (v : Value) (p : List Cd.I) (hs : a.eval s = v) (hown : OI w base v p)
    (vs : Value) (q : List Cd.I) (hx : a.eval x = vs) (hq : SR w vs q) (hpl : (p.length + q.length) * 32 ≤ 140737488355328) (hbase : base ≤ w.heap.size)
    (h : ∀ v' w', OI w' base v' (p ++ q) → w.grownBy w' v.ownBlock → wpList Tryd.prog ops Q rest (a.put o.dst v') w') : wpList Tryd.prog ops Q (o :: rest) a w :=
  wpList_step fun K hK => by
    rw [if_pos hgd]
    obtain ⟨i0, hi0, hz0, hz1, hz2⟩ := info_parts info_i
    rcases hq with ⟨rfl, rfl⟩ | ⟨ad, c, rfl, hc⟩
    · have hrun := run_append_owned_none (P := Tryd.prog) (w := w) base 28 o.type 23 i0 3 Tryd.underlying28 hi0 v p.length (rowI p) hown
      unfold Oper.wp
      simp [execOp, ho, resolve, invoke, builtin, hs, hx, hrun, Result.andThen]
      exact hK _ _ (h v w (by simpa using hown) ⟨rfl, rfl, rfl, Nat.le_refl _, fun _ _ _ => rfl⟩)
    · refine wp_append_own w s x 28 ho base 23 i0 _ 3 32 Tryd.underlying28 hi0 hz0 hz1 hz2 rfl (by decide) v p.length (rowI p) hs hown ad q.length c (rowI q) hx (rowI_len q) hc (rowI_one q) (by unfold maxLen; omega) hpl hbase ?_
      intro v' w' h1 h2 _
      refine hK _ _ (h v' w' ?_ h2)
      unfold OI
      rw [rowI_app, List.length_append]
      exact h1
/-- the program in memory as a slice of instructions -/
theorem ps_of' {W : World} {B : Nat} {v : Value} {p : List Cd.I} (h : OI W B v p) (hl : p.length * 32 ≤ 140737488355328) (hn : ∀ x ∈ p, -9223372036854775808 ≤ x.n ∧ x.n ≤ 9223372036854775807) : Cd.PS W v p := by
  obtain ⟨sl, cap, rfl⟩ := own_form h
  refine ⟨by omega, hn, sl, cap, rfl, fun k x hx => ?_⟩
  obtain ⟨g, rfl, _, hg, hc, _⟩ := own_cells h (by have := (List.getElem?_eq_some_iff.1 hx).1; omega)
  obtain ⟨r1, r2, r3⟩ := rowI_at p k x hx
  have h1 := hc _ _ r1
  have h2 := hc _ _ r2
  have h3 := hc _ _ r3
  exact ⟨g, 0, rfl, hg, by simpa using h1, by simpa using h2, by simpa using h3⟩
theorem chk_zero {p : List Cd.I} (h : (Cd.check p).2 = 0) : Cd.check p = (0, 0) ∧ p.length ≤ 256 ∧ p ≠ [] := by
  unfold Cd.check at h ⊢
  split at h
  · cases h
  · rename_i hl
    rw [if_neg hl]
    cases hb : Cd.firstBad p.length p with
    | some i => rw [hb] at h; cases h
    | none => exact ⟨rfl, by omega, fun e => hl (.inl (by rw [e]; rfl))⟩
theorem right_all {p : List Cd.I} (h : (Cd.check p).2 = 0) (hn : ∀ x ∈ p, -9223372036854775808 ≤ x.n ∧ x.n ≤ 9223372036854775807) : ∀ x ∈ p, Cd.right x p.length = true ∧ N64 x := fun x hx => ⟨ok_right h x hx, hn x hx⟩
theorem dis_le {p : List Cd.I} (h : (Cd.check p).2 = 0) (hn : ∀ x ∈ p, -9223372036854775808 ≤ x.n ∧ x.n ≤ 9223372036854775807) : (disL p).length ≤ p.length * 1000 := by
  have hl := (chk_zero h).2.1
  have key : ∀ k, k ≤ p.length → (txL p k).length ≤ k * 1000 := by
    intro k
    induction k with
    | zero => intro _; rw [tx_zero]; exact Nat.le_refl _
    | succ k ih =>
      intro hk
      have hx : p[k]? = some p[k] := List.getElem?_eq_getElem (by omega)
      have hm := List.mem_of_getElem? hx
      exact tx_len hx (by omega) (right_small (ok_right h _ hm)) (hn _ hm).1 (hn _ hm).2 (ih (by omega))
  rw [← tx_all]
  exact key _ (Nat.le_refl _)
end Aw
end Go.Proofs.YtipcockcndnipaaDoor
