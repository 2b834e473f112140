/-
  Walk: the law RecipeFields. (printed by gen_RpQ.py)
-/
import Derived.Test.YtcigggffaofkhaaMRpO
import Derived.Test.YtcigggffaofkhaaMRpA
import Derived.Maps.AppendAt
import Derived.Laws.OwnMore
namespace Go.Proofs.Ytcigggffaofkhaa
open Go.RowKit
namespace Rc

theorem wp_append_at {P : Program} (w : World) {o : Oper} {a : Act} {K : Act → World → Prop} {Q : Exit → Act → World → Prop} (s x : Operand) (t : TypeId)
    (ho : o.op = .call { callee := .builtin .append, args := #[s, x], argTypes := #[t, t] })
    (base : Nat) (e : TypeId) (i : TypeInfo) (z : Value) (size bytes : Nat) (ht : P.underlying t = some (.slice e)) (hi : P.info? e = some i) (hz : i.zero = some z)
    (hsize : i.size = size) (hby : i.bytes = bytes) (hzs : z.cells.size = size) (hsz : 0 < size)
    (v : Value) (n : Nat) (xs : List Value) (hs : a.eval s = v) (hown : w.ownsRow base e size v n xs)
    (ad : Addr) (m c : Nat) (news : List Value) (hx : a.eval x = .slice (some ad) m c) (hl : news.length = m * size) (hnews : ∀ j u, news[j]? = some u → w.cell? (ad.add j) = some u) (h1 : ∀ u ∈ news, u.oneCell' = true)
    (h63 : n + m ≤ maxLen) (hbytes : (n + m) * bytes ≤ 140737488355328) (hbase : base ≤ w.heap.size)
    (h : ∀ v' w', w'.ownsRow base e size v' (n + m) (xs ++ news) → w.grownBy w' v.ownBlock → (v'.ownBlock = v.ownBlock ∨ v'.ownBlock = some w.heap.size) → K (a.put o.dst v') w') : o.wp P a w K Q := by
  obtain ⟨v', w', hr, h2, h3, _, h5⟩ := run_append_own_at (P := P) w base t o.type e i z size bytes ht hi hz hsize hby hzs hsz v n xs hown ad m c news hl hnews h1 h63 hbytes hbase
  unfold Oper.wp execOp
  simp only [ho, resolve, invoke, builtin, Sem.run_bind, Sem.run_pure, Result.andThen_ok, List.map_toArray, List.map_cons, List.map_nil, hs, hx, hr]
  exact h v' w' h2 h3 h5
theorem wp_append_nil {P : Program} (w : World) {o : Oper} {a : Act} {K : Act → World → Prop} {Q : Exit → Act → World → Prop} (s x : Operand) (t : TypeId)
    (ho : o.op = .call { callee := .builtin .append, args := #[s, x], argTypes := #[t, t] })
    (base : Nat) (e : TypeId) (i : TypeInfo) (size : Nat) (ht : P.underlying t = some (.slice e)) (hi : P.info? e = some i)
    (v : Value) (n : Nat) (xs : List Value) (hs : a.eval s = v) (hown : w.ownsRow base e size v n xs) (hx : a.eval x = .slice none 0 0) (h : K (a.put o.dst v) w) : o.wp P a w K Q := by
  have hr := run_append_owned_none (P := P) (w := w) base t o.type e i size ht hi v n xs hown
  unfold Oper.wp execOp
  simp only [ho, resolve, invoke, builtin, Sem.run_bind, Sem.run_pure, Result.andThen_ok, List.map_toArray, List.map_cons, List.map_nil, hs, hx, hr]
  exact h
/-- the fields' values, as one row -/
theorem fs_qs {W : World} {S : Nat → Prop} {sl : Option Addr} {n : Nat} {ts : List (Int × E × E)} (h : FS W S sl n ts) : ∃ qs : List F7, qs.length = n ∧ (∀ (i : Nat) (q : F7) (t : Int × E × E), qs[i]? = some q → ts[i]? = some t → RepF W S t q) ∧ (n = 0 ∨ ∃ b o, sl = some ⟨b, o, none⟩ ∧ S b ∧ ∀ j u, (row7 qs)[j]? = some u → W.cell? ⟨b, o + j, none⟩ = some u) := by
  obtain ⟨hn, h⟩ := h
  have hx : ∀ i, ∃ q : F7, ∀ t, ts[i]? = some t → ∃ b o, sl = some ⟨b, o, none⟩ ∧ S b ∧ RepF W S t q ∧ ∀ j v, (cells7 q)[j]? = some v → W.cell? ⟨b, o + i * 7 + j, none⟩ = some v := fun i => by
    by_cases hi : i < ts.length
    · obtain ⟨b, o, q, h1, h2, h3, h4⟩ := h i ts[i] (List.getElem?_eq_getElem hi)
      refine ⟨q, fun t ht => ?_⟩
      rw [List.getElem?_eq_getElem hi] at ht
      cases ht
      exact ⟨b, o, h1, h2, h3, h4⟩
    · exact ⟨(.nilIface, (.nilIface, .nilIface, .nilIface), (.nilIface, .nilIface, .nilIface)), fun t ht => by rw [List.getElem?_eq_none (by omega)] at ht; cases ht⟩
  have hget : ∀ i q, ((List.range n).map fun i => Classical.choose (hx i))[i]? = some q → i < n ∧ q = Classical.choose (hx i) := fun i q hq => by
    have hi : i < n := by have := (List.getElem?_eq_some_iff.1 hq).1; simpa using this
    rw [List.getElem?_map, List.getElem?_range hi] at hq
    simp only [Option.map_some, Option.some.injEq] at hq
    exact ⟨hi, hq.symm⟩
  refine ⟨(List.range n).map fun i => Classical.choose (hx i), by simp, fun i q t hq ht => ?_, ?_⟩
  · obtain ⟨hi, rfl⟩ := hget i q hq
    obtain ⟨_, _, _, _, h3, _⟩ := Classical.choose_spec (hx i) t ht
    exact h3
  · by_cases h0 : n = 0
    · exact .inl h0
    · right
      obtain ⟨b, o, h1, h2, _, _⟩ := Classical.choose_spec (hx 0) ts[0] (List.getElem?_eq_getElem (by omega))
      refine ⟨b, o, h1, h2, fun j u hu => ?_⟩
      have hlen := (List.getElem?_eq_some_iff.1 hu).1
      rw [row7_len] at hlen
      have hi : j / 7 < n := by simp at hlen; omega
      have hq : ((List.range n).map fun i => Classical.choose (hx i))[j / 7]? = some (Classical.choose (hx (j / 7))) := by rw [List.getElem?_map, List.getElem?_range hi]; rfl
      have hr := row7_get _ (j / 7) _ hq (j % 7) (Nat.mod_lt _ (by decide))
      rw [show j / 7 * 7 + j % 7 = j by omega] at hr
      rw [hr] at hu
      obtain ⟨b', o', e1, e2, e3, e4⟩ := Classical.choose_spec (hx (j / 7)) (ts[j / 7]'(by omega)) (List.getElem?_eq_getElem _)
      rw [h1] at e1
      simp only [Option.some.injEq, Addr.mk.injEq, and_true] at e1
      obtain ⟨rfl, rfl⟩ := e1
      have := e4 _ u hu
      rw [show o + j / 7 * 7 + j % 7 = o + j by omega] at this
      exact this
/-- a row of fields of one's own -/
theorem own_fs {W : World} {B : Nat} {S : Nat → Prop} {sl : Option Addr} {n c : Nat} {ts : List (Int × E × E)} {qs : List F7} (h : W.ownsRow B 47 7 (.slice sl n c) n (row7 qs)) (hl : qs.length = n) (ht : ts.length = n) (hB : ∀ b, B ≤ b → b < W.heap.size → S b)
    (hr : ∀ (i : Nat) (q : F7) (t : Int × E × E), qs[i]? = some q → ts[i]? = some t → RepF W S t q) : FS W S sl n ts ∧ n ≤ c := by
  rcases Nat.eq_zero_or_pos n with h0 | h0
  · subst h0
    exact ⟨⟨ht.symm, fun i t hi => by rw [List.length_eq_zero_iff.1 ht] at hi; simp at hi⟩, Nat.zero_le _⟩
  · obtain ⟨g, c', he, hg, hlt⟩ := h.form h0
    cases he
    refine ⟨⟨ht.symm, fun i t hi => ?_⟩, own_room h⟩
    have hin : i < qs.length := by have := (List.getElem?_eq_some_iff.1 hi).1; omega
    have hq : qs[i]? = some qs[i] := List.getElem?_eq_getElem hin
    refine ⟨g, 0, qs[i], rfl, hB g hg hlt, hr i _ t hq hi, fun j v hv => ?_⟩
    have hj : j < 7 := (List.getElem?_eq_some_iff.1 hv).1
    have := h.cells (g := g) rfl (i * 7 + j) v (by rw [row7_get qs i _ hq j hj]; exact hv)
    have hadd : ∀ n, (⟨g, 0, none⟩ : Addr).add n = ⟨g, n, none⟩ := fun n => by unfold Addr.add; split <;> simp_all
    rw [hadd] at this
    rw [Nat.zero_add]
    exact this
theorem row7_one (qs : List F7) (S : Nat → Prop) (W : World) (ts : List (Int × E × E)) (hl : qs.length = ts.length) (hr : ∀ (i : Nat) (q : F7) (t : Int × E × E), qs[i]? = some q → ts[i]? = some t → RepF W S t q) : ∀ u ∈ row7 qs, u.oneCell' = true := by
  intro u hu
  obtain ⟨q, hq, hu⟩ := List.mem_flatMap.1 hu
  obtain ⟨i, hi, rfl⟩ := List.mem_iff_getElem.1 hq
  exact (hr i _ (ts[i]'(by omega)) (List.getElem?_eq_getElem hi) (List.getElem?_eq_getElem _)).one u hu
set_option maxHeartbeats 8000000 in
set_option maxRecDepth 100000 in
theorem fieldslaw_any {x : Src} (hx : SmlS x) {t : Int × E × E} (ht : SmlF t) {q : F7} (W : World) (v : Value) (hr : RepR W (fun b => b < W.heap.size) x v) (hf : RepF W (fun b => b < W.heap.size) t q) (hnil : ∀ a b c' d e f n c, v = .agg #[a, b, c', d, e, f, .slice none n c] → c = 0) : Calls Try.prog 8 #[v, .agg (cells7 q).toArray] W fun e W' => e = .returned (.bool true) ∧ Below W.heap.size W W' := by
  have HR := Lib.hid hr
  obtain ⟨k1, σ1, sl1, n1, c1, k2, σ2, sl2, n2, c2, sl, n, c, rfl, rn, rv, rf, hnc⟩ := hr
  obtain ⟨qs, hql, hqr, hqc⟩ := fs_qs rf
  have HQ := Lib.hid (And.intro hql (And.intro hqr hqc))
  have HFN := Lib.hid rf.1
  have HNIL := Lib.hid (show sl = none → c = 0 from fun e => hnil _ _ _ _ _ _ n c (by rw [e]))
  have HLIM0 := Lib.hid (show n ≤ c by assumption)
  clear hnil
  have HN := Lib.hid rn
  have HV := Lib.hid rv
  clear rn rv rf hql hqr hqc hnc
  obtain ⟨q1, ⟨q2, q3, q4⟩, q5, q6, q7⟩ := q
  have HF := Lib.hid hf
  obtain ⟨y1, y2, y3⟩ := hf
  simp only at y1 y2 y3
  obtain ⟨u1, τ1, vl1, e1, d1, hv⟩ := y2.vals
  simp only [Value.agg.injEq, Array.mk.injEq, List.cons.injEq, and_true] at hv
  obtain ⟨rfl, rfl, rfl⟩ := hv
  obtain ⟨u2, τ2, vl2, e2, d2, hv⟩ := y3.vals
  simp only [Value.agg.injEq, Array.mk.injEq, List.cons.injEq, and_true] at hv
  obtain ⟨rfl, rfl, rfl⟩ := hv
  subst y1
  have HY := Lib.hid (And.intro y2 y3)
  have HX := Lib.hid hx
  have HT := Lib.hid ht
  clear y2 y3 hx ht
  have hq := QV.start W #[.int .i64 k1, .string σ1, .slice sl1 n1 c1, .int .i64 k2, .string σ2, .slice sl2 n2 c2, .slice sl n c]
  have hA : Below (W.alloc (.cells #[.int .i64 k1, .string σ1, .slice sl1 n1 c1, .int .i64 k2, .string σ2, .slice sl2 n2 c2, .slice sl n c] 29)).heap.size (W.alloc (.cells #[.int .i64 k1, .string σ1, .slice sl1 n1 c1, .int .i64 k2, .string σ2, .slice sl2 n2 c2, .slice sl n c] 29)) ((W.alloc (.cells #[.int .i64 k1, .string σ1, .slice sl1 n1 c1, .int .i64 k2, .string σ2, .slice sl2 n2 c2, .slice sl n c] 29)).alloc (.cells #[.int .i64 t.1, .int .i64 u1, .string τ1, .slice vl1 e1 d1, .int .i64 u2, .string τ2, .slice vl2 e2 d2] 47)) := (Below.refl _ _).alloc (Nat.le_refl _) _
  have hG : ((W.alloc (.cells #[.int .i64 k1, .string σ1, .slice sl1 n1 c1, .int .i64 k2, .string σ2, .slice sl2 n2 c2, .slice sl n c] 29)).alloc (.cells #[.int .i64 t.1, .int .i64 u1, .string τ1, .slice vl1 e1 d1, .int .i64 u2, .string τ2, .slice vl2 e2 d2] 47)).heap[W.heap.size + 1]? = some (.cells #[.int .i64 t.1, .int .i64 u1, .string τ1, .slice vl1 e1 d1, .int .i64 u2, .string τ2, .slice vl2 e2 d2] 47 (0, 0)) := by have := heap_alloc_new (W.alloc (.cells #[.int .i64 k1, .string σ1, .slice sl1 n1 c1, .int .i64 k2, .string σ2, .slice sl2 n2 c2, .slice sl n c] 29)) (.cells #[.int .i64 t.1, .int .i64 u1, .string τ1, .slice vl1 e1 d1, .int .i64 u2, .string τ2, .slice vl2 e2 d2] 47); simpa using this
  replace hq := hq.keep hA
  clear hA
  have h1 := alive_any ((W.alloc (.cells #[.int .i64 k1, .string σ1, .slice sl1 n1 c1, .int .i64 k2, .string σ2, .slice sl2 n2 c2, .slice sl n c] 29)).alloc (.cells #[.int .i64 t.1, .int .i64 u1, .string τ1, .slice vl1 e1 d1, .int .i64 u2, .string τ2, .slice vl2 e2 d2] 47))
  go_enter Try.func8, Try.ntmps8
  go_wp2_with fail
  refine h1.mono ?_
  rintro e w1 ⟨rfl, hB⟩
  clear h1
  replace hq := hq.keep hB
  replace hG := (hB.block _ (by simp)).trans hG
  clear hB
  have a0 := obj_cell (i := 0) hq.bx rfl
  have a1 := obj_cell (i := 1) hq.bx rfl
  have a2 := obj_cell (i := 2) hq.bx rfl
  have a3 := obj_cell (i := 3) hq.bx rfl
  have a4 := obj_cell (i := 4) hq.bx rfl
  have a5 := obj_cell (i := 5) hq.bx rfl
  have a6 := obj_cell (i := 6) hq.bx rfl
  have f0 := obj_cell (i := 0) hG rfl
  have f1 := obj_cell (i := 1) hG rfl
  have f2 := obj_cell (i := 2) hG rfl
  have f3 := obj_cell (i := 3) hG rfl
  have f4 := obj_cell (i := 4) hG rfl
  have f5 := obj_cell (i := 5) hG rfl
  have f6 := obj_cell (i := 6) hG rfl
  have h2 := great_any HX.out w1 (fun b => b < W.heap.size) _ (fun b hb => Nat.lt_of_lt_of_le hb hq.below.size) (HR.out.move fun b hb => ⟨hb, hq.below.block b hb⟩)
  go_wp2_with fail
  refine h2.mono ?_
  rintro e w9 ⟨g, rfl, hg, hB⟩
  clear h2
  replace hq := hq.keep hB
  replace hG := (hB.block _ (World.block_lt_of_cell? _ _ f0)).trans hG
  clear hB
  replace a0 := obj_cell (i := 0) hq.bx rfl
  replace a1 := obj_cell (i := 1) hq.bx rfl
  replace a2 := obj_cell (i := 2) hq.bx rfl
  replace a3 := obj_cell (i := 3) hq.bx rfl
  replace a4 := obj_cell (i := 4) hq.bx rfl
  replace a5 := obj_cell (i := 5) hq.bx rfl
  replace a6 := obj_cell (i := 6) hq.bx rfl
  replace f0 := obj_cell (i := 0) hG rfl
  replace f1 := obj_cell (i := 1) hG rfl
  replace f2 := obj_cell (i := 2) hG rfl
  replace f3 := obj_cell (i := 3) hG rfl
  replace f4 := obj_cell (i := 4) hG rfl
  replace f5 := obj_cell (i := 5) hG rfl
  replace f6 := obj_cell (i := 6) hG rfl
  cases g with
  | true =>
    clear hg
    go_wp2_with fail
    go_ret
    exact ⟨rfl, hq.below⟩
  | false =>
    have HL := Lib.hid (lim_of HX.out (hg rfl))
    have H100 := Lib.hid (show n ≤ 100 by rw [HFN.out]; exact (hg rfl).2.2.1)
    clear hg
    have h2 := great_any (x := ⟨t.2.1, t.2.2, []⟩) ⟨HT.out.2.1, HT.out.2.2, by simp, by simp⟩ w9 (fun b => b < W.heap.size) (.agg #[.int .i64 u1, .string τ1, .slice vl1 e1 d1, .int .i64 u2, .string τ2, .slice vl2 e2 d2, .slice none 0 0]) (fun b hb => Nat.lt_of_lt_of_le hb hq.below.size) ⟨_, _, _, _, _, _, _, _, _, _, none, 0, 0, rfl, HY.out.1.move fun b hb => ⟨hb, hq.below.block b hb⟩, HY.out.2.move fun b hb => ⟨hb, hq.below.block b hb⟩, ⟨rfl, fun i t ht => by simp at ht⟩, Nat.le_refl _⟩
    go_wp2_with fail
    refine h2.mono ?_
    rintro e w9 ⟨g, rfl, hg, hB⟩
    clear h2
    replace hq := hq.keep hB
    replace hG := (hB.block _ (World.block_lt_of_cell? _ _ f0)).trans hG
    clear hB
    replace a0 := obj_cell (i := 0) hq.bx rfl
    replace a1 := obj_cell (i := 1) hq.bx rfl
    replace a2 := obj_cell (i := 2) hq.bx rfl
    replace a3 := obj_cell (i := 3) hq.bx rfl
    replace a4 := obj_cell (i := 4) hq.bx rfl
    replace a5 := obj_cell (i := 5) hq.bx rfl
    replace a6 := obj_cell (i := 6) hq.bx rfl
    replace f0 := obj_cell (i := 0) hG rfl
    replace f1 := obj_cell (i := 1) hG rfl
    replace f2 := obj_cell (i := 2) hG rfl
    replace f3 := obj_cell (i := 3) hG rfl
    replace f4 := obj_cell (i := 4) hG rfl
    replace f5 := obj_cell (i := 5) hG rfl
    replace f6 := obj_cell (i := 6) hG rfl
    cases g with
    | true =>
      clear hg
      go_wp2_with fail
      go_ret
      exact ⟨rfl, hq.below⟩
    | false =>
      have HWT := Lib.hid (hg rfl)
      clear hg
      go_wp2_with fail
      obtain ⟨w0, rfl⟩ : ∃ w0 : World, w0 = w9 := ⟨_, rfl⟩
      have HLIMN := Lib.hid (show n ≤ 140737488355328 by rw [HFN.out]; exact HL.out.ln)
      refine Mix.region_inv (by kernel_rfl) (JM ⟨W.heap.size, W.heap.size + 1, k1, σ1, sl1, n1, c1, k2, σ2, sl2, n2, c2, sl, n, c, (.int .i64 t.1, (.int .i64 u1, .string τ1, .slice vl1 e1 d1), (.int .i64 u2, .string τ2, .slice vl2 e2 d2)), qs⟩ ?a0 w0) (by kernel_rfl) ?h0 ?hs ?he
      case h0 => exact JM.start _ _ _
      case hs =>
        intro d i o a w hcl ho hdi hdep hJ
        have T2 : a.tmps[2]? = some (.pointer (some ⟨W.heap.size, 0, none⟩)) := (hJ.oth 2 (by omega)).trans rfl
        have T3 : a.tmps[3]? = some (.pointer (some ⟨W.heap.size + 1, 0, none⟩)) := (hJ.oth 3 (by omega)).trans rfl
        have hlx : W.heap.size < w0.heap.size := hq.lt
        have hlf : W.heap.size + 1 < w0.heap.size := World.block_lt_of_cell? w0 _ f0
        have A0 := (hJ.ext.cell (p := ⟨W.heap.size, 0, none⟩) hlx).trans a0
        have A1 := (hJ.ext.cell (p := ⟨W.heap.size, 1, none⟩) hlx).trans a1
        have A2 := (hJ.ext.cell (p := ⟨W.heap.size, 2, none⟩) hlx).trans a2
        have A3 := (hJ.ext.cell (p := ⟨W.heap.size, 3, none⟩) hlx).trans a3
        have A4 := (hJ.ext.cell (p := ⟨W.heap.size, 4, none⟩) hlx).trans a4
        have A5 := (hJ.ext.cell (p := ⟨W.heap.size, 5, none⟩) hlx).trans a5
        have A6 := (hJ.ext.cell (p := ⟨W.heap.size, 6, none⟩) hlx).trans a6
        have F0 := (hJ.ext.cell (p := ⟨W.heap.size + 1, 0, none⟩) hlf).trans f0
        have F1 := (hJ.ext.cell (p := ⟨W.heap.size + 1, 1, none⟩) hlf).trans f1
        have F2 := (hJ.ext.cell (p := ⟨W.heap.size + 1, 2, none⟩) hlf).trans f2
        have F3 := (hJ.ext.cell (p := ⟨W.heap.size + 1, 3, none⟩) hlf).trans f3
        have F4 := (hJ.ext.cell (p := ⟨W.heap.size + 1, 4, none⟩) hlf).trans f4
        have F5 := (hJ.ext.cell (p := ⟨W.heap.size + 1, 5, none⟩) hlf).trans f5
        have F6 := (hJ.ext.cell (p := ⟨W.heap.size + 1, 6, none⟩) hlf).trans f6
        clear a0 a1 a2 a3 a4 a5 a6 f0 f1 f2 f3 f4 f5 f6
        have hi : i < 14 := (List.getElem?_eq_some_iff.1 ho).1
        match i, hi, ho with
        | 0, _, ho =>
          have ho' := ho
          simp only [List.getElem?_cons_zero, Option.some.injEq] at ho'
          subst ho'
          refine Mix.op_value (v := .pointer (some ⟨W.heap.size, 0, none⟩)) ho rfl ?_ (hJ.q0 (Nat.le_of_ble_eq_true rfl))
          go_simp
        | 1, _, ho =>
          have ho' := ho
          simp only [List.getElem?_cons_zero, List.getElem?_cons_succ, Option.some.injEq] at ho'
          subst ho'
          have T24 := hJ.e0 (hdep ⟨0, .data⟩ (by simp) rfl)
          refine Mix.op_value (v := .agg #[.int .i64 k1, .string σ1, .slice sl1 n1 c1]) ho rfl ?_ (hJ.q1 (Nat.le_of_ble_eq_true rfl))
          go_simp
        | 2, _, ho =>
          have ho' := ho
          simp only [List.getElem?_cons_zero, List.getElem?_cons_succ, Option.some.injEq] at ho'
          subst ho'
          refine Mix.op_value (v := .pointer (some ⟨W.heap.size, 3, none⟩)) ho rfl ?_ (hJ.q2 (Nat.le_of_ble_eq_true rfl))
          go_simp
        | 3, _, ho =>
          have ho' := ho
          simp only [List.getElem?_cons_zero, List.getElem?_cons_succ, Option.some.injEq] at ho'
          subst ho'
          have T26 := hJ.e2 (hdep ⟨2, .data⟩ (by simp) rfl)
          refine Mix.op_value (v := .agg #[.int .i64 k2, .string σ2, .slice sl2 n2 c2]) ho rfl ?_ (hJ.q3 (Nat.le_of_ble_eq_true rfl))
          go_simp
        | 4, _, ho =>
          have ho' := ho
          simp only [List.getElem?_cons_zero, List.getElem?_cons_succ, Option.some.injEq] at ho'
          subst ho'
          have n7 : d 7 = false := (by cases hd : d 7 with | false => rfl | true => exact absurd (hcl 7 _ rfl hd ⟨4, .data⟩ (by simp) rfl) (by simp [hdi]))
          have n10 : d 10 = false := by cases hd : d 10 with | false => rfl | true => exact absurd (hcl 10 _ rfl hd ⟨7, .data⟩ (by simp) rfl) (by simp [n7])
          have n11 : d 11 = false := by cases hd : d 11 with | false => rfl | true => exact absurd (hcl 11 _ rfl hd ⟨10, .data⟩ (by simp) rfl) (by simp [n10])
          have n13 : d 13 = false := by cases hd : d 13 with | false => rfl | true => exact absurd (hcl 13 _ rfl hd ⟨11, .data⟩ (by simp) rfl) (by simp [n11])
          refine Mix.op_value (v := .slice (some ⟨w.heap.size, 0, none⟩) 0 0) ho rfl ?_ (hJ.s4 (Nat.le_of_ble_eq_true rfl) n7 n10 n11 n13)
          go_simp
        | 5, _, ho =>
          have ho' := ho
          simp only [List.getElem?_cons_zero, List.getElem?_cons_succ, Option.some.injEq] at ho'
          subst ho'
          refine Mix.op_value (v := .pointer (some ⟨W.heap.size, 6, none⟩)) ho rfl ?_ (hJ.q5 (Nat.le_of_ble_eq_true rfl))
          go_simp
        | 6, _, ho =>
          have ho' := ho
          simp only [List.getElem?_cons_zero, List.getElem?_cons_succ, Option.some.injEq] at ho'
          subst ho'
          have T29 := hJ.e5 (hdep ⟨5, .data⟩ (by simp) rfl)
          refine Mix.op_value (v := .slice sl n c) ho rfl ?_ (hJ.q6 (Nat.le_of_ble_eq_true rfl))
          go_simp
        | 7, _, ho =>
          have ho' := ho
          simp only [List.getElem?_cons_zero, List.getElem?_cons_succ, Option.some.injEq] at ho'
          subst ho'
          have y4 := (hdep ⟨4, .data⟩ (by simp) rfl)
          have T30 := eval_of (hJ.e6 (hdep ⟨6, .data⟩ (by simp) rfl))
          have n10 : d 10 = false := by cases hd : d 10 with | false => rfl | true => exact absurd (hcl 10 _ rfl hd ⟨7, .data⟩ (by simp) rfl) (by simp [hdi])
          have n11 : d 11 = false := by cases hd : d 11 with | false => rfl | true => exact absurd (hcl 11 _ rfl hd ⟨10, .data⟩ (by simp) rfl) (by simp [n10])
          have n13 : d 13 = false := by cases hd : d 13 with | false => rfl | true => exact absurd (hcl 13 _ rfl hd ⟨11, .data⟩ (by simp) rfl) (by simp [n11])
          obtain ⟨cv, g9, g12, mm⟩ := hJ.mem
          have T28 := eval_of (mm.t4 y4 hdi)
          obtain ⟨i0, hi0, hz0, hz1, hz2⟩ := info_parts info_field
          have hown := mm.own
          have el : MV.len ⟨W.heap.size, W.heap.size + 1, k1, σ1, sl1, n1, c1, k2, σ2, sl2, n2, c2, sl, n, c, (.int .i64 t.1, (.int .i64 u1, .string τ1, .slice vl1 e1 d1), (.int .i64 u2, .string τ2, .slice vl2 e2 d2)), qs⟩ (d.add 7) = n := by simp [MV.len, Mix.Done.add, n10]
          have er : MV.row ⟨W.heap.size, W.heap.size + 1, k1, σ1, sl1, n1, c1, k2, σ2, sl2, n2, c2, sl, n, c, (.int .i64 t.1, (.int .i64 u1, .string τ1, .slice vl1 e1 d1), (.int .i64 u2, .string τ2, .slice vl2 e2 d2)), qs⟩ (d.add 7) = row7 qs := by simp [MV.row, Mix.Done.add, n10]
          rw [show MV.len _ d = 0 by simp [MV.len, n10, hdi], show MV.row _ d = [] by simp [MV.row, n10, hdi]] at hown
          refine Mix.op_wp ho rfl ?_
          cases sl with
          | none =>
            have hn0 : n = 0 := by rcases HQ.out.2.2 with h0 | ⟨b, o, e, -⟩; exact h0; cases e
            have hc0 : c = 0 := HNIL.out rfl
            subst hn0 hc0
            have hq0 : qs = [] := List.length_eq_zero_iff.1 HQ.out.1
            refine wp_append_nil w (.tmp 28) (.tmp 30) 27 rfl w0.heap.size 47 i0 7 Try.underlying27 hi0 cv 0 [] T28 hown T30 ?_
            refine hJ.app (Nat.le_of_ble_eq_true rfl) (.inl ⟨rfl, rfl, n10⟩) n11 n13 mm y4 ?_ ⟨rfl, rfl, rfl, Nat.le_refl _, fun _ _ _ => rfl⟩ (.inl rfl)
            rw [el, er, hq0]
            exact hown
          | some ad =>
            have hne : ∀ j u, (row7 qs)[j]? = some u → w.cell? (ad.add j) = some u := fun j u hu => by
              rcases HQ.out.2.2 with h0 | ⟨b, o, e, hb, hcs⟩
              · have hq0 : qs = [] := List.length_eq_zero_iff.1 (HQ.out.1.trans h0)
                rw [hq0] at hu
                simp [row7] at hu
              · simp only [Option.some.injEq] at e
                subst e
                rw [spot_plus]
                have hb' : b < W.heap.size := hb
                exact (hJ.ext.cell (p := ⟨b, o + j, none⟩) (by show b < _; omega)).trans ((hq.below.cell (p := ⟨b, o + j, none⟩) hb').trans (hcs j u hu))
            refine wp_append_at w (.tmp 28) (.tmp 30) 27 rfl w0.heap.size 47 i0 _ 7 104 Try.underlying27 hi0 hz0 hz1 hz2 rfl (by decide) cv 0 [] T28 hown ad n c (row7 qs) T30 (by rw [row7_len, HQ.out.1]) hne (row7_one qs _ W x.fields (by rw [HQ.out.1, HFN.out]) HQ.out.2.1) (by have := H100.out; unfold maxLen; omega) (by have := H100.out; omega) hJ.ext.size ?_
            intro v' w' h2 h3 h5
            refine hJ.app (Nat.le_of_ble_eq_true rfl) (.inl ⟨rfl, rfl, n10⟩) n11 n13 mm y4 ?_ h3 (.inr (h5.imp id fun e g hg => by rw [e] at hg; cases hg; exact Nat.le_refl _))
            rw [el, er]
            simpa using h2
        | 10, _, ho =>
          have ho' := ho
          simp only [List.getElem?_cons_zero, List.getElem?_cons_succ, Option.some.injEq] at ho'
          subst ho'
          have y7 := (hdep ⟨7, .data⟩ (by simp) rfl)
          have y9 := (hdep ⟨9, .data⟩ (by simp) rfl)
          have y4 := hcl 7 _ rfl y7 ⟨4, .data⟩ (by simp) rfl
          have n11 : d 11 = false := by cases hd : d 11 with | false => rfl | true => exact absurd (hcl 11 _ rfl hd ⟨10, .data⟩ (by simp) rfl) (by simp [hdi])
          have n13 : d 13 = false := by cases hd : d 13 with | false => rfl | true => exact absurd (hcl 13 _ rfl hd ⟨11, .data⟩ (by simp) rfl) (by simp [n11])
          obtain ⟨cv, g9, g12, mm⟩ := hJ.mem
          have T31 := eval_of (mm.t7 y7 hdi)
          obtain ⟨x1, x2, x3⟩ := mm.b9 y9 hdi
          have T33 := eval_of x1
          obtain ⟨i0, hi0, hz0, hz1, hz2⟩ := info_parts info_field
          have hown := mm.own
          have el : MV.len ⟨W.heap.size, W.heap.size + 1, k1, σ1, sl1, n1, c1, k2, σ2, sl2, n2, c2, sl, n, c, (.int .i64 t.1, (.int .i64 u1, .string τ1, .slice vl1 e1 d1), (.int .i64 u2, .string τ2, .slice vl2 e2 d2)), qs⟩ (d.add 10) = n + 1 := by simp [MV.len, Mix.Done.add]
          have er : MV.row ⟨W.heap.size, W.heap.size + 1, k1, σ1, sl1, n1, c1, k2, σ2, sl2, n2, c2, sl, n, c, (.int .i64 t.1, (.int .i64 u1, .string τ1, .slice vl1 e1 d1), (.int .i64 u2, .string τ2, .slice vl2 e2 d2)), qs⟩ (d.add 10) = row7 qs ++ cells7 (.int .i64 t.1, (.int .i64 u1, .string τ1, .slice vl1 e1 d1), (.int .i64 u2, .string τ2, .slice vl2 e2 d2)) := by simp [MV.row, Mix.Done.add, row7_snoc]
          rw [show MV.len _ d = n by simp [MV.len, y7, hdi], show MV.row _ d = row7 qs by simp [MV.row, y7, hdi]] at hown
          refine Mix.op_wp ho rfl ?_
          refine wp_append_at w (.tmp 31) (.tmp 33) 27 rfl w0.heap.size 47 i0 _ 7 104 Try.underlying27 hi0 hz0 hz1 hz2 rfl (by decide) cv n (row7 qs) T31 hown ⟨g9, 0, none⟩ 1 1 (cells7 (.int .i64 t.1, (.int .i64 u1, .string τ1, .slice vl1 e1 d1), (.int .i64 u2, .string τ2, .slice vl2 e2 d2))) T33 rfl (World.news_of_block (cs := (cells7 (.int .i64 t.1, (.int .i64 u1, .string τ1, .slice vl1 e1 d1), (.int .i64 u2, .string τ2, .slice vl2 e2 d2))).toArray) x2) HF.out.one (by have := H100.out; unfold maxLen; omega) (by have := H100.out; omega) hJ.ext.size ?_
          intro v' w' h2 h3 h5
          refine hJ.app (Nat.le_of_ble_eq_true rfl) (.inr ⟨rfl, rfl, y7⟩) n11 n13 mm y4 ?_ h3 (.inr (h5.imp id fun e g hg => by rw [e] at hg; cases hg; exact Nat.le_refl _))
          rw [el, er]
          exact h2
        | 8, _, ho =>
          have ho' := ho
          simp only [List.getElem?_cons_zero, List.getElem?_cons_succ, Option.some.injEq] at ho'
          subst ho'
          refine Mix.op_value (v := .agg #[.int .i64 t.1, .int .i64 u1, .string τ1, .slice vl1 e1 d1, .int .i64 u2, .string τ2, .slice vl2 e2 d2]) ho rfl ?_ (hJ.q8 (Nat.le_of_ble_eq_true rfl))
          go_simp
        | 9, _, ho =>
          have ho' := ho
          simp only [List.getElem?_cons_zero, List.getElem?_cons_succ, Option.some.injEq] at ho'
          subst ho'
          have T32 : a.tmps[32]? = some (.agg #[.int .i64 t.1, .int .i64 u1, .string τ1, .slice vl1 e1 d1, .int .i64 u2, .string τ2, .slice vl2 e2 d2]) := hJ.e8 (hdep ⟨8, .data⟩ (by simp) rfl)
          refine Mix.op_value (v := .slice (some ⟨w.heap.size, 0, none⟩) 1 1) ho rfl ?_ (hJ.s9 (Nat.le_of_ble_eq_true rfl))
          go_simp
          rfl
        | 12, _, ho =>
          have ho' := ho
          simp only [List.getElem?_cons_zero, List.getElem?_cons_succ, Option.some.injEq] at ho'
          subst ho'
          have n13 : d 13 = false := (by cases hd : d 13 with | false => rfl | true => exact absurd (hcl 13 _ rfl hd ⟨12, .data⟩ (by simp) rfl) (by simp [hdi]))
          refine Mix.op_value (v := .pointer (some ⟨w.heap.size, 0, none⟩)) ho rfl ?_ (hJ.s12 (Nat.le_of_ble_eq_true rfl) n13)
          go_simp
        | 11, _, ho =>
          have ho' := ho
          simp only [List.getElem?_cons_zero, List.getElem?_cons_succ, Option.some.injEq] at ho'
          subst ho'
          have T25 := hJ.e1 (hdep ⟨1, .data⟩ (by simp) rfl)
          have T27 := hJ.e3 (hdep ⟨3, .data⟩ (by simp) rfl)
          have y10 := hdep ⟨10, .data⟩ (by simp) rfl
          obtain ⟨cv, g9, g12, mm⟩ := hJ.mem
          have T34 := mm.t10 y10
          obtain ⟨slm, cm, rfl⟩ := own_form mm.own
          refine Mix.op_value (v := .agg #[.int .i64 k1, .string σ1, .slice sl1 n1 c1, .int .i64 k2, .string σ2, .slice sl2 n2 c2, .slice slm _ cm]) ho rfl ?_ (hJ.s11 (Nat.le_of_ble_eq_true rfl) mm)
          go_simp
        | 13, _, ho =>
          have ho' := ho
          simp only [List.getElem?_cons_zero, List.getElem?_cons_succ, Option.some.injEq] at ho'
          subst ho'
          have y12 := hdep ⟨12, .data⟩ (by simp) rfl
          have y11 := hdep ⟨11, .data⟩ (by simp) rfl
          have y10 := hcl 11 _ rfl y11 ⟨10, .data⟩ (by simp) rfl
          obtain ⟨cv, g9, g12, mm⟩ := hJ.mem
          obtain ⟨slm, cm, rfl⟩ := own_form mm.own
          obtain ⟨T5, x2, hlt, x3, x4⟩ := mm.b12 y12
          have T35 := mm.t11 y11
          rw [hdi] at x3
          have z0 := x3.at_ 0 _ rfl
          have z1 := x3.at_ 1 _ rfl
          have z2 := x3.at_ 2 _ rfl
          have z3 := x3.at_ 3 _ rfl
          have z4 := x3.at_ 4 _ rfl
          have z5 := x3.at_ 5 _ rfl
          have z6 := x3.at_ 6 _ rfl
          have zf := x3.fz
          refine Mix.op_skip ho rfl rfl ?_ (hJ.s13 hdi y12 y10 mm)
          go_simp
        | k + 14, hi, _ => exact absurd hi (by omega)
      case he =>
        intro d a w hall hJ
        obtain ⟨u28, u31, u33, slm, cm, g12, rfl, h12a, h12b, hcc, hown, hext⟩ := hJ.done hall
        clear hJ hall
        have hlf : W.heap.size + 1 < w0.heap.size := World.block_lt_of_cell? w0 _ f0
        replace hq := hq.keep hext
        replace hG := (hext.block _ hlf).trans hG
        clear hlf a0 a1 a2 a3 a4 a5 a6 f0 f1 f2 f3 f4 f5 f6 hext
        have a0 := obj_cell (i := 0) hq.bx rfl
        have a1 := obj_cell (i := 1) hq.bx rfl
        have a2 := obj_cell (i := 2) hq.bx rfl
        have a3 := obj_cell (i := 3) hq.bx rfl
        have a4 := obj_cell (i := 4) hq.bx rfl
        have a5 := obj_cell (i := 5) hq.bx rfl
        have a6 := obj_cell (i := 6) hq.bx rfl
        have f0 := obj_cell (i := 0) hG rfl
        have f1 := obj_cell (i := 1) hG rfl
        have f2 := obj_cell (i := 2) hG rfl
        have f3 := obj_cell (i := 3) hG rfl
        have f4 := obj_cell (i := 4) hG rfl
        have f5 := obj_cell (i := 5) hG rfl
        have f6 := obj_cell (i := 6) hG rfl
        have hlw : W.heap.size < w.heap.size := hq.lt
        obtain ⟨hFS, hcm⟩ := own_fs (S := fun b => b < w.heap.size) (ts := x.fields ++ [t]) hown (by rw [List.length_append, HQ.out.1]; rfl) (by rw [List.length_append, ← HFN.out]; rfl) (fun b _ h => h) (fun i q' t' hq' ht' => by
          by_cases hi : i < n
          · rw [List.getElem?_append_left (by rw [HQ.out.1]; exact hi)] at hq'
            rw [List.getElem?_append_left (by rw [← HFN.out]; exact hi)] at ht'
            exact (HQ.out.2.1 i q' t' hq' ht').move fun b hb => ⟨Nat.lt_of_lt_of_le hb hq.below.size, hq.below.block b hb⟩
          · have hi2 : i = n := by have := (List.getElem?_eq_some_iff.1 ht').1; rw [List.length_append, ← HFN.out] at this; simp at this; omega
            subst hi2
            rw [List.getElem?_append_right (by rw [HQ.out.1]; exact Nat.le_refl _), HQ.out.1, Nat.sub_self] at hq'
            rw [List.getElem?_append_right (by rw [← HFN.out]; exact Nat.le_refl _), ← HFN.out, Nat.sub_self] at ht'
            simp only [List.getElem?_cons_zero, Option.some.injEq] at hq' ht'
            subst hq' ht'
            exact HF.out.move fun b hb => ⟨Nat.lt_of_lt_of_le hb hq.below.size, hq.below.block b hb⟩)
        have HMR := Lib.hid (show RepR w (fun b => b < w.heap.size) ⟨x.name, x.version, x.fields ++ [t]⟩ (.agg #[.int .i64 k1, .string σ1, .slice sl1 n1 c1, .int .i64 k2, .string σ2, .slice sl2 n2 c2, .slice slm (n + 1) cm]) from
          ⟨_, _, _, _, _, _, _, _, _, _, _, _, _, rfl, HN.out.move fun b hb => ⟨Nat.lt_of_lt_of_le hb hq.below.size, hq.below.block b hb⟩, HV.out.move fun b hb => ⟨Nat.lt_of_lt_of_le hb hq.below.size, hq.below.block b hb⟩, hFS, hcm⟩)
        have HLM := Lib.hid (show Lim ⟨x.name, x.version, x.fields ++ [t]⟩ from ⟨HL.out.nm, HL.out.vs, HL.out.wn, HL.out.wv, by have := H100.out; simp only [List.length_append, List.length_cons, List.length_nil, ← HFN.out]; omega, fun f hf => by
          rcases List.mem_append.1 hf with hf | hf
          · exact HL.out.fd f hf
          · rw [List.mem_singleton] at hf
            subst hf
            exact ⟨HT.out.1, HT.out.2.1, HT.out.2.2, by have := HWT.out.1; simp only at this; omega, by have := HWT.out.2.1; simp only at this; omega⟩⟩)
        have HTX := Lib.hid (show textS ⟨x.name, x.version, x.fields ++ [t]⟩ = textS x ++ fieldL t by rw [textS_pre, textS_pre]; simp [preS])
        obtain ⟨mo, hmo⟩ : ∃ mo : Src, mo = ⟨x.name, x.version, x.fields ++ [t]⟩ := ⟨_, rfl⟩
        rw [← hmo] at HMR HLM HTX
        have HMF := Lib.hid (show mo.fields.length = n + 1 by rw [hmo, List.length_append, ← HFN.out]; rfl)
        clear hmo hown hFS hcm hlw
        have m0 := hcc.at_ 0 _ rfl
        have m1 := hcc.at_ 1 _ rfl
        have m2 := hcc.at_ 2 _ rfl
        have m3 := hcc.at_ 3 _ rfl
        have m4 := hcc.at_ 4 _ rfl
        have m5 := hcc.at_ 5 _ rfl
        have m6 := hcc.at_ 6 _ rfl
        obtain ⟨sp, er, hp⟩ : ∃ sp er, printP x = (sp, er) := ⟨_, _, rfl⟩
        obtain ⟨tp, fr, hp2⟩ : ∃ sp er, printP mo = (sp, er) := ⟨_, _, rfl⟩
        have HP := Lib.hid hp
        have HP2 := Lib.hid hp2
        clear hp hp2
        have h2 := print_any HL.out w (fun b => b < W.heap.size) _ (fun b hb => Nat.lt_of_lt_of_le hb hq.below.size) (HR.out.move fun b hb => ⟨hb, hq.below.block b hb⟩)
        go_wp2_with fail
        refine h2.mono ?_
        rintro e w8 ⟨hB, rfl⟩
        clear h2
        replace hcc := hcc.block (hB.block _ (World.block_lt_of_cell? _ _ m0))
        have HMR := Lib.hid (HMR.out.move (S' := fun b => b < w8.heap.size) fun b hb => ⟨Nat.lt_of_lt_of_le hb hB.size, hB.block b hb⟩)
        replace hG := (hB.block _ (World.block_lt_of_cell? _ _ f0)).trans hG
        replace hq := hq.keep hB
        clear hB
        replace a0 := obj_cell (i := 0) hq.bx rfl
        replace a1 := obj_cell (i := 1) hq.bx rfl
        replace a2 := obj_cell (i := 2) hq.bx rfl
        replace a3 := obj_cell (i := 3) hq.bx rfl
        replace a4 := obj_cell (i := 4) hq.bx rfl
        replace a5 := obj_cell (i := 5) hq.bx rfl
        replace a6 := obj_cell (i := 6) hq.bx rfl
        replace f0 := obj_cell (i := 0) hG rfl
        replace f1 := obj_cell (i := 1) hG rfl
        replace f2 := obj_cell (i := 2) hG rfl
        replace f3 := obj_cell (i := 3) hG rfl
        replace f4 := obj_cell (i := 4) hG rfl
        replace f5 := obj_cell (i := 5) hG rfl
        replace f6 := obj_cell (i := 6) hG rfl
        replace m0 := hcc.at_ 0 _ rfl
        replace m1 := hcc.at_ 1 _ rfl
        replace m2 := hcc.at_ 2 _ rfl
        replace m3 := hcc.at_ 3 _ rfl
        replace m4 := hcc.at_ 4 _ rfl
        replace m5 := hcc.at_ 5 _ rfl
        replace m6 := hcc.at_ 6 _ rfl
        rw [HP.out]
        have h2 := print_any HLM.out w8 _ _ (fun b hb => hb) HMR.out
        go_wp2_with fail
        refine h2.mono ?_
        rintro e w8 ⟨hB, rfl⟩
        clear h2
        replace hcc := hcc.block (hB.block _ (World.block_lt_of_cell? _ _ m0))
        have HMR := Lib.hid (HMR.out.move (S' := fun b => b < w8.heap.size) fun b hb => ⟨Nat.lt_of_lt_of_le hb hB.size, hB.block b hb⟩)
        replace hG := (hB.block _ (World.block_lt_of_cell? _ _ f0)).trans hG
        replace hq := hq.keep hB
        clear hB
        replace a0 := obj_cell (i := 0) hq.bx rfl
        replace a1 := obj_cell (i := 1) hq.bx rfl
        replace a2 := obj_cell (i := 2) hq.bx rfl
        replace a3 := obj_cell (i := 3) hq.bx rfl
        replace a4 := obj_cell (i := 4) hq.bx rfl
        replace a5 := obj_cell (i := 5) hq.bx rfl
        replace a6 := obj_cell (i := 6) hq.bx rfl
        replace f0 := obj_cell (i := 0) hG rfl
        replace f1 := obj_cell (i := 1) hG rfl
        replace f2 := obj_cell (i := 2) hG rfl
        replace f3 := obj_cell (i := 3) hG rfl
        replace f4 := obj_cell (i := 4) hG rfl
        replace f5 := obj_cell (i := 5) hG rfl
        replace f6 := obj_cell (i := 6) hG rfl
        replace m0 := hcc.at_ 0 _ rfl
        replace m1 := hcc.at_ 1 _ rfl
        replace m2 := hcc.at_ 2 _ rfl
        replace m3 := hcc.at_ 3 _ rfl
        replace m4 := hcc.at_ 4 _ rfl
        replace m5 := hcc.at_ 5 _ rfl
        replace m6 := hcc.at_ 6 _ rfl
        rw [HP2.out]
        by_cases he : er = 0
        rotate_left
        · have j1 : (er != 0) = true := bne_iff_ne.2 he
          clear he
          go_wp2_with fail
          go_ret
          exact ⟨rfl, hq.below⟩
        subst he
        by_cases he : fr = 0
        rotate_left
        · have j1 : (fr != 0) = true := bne_iff_ne.2 he
          clear he
          go_wp2_with fail
          go_ret
          exact ⟨rfl, hq.below⟩
        subst he
        obtain ⟨rfl, -⟩ : sp = textS x ∧ True := by
          rcases print_ways x with (h | h) | ⟨h, -⟩ <;> rw [HP.out] at h <;> simp at h
          exact ⟨h, trivial⟩
        obtain ⟨rfl, hpp⟩ : tp = textS mo ∧ (parseP (textS mo) = .ok mo ∨ ∃ q, parseP (textS mo) = .bad q 4) := by
          rcases print_ways mo with (h | h) | ⟨h, h'⟩ <;> rw [HP2.out] at h <;> simp at h
          exact ⟨h, h'⟩
        have HPP := Lib.hid hpp
        clear hpp HP HP2
        have hfl : 0 < (fieldL t).length := by simp [fieldL]; omega
        have l1 : (textS mo).length = (textS x).length + (fieldL t).length := by rw [HTX.out, List.length_append]
        have i1 : (((⟨(textS mo).toArray⟩ : ByteArray).extract 0 (textS x).length).toList == textS x) = true := by
          rw [beq_iff_eq, ByteArray.toList_eq, ByteArray.data_extract, Array.toList_extract, List.extract_eq_take_drop]
          show List.take _ (List.drop 0 (textS mo)) = textS x
          rw [HTX.out]
          simp
        have HTM := Lib.hid l1
        generalize textS mo = tm at *
        generalize textS x = sx at *
        have l2 : sx.length < tm.length := by omega
        have l3 : ¬ tm.length ≤ sx.length := by omega
        clear l1
        have h2 := parse_any ⟨tm.toArray⟩ w8
        go_wp2_with fail
        refine h2.mono ?_
        intro e w7 hpa
        clear h2
        obtain ⟨k1z, σ1z, sl1z, n1z, c1z, k2z, σ2z, sl2z, n2z, c2z, slz, nz, cz, hB, rfl, hrz⟩ := pt_of hpa
        clear hpa i1 l2 l3
        replace hcc := hcc.block (hB.block _ (World.block_lt_of_cell? _ _ m0))
        have HMR := Lib.hid (HMR.out.move (S' := fun b => b < w7.heap.size) fun b hb => ⟨Nat.lt_of_lt_of_le hb hB.size, hB.block b hb⟩)
        have hm12 : g12 < w7.heap.size := Nat.lt_of_lt_of_le (World.block_lt_of_cell? _ _ m0) hB.size
        replace hq := hq.keep hB
        clear hB
        have hA : Below w7.heap.size w7 (w7.alloc (.cells #[.int .i64 k1z, .string σ1z, .slice sl1z n1z c1z, .int .i64 k2z, .string σ2z, .slice sl2z n2z c2z, .slice slz nz cz] 29)) := (Below.refl _ _).alloc (Nat.le_refl _) _
        have hZ : (w7.alloc (.cells #[.int .i64 k1z, .string σ1z, .slice sl1z n1z c1z, .int .i64 k2z, .string σ2z, .slice sl2z n2z c2z, .slice slz nz cz] 29)).heap[w7.heap.size]? = some (.cells #[.int .i64 k1z, .string σ1z, .slice sl1z n1z c1z, .int .i64 k2z, .string σ2z, .slice sl2z n2z c2z, .slice slz nz cz] 29 (0, 0)) := heap_alloc_new w7 _
        replace hrz := hrz.move (S' := fun b => b < (w7.alloc (.cells #[.int .i64 k1z, .string σ1z, .slice sl1z n1z c1z, .int .i64 k2z, .string σ2z, .slice sl2z n2z c2z, .slice slz nz cz] 29)).heap.size) (W' := w7.alloc (.cells #[.int .i64 k1z, .string σ1z, .slice sl1z n1z c1z, .int .i64 k2z, .string σ2z, .slice sl2z n2z c2z, .slice slz nz cz] 29)) fun b hb => ⟨Nat.lt_of_lt_of_le hb.2 hA.size, hA.block b hb.2⟩
        have HMR := Lib.hid (HMR.out.move (S' := fun b => b < (w7.alloc (.cells #[.int .i64 k1z, .string σ1z, .slice sl1z n1z c1z, .int .i64 k2z, .string σ2z, .slice sl2z n2z c2z, .slice slz nz cz] 29)).heap.size) (W' := w7.alloc (.cells #[.int .i64 k1z, .string σ1z, .slice sl1z n1z c1z, .int .i64 k2z, .string σ2z, .slice sl2z n2z c2z, .slice slz nz cz] 29)) fun b hb => ⟨Nat.lt_of_lt_of_le hb hA.size, hA.block b hb⟩)
        replace hcc := hcc.block (hA.block g12 hm12)
        replace hq := hq.keep hA
        clear hA hm12 f0 f1 f2 f3 f4 f5 f6 hG
        replace m0 := hcc.at_ 0 _ rfl
        replace m1 := hcc.at_ 1 _ rfl
        replace m2 := hcc.at_ 2 _ rfl
        replace m3 := hcc.at_ 3 _ rfl
        replace m4 := hcc.at_ 4 _ rfl
        replace m5 := hcc.at_ 5 _ rfl
        replace m6 := hcc.at_ 6 _ rfl
        replace a0 := obj_cell (i := 0) hq.bx rfl
        replace a1 := obj_cell (i := 1) hq.bx rfl
        replace a2 := obj_cell (i := 2) hq.bx rfl
        replace a3 := obj_cell (i := 3) hq.bx rfl
        replace a4 := obj_cell (i := 4) hq.bx rfl
        replace a5 := obj_cell (i := 5) hq.bx rfl
        replace a6 := obj_cell (i := 6) hq.bx rfl
        have b0 := obj_cell (i := 0) hZ rfl
        have b1 := obj_cell (i := 1) hZ rfl
        have b2 := obj_cell (i := 2) hZ rfl
        have b3 := obj_cell (i := 3) hZ rfl
        have b4 := obj_cell (i := 4) hZ rfl
        have b5 := obj_cell (i := 5) hZ rfl
        have b6 := obj_cell (i := 6) hZ rfl
        rcases HPP.out with hpp | ⟨q', hpp⟩
        · rw [hpp] at hrz ⊢
          simp only [outT] at hrz ⊢
          have hnz : nz = n + 1 := by
            obtain ⟨_, _, _, _, _, _, _, _, _, _, _, _, _, e, _, _, hfs, _⟩ := id hrz
            simp only [Value.agg.injEq, Array.mk.injEq, List.cons.injEq, Value.slice.injEq, and_true] at e
            have := hfs.1
            rw [← HMF.out, ← this]
            exact e.2.2.2.2.2.2.2.1
          subst hnz
          have hc := rsames_any (few_lim HLM.out) _ _ _ _ _ (fun b hb => hb) (fun b hb => hb) hrz HMR.out
          have j1 : IntKind.i64.wrap ((n : Int) + 1) = (n : Int) + 1 := IntWalk.i64_in _ (by have := H100.out; omega)
          clear hrz hpp
          go_wp2_with fail
          refine hc.mono ?_
          rintro e w8 ⟨rfl, hB⟩
          have HB := Lib.hid (hq.keep hB).below
          clear hc hB
          go_wp2_with fail
          go_ret
          exact ⟨rfl, HB.out⟩
        · rw [hpp]
          simp only [outT]
          clear hrz hpp
          go_wp2_with fail
          go_ret
          exact ⟨rfl, hq.below⟩
end Rc
end Go.Proofs.Ytcigggffaofkhaa
