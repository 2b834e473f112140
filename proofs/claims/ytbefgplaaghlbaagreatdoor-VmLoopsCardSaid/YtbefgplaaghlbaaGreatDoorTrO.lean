/-
  Walks: a tree without a file (Put$1, IndexFunc, DeleteFunc at files).
-/
import Derived.Test.YtbefgplaaghlbaaGreatDoorTrN
import Derived.Lib.SliceRun
namespace Go.Proofs.YtbefgplaaghlbaaGreatDoor
open Go.RowKit Go.Shelf Go.Lib Go.Sort
namespace Tr

def isK (f x : F) : Bool := K x == K f
theorem isK_eq (f x : F) : (x.1.toList == f.1.toList) = isK f x := by unfold isK K; rw [ByteArray.toList_eq, ByteArray.toList_eq]
set_option maxHeartbeats 1000000 in
theorem put1_any (h f : F) (bx : Nat) (w : World) (hbx : bx < w.heap.size) (hv : w.cell? ⟨bx, 0, none⟩ = some (.string f.1)) :
    Calls Tryz.prog 38 #[.agg #[.string h.1, .string h.2], .pointer (some ⟨bx, 0, none⟩)] w fun e w' => e = .returned (.bool (isK f h)) ∧ Below w.heap.size w w' := by
  have hA : Below w.heap.size w (w.alloc (.cells #[.string h.1, .string h.2] 34)) := (Below.refl _ _).alloc (Nat.le_refl _) _
  have hv' := (hA.cell (p := ⟨bx, 0, none⟩) hbx).trans hv
  have hk := isK_eq f h
  generalize isK f h = b at *
  go_enter Tryz.func38, Tryz.ntmps38
  go_wp2_with fail
  go_ret
  exact ⟨rfl, hA⟩
/-- where the first such file stands -/
def Fst (f : F) (l : List F) (i : Int) : Prop := (i = -1 ∧ ∀ x ∈ l, isK f x = false) ∨ ∃ (k : Nat) (x : F), i = k ∧ l[k]? = some x ∧ isK f x = true ∧ ∀ y ∈ l.take k, isK f y = false
theorem isK_next {f : F} {l : List F} {k : Nat} {x : F} (hx : l[k]? = some x) (hn : ∀ y ∈ l.take k, isK f y = false) (h : isK f x = false) : ∀ y ∈ l.take (k + 1), isK f y = false := by
  intro y hy
  rw [take_snoc hx] at hy
  rcases List.mem_append.1 hy with hy | hy
  · exact hn y hy
  · simp at hy
    subst hy
    exact h
set_option maxHeartbeats 1000000 in
set_option maxRecDepth 100000 in
theorem pindex2_any (f : F) (bx : Nat) (l : List F) (v : Value) (W : World) (hF : FS W v l) (hl : l.length ≤ 10000000) (hbx : bx < W.heap.size) (hv : W.cell? ⟨bx, 0, none⟩ = some (.string f.1)) :
    Calls Tryz.prog 64 #[v, .func (.func 38) #[] #[.pointer (some ⟨bx, 0, none⟩)]] W fun e W' => ∃ i : Int, e = .returned (.int .i64 i) ∧ Fst f l i ∧ Below W.heap.size W W' := by
  obtain ⟨sl, cap, rfl, hf⟩ := hF.form
  have HF := Lib.hid hf
  have HV := Lib.hid (And.intro hbx hv)
  clear hF hf hbx hv
  go_enter Tryz.func64, Tryz.ntmps64
  go_wp2_with fail
  go_loopw [8] (fun i wr => ∃ k : Nat, k ≤ l.length ∧ i = .int .i64 (k : Int) ∧ (∀ x ∈ l.take k, isK f x = false) ∧ Below W.heap.size W wr) (fun i _ => l.length - (RowKit.intOf i).toNat)
  case atStart => exact ⟨0, Nat.zero_le _, rfl, fun x h => by simp at h, Below.refl _ _⟩
  case round =>
    obtain ⟨k, hk, rfl, hn, hb⟩ := hrel
    by_cases hlt : k < l.length
    · obtain ⟨x, hx⟩ : ∃ x, l[k]? = some x := ⟨l[k], List.getElem?_eq_getElem hlt⟩
      obtain ⟨g, o, rfl, hg, c0, c1⟩ := HF.out k x hx
      replace c0 := (hb.cell (p := ⟨g, o + k * 2, none⟩) hg).trans c0
      replace c1 := (hb.cell (p := ⟨g, o + k * 2 + 1, none⟩) hg).trans c1
      have hcl := put1_any x f bx wr (Nat.lt_of_lt_of_le HV.out.1 hb.size) ((hb.cell (p := ⟨bx, 0, none⟩) HV.out.1).trans HV.out.2)
      have HX := Lib.hid hx
      have HN := Lib.hid hn
      clear hx hn
      cases hc : isK f x with
      | true =>
        have HR := Lib.hid (show Fst f l (k : Int) from .inr ⟨k, x, rfl, HX.out, hc, HN.out⟩)
        rw [hc] at hcl
        clear hc
        go_wp2_with (go_at_call 38; with_reducible refine hcl.mono ?_; clear hcl; rintro e w2 ⟨he, hb2⟩; subst he)
        go_ret
        exact ⟨_, rfl, HR.out, hb.trans (hb2.mono hb.size)⟩
      | false =>
        have HR := Lib.hid (isK_next HX.out HN.out hc)
        rw [hc] at hcl
        clear hc
        go_wp2_with (go_at_call 38; with_reducible refine hcl.mono ?_; clear hcl; rintro e w2 ⟨he, hb2⟩; subst he)
        refine ⟨⟨k + 1, hlt, by push_cast; rfl, HR.out, hb.trans (hb2.mono hb.size)⟩, ?_⟩
        simp only [RowKit.intOf]
        omega
    · obtain rfl : k = l.length := by omega
      rw [List.take_length] at hn
      have HR := Lib.hid hn
      clear hn
      go_wp2_with fail
      go_ret
      exact ⟨_, rfl, .inl ⟨rfl, HR.out⟩, hb⟩
/-! cells laid anew -/
theorem setCells_blk (g : Nat) (T : TypeId) : ∀ (vs : List Value) (o : Nat) (w : World) (cs : Array Value), w.heap[g]? = some (.cells cs T (0, 0)) → ∃ cs' : Array Value, (w.setCells g o vs).heap[g]? = some (.cells cs' T (0, 0)) ∧ cs'.size = cs.size ∧ ∀ j, j < o → cs'[j]? = cs[j]?
  | [], o, w, cs, h => ⟨cs, h, rfl, fun _ _ => rfl⟩
  | v :: vs, o, w, cs, h => by
    obtain ⟨cs', h1, h2, h3⟩ := setCells_blk g T vs (o + 1) (w.setCell ⟨g, o, none⟩ v) _ (heap_setCell_same w g o cs _ v h)
    refine ⟨cs', h1, by simpa using h2, fun j hj => ?_⟩
    rw [h3 j (by omega), Array.getElem?_setIfInBounds_ne (by omega)]
theorem But.setCells (g : Nat) : ∀ (vs : List Value) (o : Nat) (w : World), But g w (w.setCells g o vs)
  | [], _, w => But.refl g w
  | v :: vs, o, w => by
    refine But.trans ?_ (But.setCells g vs (o + 1) (w.setCell ⟨g, o, none⟩ v))
    exact ⟨rfl, rfl, rfl, by simp, fun k hk hn => Below.heap_setCell _ _ _ _ (fun e => hn (by rw [e]))⟩
theorem run_clear_files {w : World} {g i n cap : Nat} {l : List F} (hF : FR w g l) (hl : l.length = i + n) (hn : 0 < n) (ty : TypeId) :
    ∃ vs, (Builtin.clear_ #[23] ty #[.slice (some ⟨g, i * 2, none⟩) n cap]).run Tryz.prog w = .ok (.tuple #[]) (w.setCells g (i * 2) vs) := by
  obtain ⟨cs, h1, h2, h3⟩ := hF
  obtain ⟨m, rfl⟩ : ∃ m, n = m + 1 := ⟨n - 1, by omega⟩
  have hz : ∀ w, (zeroValue 34).run Tryz.prog w = .ok (.agg #[.string ⟨#[]⟩, .string ⟨#[]⟩]) w := Tryz.zeroValue34
  have hs := size_zeroCells (Value.cells (.agg #[.string ⟨#[]⟩, .string ⟨#[]⟩])) (m + 1)
  have ho : ∀ v ∈ (Builtin.zeroCells (Value.cells (.agg #[.string ⟨#[]⟩, .string ⟨#[]⟩])) (m + 1)).toList, v.oneCell' = true := by
    intro v hv
    simp only [Builtin.zeroCells, Array.toList_map, List.mem_map] at hv
    obtain ⟨j, _, rfl⟩ := hv
    have hj : j % 2 = 0 ∨ j % 2 = 1 := by omega
    simp only [Value.cells, List.size_toArray, List.length_cons, List.length_nil, Nat.reduceAdd]
    rcases hj with hj | hj <;> rw [hj] <;> rfl
  have hst := run_storeCells_cells (P := Tryz.prog) g (i * 2) (Builtin.zeroCells (Value.cells (.agg #[.string ⟨#[]⟩, .string ⟨#[]⟩])) (m + 1)).toList 0 w (fun j hj => by
    have hj' : j < (m + 1) * 2 := by
      rw [Array.length_toList, hs] at hj
      exact hj
    have hlt : i * 2 + j < cs.size := by omega
    simp [World.cell?, h1, hlt]) (fun j _ => by simp [World.frozen?, h1]) ho
  simp only [Nat.add_zero] at hst
  exact ⟨(Builtin.zeroCells (Value.cells (.agg #[.string ⟨#[]⟩, .string ⟨#[]⟩])) (m + 1)).toList, by simp [Builtin.clear_, run_underlying Tryz.underlying23, hz, hst]⟩
theorem FR.clear {w : World} {g i : Nat} {l : List F} (hF : FR w g l) (hi : i ≤ l.length) (vs : List Value) : FR (w.setCells g (i * 2) vs) g (l.take i) := by
  obtain ⟨cs, h1, h2, h3⟩ := hF
  obtain ⟨cs', h4, h5, h6⟩ := setCells_blk g _ vs (i * 2) w cs h1
  refine ⟨cs', h4, by rw [List.length_take]; omega, fun j f hj => ?_⟩
  have hji : j < i := by
    have := (List.getElem?_eq_some_iff.1 hj).1
    rw [List.length_take] at this
    omega
  rw [List.getElem?_take_of_lt hji] at hj
  rw [h6 _ (by omega), h6 _ (by omega)]
  exact h3 j f hj
/-- how many cells a block has -/
def Sz (w : World) (g n : Nat) : Prop := ∃ cs : Array Value, w.heap[g]? = some (.cells cs 34 (0, 0)) ∧ cs.size = n
theorem Sz.same {w w' : World} {g n : Nat} (h : Sz w g n) (hw : w'.heap[g]? = w.heap[g]?) : Sz w' g n := by
  obtain ⟨cs, h1, h2⟩ := h
  exact ⟨cs, hw.trans h1, h2⟩
theorem Sz.keep {w w' : World} {g n : Nat} (h : Sz w g n) (hb : Below w.heap.size w w') : Sz w' g n := h.same (hb.block g (by
  obtain ⟨cs, h1, -⟩ := h
  exact (Array.getElem?_eq_some_iff.1 h1).1))
theorem Sz.set {w : World} {g n : Nat} (h : Sz w g n) (i : Nat) (f : F) : Sz (setF w g i f) g n := by
  obtain ⟨cs, h1, h2⟩ := h
  have a1 := heap_setCell_same w g (i * 2) cs _ (.string f.1) h1
  have a2 := heap_setCell_same _ g (i * 2 + 1) _ _ (.string f.2) a1
  exact ⟨_, a2, by simpa using h2⟩
theorem Sz.cells {w : World} {g n : Nat} (h : Sz w g n) (vs : List Value) (o : Nat) : Sz (w.setCells g o vs) g n := by
  obtain ⟨cs, h1, h2⟩ := h
  obtain ⟨cs', h4, h5, -⟩ := setCells_blk g _ vs o w cs h1
  exact ⟨cs', h4, h5.trans h2⟩
/-- deleting, in its midst: i files are kept of the first j -/
structure DM (f : F) (l C : List F) (i j : Nat) : Prop where
  len : C.length = l.length
  ij : i < j
  jl : j ≤ l.length
  low : C.take i = (l.take j).filter fun x => !isK f x
  high : C.drop j = l.drop j
theorem DM.start {f : F} {l : List F} {k : Nat} {x : F} (hx : l[k]? = some x) (h : isK f x = true) (hn : ∀ y ∈ l.take k, isK f y = false) : DM f l l k (k + 1) := by
  refine ⟨rfl, by omega, (List.getElem?_eq_some_iff.1 hx).1, ?_, rfl⟩
  rw [take_snoc hx, List.filter_append, List.filter_eq_self.2 fun y hy => by rw [hn y hy]; rfl]
  simp [h]
theorem DM.at {f : F} {l C : List F} {i j : Nat} (h : DM f l C i j) : C[j]? = l[j]? := by
  have := congrArg (fun l => l[0]?) h.high
  simpa using this
theorem DM.keep {f : F} {l C : List F} {i j : Nat} (h : DM f l C i j) {x : F} (hx : l[j]? = some x) (hk : isK f x = false) : DM f l (C.set i x) (i + 1) (j + 1) := by
  have hj := (List.getElem?_eq_some_iff.1 hx).1
  have hC := h.len
  have hij := h.ij
  refine ⟨by simpa using h.len, by omega, hj, ?_, ?_⟩
  · rw [take_snoc hx, List.filter_append, ← h.low, List.take_add_one, List.getElem?_set_self (by omega), List.take_set_of_le (Nat.le_refl _)]
    simp [hk]
  · rw [List.drop_set_of_lt (by omega)]
    have := congrArg (List.drop 1) h.high
    simpa using this
theorem DM.skip {f : F} {l C : List F} {i j : Nat} (h : DM f l C i j) {x : F} (hx : l[j]? = some x) (hk : isK f x = true) : DM f l C i (j + 1) := by
  have hij := h.ij
  refine ⟨h.len, by omega, (List.getElem?_eq_some_iff.1 hx).1, ?_, ?_⟩
  · rw [take_snoc hx, List.filter_append, ← h.low]
    simp [hk]
  · have := congrArg (List.drop 1) h.high
    simpa using this
set_option maxHeartbeats 4000000 in
set_option maxRecDepth 100000 in
theorem delete_any (f : F) (bx : Nat) (l : List F) (g cap : Nat) (W : World) (hF : FR W g l) {sz : Nat} (hZ : Sz W g sz) (hl : l.length ≤ 10000000) (hg : l.length ≤ cap) (hbx : bx < W.heap.size) (hbg : bx ≠ g) (hv : W.cell? ⟨bx, 0, none⟩ = some (.string f.1)) :
    Calls Tryz.prog 36 #[.slice (some ⟨g, 0, none⟩) l.length cap, .func (.func 38) #[] #[.pointer (some ⟨bx, 0, none⟩)]] W fun e W' =>
      ∃ s : List F, s = (l.filter fun x => !isK f x) ∧ e = .returned (.slice (some ⟨g, 0, none⟩) s.length cap) ∧ FR W' g s ∧ Sz W' g sz ∧ s.length ≤ l.length ∧ But g W W' := by
  have HSZ := Lib.hid hZ
  clear hZ
  have hi := pindex2_any f bx l _ W (.inr ⟨g, 0, cap, rfl, hF.fc⟩) hl hbx hv
  have HF := Lib.hid hF
  have HV := Lib.hid (And.intro hbx (And.intro hbg hv))
  clear hF hbx hbg hv
  go_enter Tryz.func36, Tryz.ntmps36
  go_wp2_with fail
  refine hi.mono ?_
  clear hi
  rintro e w1 ⟨i, rfl, hi, hb1⟩
  have hF1 := HF.out.keep hb1
  have hB1 := But.of (g := g) hb1
  rcases hi with ⟨rfl, hall⟩ | ⟨k, x, rfl, hx, hk, hn⟩
  · have HR := Lib.hid (show l = l.filter fun x => !isK f x from (List.filter_eq_self.2 fun y hy => by rw [hall y hy]; rfl).symm)
    clear hall
    have HF1 := Lib.hid hF1
    have HB1 := Lib.hid hB1
    have HZ1 := Lib.hid (HSZ.out.keep hb1)
    clear hF1 hB1 hb1
    go_wp2_with fail
    go_ret
    exact ⟨l, HR.out, rfl, HF1.out, HZ1.out, Nat.le_refl _, HB1.out⟩
  · have HD := Lib.hid (DM.start hx hk hn)
    have HF1 := Lib.hid hF1
    have HB1 := Lib.hid hB1
    have HZ1 := Lib.hid (HSZ.out.keep hb1)
    have HK := Lib.hid (show k < l.length from (List.getElem?_eq_some_iff.1 hx).1)
    have hne1 : ((k : Int) == -1) = false := beq_eq_false_iff_ne.2 (by omega)
    have hk1 := HK.out
    clear hF1 hB1 hb1 hx hk hn
    go_wp2_with fail
    clear hk1
    go_loopw [5, 6, 7] (fun si sj _ wr => ∃ (i j : Nat) (C : List F), si = .int .i64 (i : Int) ∧ sj = .int .i64 (j : Int) ∧ DM f l C i j ∧ FR wr g C ∧ Sz wr g sz ∧ But g W wr) (fun _ sj _ _ => l.length - (RowKit.intOf sj).toNat)
    case atStart => exact ⟨k, k + 1, l, rfl, by push_cast; rfl, HD.out, HF1.out, HZ1.out, HB1.out⟩
    case round =>
      clear HD HF1 HB1
      obtain ⟨i, j, C, rfl, rfl, hM, hF, hZ, hB⟩ := hrel
      have HZ := Lib.hid hZ
      clear hZ HZ1
      have HM := Lib.hid hM
      by_cases hlt : j < l.length
      · obtain ⟨x, hx⟩ : ∃ x, l[j]? = some x := ⟨l[j], List.getElem?_eq_getElem hlt⟩
        obtain ⟨y, hy⟩ : ∃ y, C[i]? = some y := ⟨C[i]'(by have := hM.len; have := hM.ij; omega), List.getElem?_eq_getElem _⟩
        obtain ⟨c0, c1⟩ := hF.cells (hM.at.trans hx)
        have hA : Below wr.heap.size wr (wr.alloc (.cells #[.string x.1, .string x.2] 34)) := (Below.refl _ _).alloc (Nat.le_refl _) _
        have hbw : (wr.alloc (.cells #[.string x.1, .string x.2] 34)).cell? ⟨bx, 0, none⟩ = some (.string f.1) := by
          rw [hA.cell (p := ⟨bx, 0, none⟩) (Nat.lt_of_lt_of_le HV.out.1 hB.size), World.cell?_of_block (w := W) (hB.block bx HV.out.1 (fun e => HV.out.2.1 (Option.some.inj e)))]
          exact HV.out.2.2
        have hcl := put1_any x f bx _ (Nat.lt_of_lt_of_le (Nat.lt_of_lt_of_le HV.out.1 hB.size) hA.size) hbw
        have hil : i < l.length := Nat.lt_trans hM.ij hlt
        have HN := Lib.hid (show (wr.alloc (.cells #[.string x.1, .string x.2] 34)).cell? ⟨wr.heap.size, 0, none⟩ = some (.string x.1) ∧ (wr.alloc (.cells #[.string x.1, .string x.2] 34)).cell? ⟨wr.heap.size, 1, none⟩ = some (.string x.2) by
          constructor <;> (simp only [World.cell?, heap_alloc_new]; rfl))
        have HF := Lib.hid hF
        have HB := Lib.hid hB
        have HA := Lib.hid hA
        have HX := Lib.hid hx
        have HY := Lib.hid hy
        clear hM hF hB hA hbw hx hy
        cases hc : isK f x with
        | true =>
          have HR := Lib.hid (HM.out.skip HX.out hc)
          rw [hc] at hcl
          clear hc
          go_wp2_with (go_at_call 38; with_reducible refine hcl.mono ?_; clear hcl; rintro e w2 ⟨he, hb2⟩; subst he; have HB2 := Lib.hid hb2; have n0 := Sx.keep_cell hb2 HN.out.1; have n1 := Sx.keep_cell hb2 HN.out.2; clear hb2)
          go_roundw
          case rel => exact ⟨i, j + 1, C, rfl, by push_cast; rfl, HR.out, (HF.out.keep HA.out).keep HB2.out, (HZ.out.keep HA.out).keep HB2.out, HB.out.trans ((But.of HA.out).trans (But.of HB2.out))⟩
          case measure => simp [RowKit.intOf]; omega
        | false =>
          have HR := Lib.hid (HM.out.keep HX.out hc)
          rw [hc] at hcl
          clear hc
          go_wp2_with (go_at_call 38; with_reducible refine hcl.mono ?_; clear hcl; rintro e w2 ⟨he, hb2⟩; subst he; have HB2 := Lib.hid hb2; have n0 := Sx.keep_cell hb2 HN.out.1; have n1 := Sx.keep_cell hb2 HN.out.2; obtain ⟨d0, d1⟩ := ((HF.out.keep HA.out).keep hb2).cells HY.out; have z0 := ((HF.out.keep HA.out).keep hb2).frz (i * 2); have z1 := ((HF.out.keep HA.out).keep hb2).frz (i * 2 + 1); clear hb2)
          go_roundw
          case rel => exact ⟨i + 1, j + 1, C.set i x, by push_cast; rfl, by push_cast; rfl, HR.out, ((HF.out.keep HA.out).keep HB2.out).set (by have := HM.out.len; omega) x, ((HZ.out.keep HA.out).keep HB2.out).set i x, (HB.out.trans ((But.of HA.out).trans (But.of HB2.out))).set i x⟩
          case measure => simp [RowKit.intOf]; omega
      · obtain rfl : j = l.length := by have := hM.jl; omega
        have hil : i < l.length := hM.ij
        have hlen : C.length = i + (l.length - i) := by
          have := hM.len
          omega
        obtain ⟨vs, hcl⟩ := run_clear_files (n := l.length - i) (cap := cap - i) hF hlen (by omega) 0
        have HF := Lib.hid (hF.clear (i := i) (by omega) vs)
        have HB := Lib.hid (hB.trans (But.setCells g vs (i * 2) wr))
        have HL := Lib.hid (show C.take i = l.filter fun x => !isK f x by
          have := hM.low
          rwa [List.take_length] at this)
        have HZ2 := Lib.hid (HZ.out.cells vs (i * 2))
        have HZ := Lib.hid (show (C.take i).length = i by rw [List.length_take]; omega)
        clear hF hB hM hlen
        go_wp2_with fail
        go_ret
        exact ⟨C.take i, HL.out, by rw [HZ.out]; rfl, HF.out, HZ2.out, by rw [HZ.out]; omega, HB.out⟩
end Tr
end Go.Proofs.YtbefgplaaghlbaaGreatDoor
