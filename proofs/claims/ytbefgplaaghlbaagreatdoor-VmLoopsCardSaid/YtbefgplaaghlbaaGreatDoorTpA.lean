/-
  Walks: tree.Put.
-/
import Derived.Test.YtbefgplaaghlbaaGreatDoorTrO
import Derived.Maps.AppendAt
namespace Go.Proofs.YtbefgplaaghlbaaGreatDoor
open Go.RowKit Go.Shelf Go.Lib Go.Sort
namespace Tr

/-- a slice of files in a row of its own, from block B on -/
def FO (w : World) (B : Nat) (v : Value) (l : List F) : Prop := w.ownsRow B 34 2 v l.length (rowF l)
theorem FO.nil (w : World) (B : Nat) : FO w B (.slice none 0 0) [] := World.ownsRow_nil w B _ 2
theorem rowF_app (a b : List F) : rowF (a ++ b) = rowF a ++ rowF b := List.flatMap_append
theorem FO.fs {w : World} {B : Nat} {v : Value} {l : List F} (h : FO w B v l) : FS w v l := by
  by_cases hv : v = .slice none 0 0
  · subst hv
    rcases h.2 with ⟨-, hl⟩ | ⟨g, cap, cur, e, -⟩
    · exact .inl ⟨rfl, List.length_eq_zero_iff.1 hl⟩
    · cases e
  · obtain ⟨g, cap, rfl, -, hF, -⟩ := own_fr h hv
    exact .inr ⟨g, 0, cap, rfl, hF.fc⟩
theorem FO.keep {w w' : World} {B : Nat} {v : Value} {l : List F} (h : FO w B v l) (hb : Below w.heap.size w w') : FO w' B v l := by
  refine ⟨h.1, ?_⟩
  rcases h.2 with hn | ⟨g, cap, cur, rfl, hbg, hg, rest⟩
  · exact .inl hn
  · exact .inr ⟨g, cap, cur, rfl, hbg, (hb.block g (Array.getElem?_eq_some_iff.1 hg).1).trans hg, rest⟩
theorem FO.mono {w : World} {B B' : Nat} {v : Value} {l : List F} (h : FO w B v l) (hB : B' ≤ B) : FO w B' v l := by
  refine ⟨h.1, ?_⟩
  rcases h.2 with hn | ⟨g, cap, cur, rfl, hbg, rest⟩
  · exact .inl hn
  · exact .inr ⟨g, cap, cur, rfl, Nat.le_trans hB hbg, rest⟩
/-- files in a block, as a row -/
theorem fr_take {cs : Array Value} {l : List F} (h2 : l.length * 2 ≤ cs.size) (h3 : ∀ i f, l[i]? = some f → cs[i * 2]? = some (.string f.1) ∧ cs[i * 2 + 1]? = some (.string f.2)) : cs.toList.take (l.length * 2) = rowF l := by
  apply List.ext_getElem?
  intro j
  by_cases hj : j < l.length * 2
  · obtain ⟨f, hf⟩ : ∃ f, l[j / 2]? = some f := ⟨_, List.getElem?_eq_getElem (by omega)⟩
    obtain ⟨a1, a2⟩ := h3 _ f hf
    obtain ⟨b1, b2⟩ := rowF_at l _ f hf
    rw [List.getElem?_take_of_lt hj, Array.getElem?_toList]
    rcases Nat.mod_two_eq_zero_or_one j with e | e
    · have e1 : j / 2 * 2 = j := by omega
      rw [e1] at a1 b1
      rw [a1, b1]
    · have e1 : j / 2 * 2 + 1 = j := by omega
      rw [e1] at a2 b2
      rw [a2, b2]
  · have a := List.getElem?_eq_none (l := cs.toList.take (l.length * 2)) (i := j) (by simp; omega)
    have b := List.getElem?_eq_none (l := rowF l) (i := j) (by rw [rowF_len]; omega)
    rw [a, b]
theorem fclone_own (l : List F) (v : Value) (w : World) (hF : FS w v l) (hl : l.length ≤ 1000000) :
    Calls Tryz.prog 37 #[v] w fun e w' => ∃ v', e = .returned v' ∧ FO w' w.heap.size v' l ∧ Below w.heap.size w w' := by
  rcases hF with ⟨rfl, rfl⟩ | ⟨g, off, cap, rfl, hF⟩
  · refine (fclone_nil w).mono ?_
    rintro e w' ⟨rfl, rfl⟩
    exact ⟨_, rfl, FO.nil _ _, Below.refl _ _⟩
  · obtain ⟨i0, hi0, hz⟩ := Option.map_eq_some_iff.1 info_file
    obtain ⟨z1, z2⟩ := Prod.mk.inj hz
    obtain ⟨z2, z3⟩ := Prod.mk.inj z2
    refine (AnyE.slices_Clone Tryz.cloneF i0 _ 2 32 hi0 z1 z2 z3 rfl (by decide) sizeFile g off l.length cap (rowF l) w (rowF_len l) (by simp only [maxLen]; omega) (by omega) (fun j u hj => hF.row hj) (rowF_one l)).mono ?_
    rintro e w' ⟨v', rfl, h4, h5, h6⟩
    exact ⟨v', rfl, h4, h6⟩
theorem delete_own (f : F) (bx B : Nat) (l : List F) (v : Value) (W : World) (hF : FO W B v l) (hl : l.length ≤ 10000000) (hbx : bx < B) (hB : B ≤ W.heap.size) (hv : W.cell? ⟨bx, 0, none⟩ = some (.string f.1)) :
    Calls Tryz.prog 36 #[v, .func (.func 38) #[] #[.pointer (some ⟨bx, 0, none⟩)]] W fun e W' =>
      ∃ s v', s = (l.filter fun x => !isK f x) ∧ e = .returned v' ∧ FO W' B v' s ∧ Below B W W' ∧ s.length ≤ l.length := by
  rcases hF.2 with ⟨rfl, hl0⟩ | ⟨g, cap, cur, rfl, hbg, hg, hn, hm, hs, ht⟩
  · obtain rfl : l = [] := List.length_eq_zero_iff.1 hl0
    have hi := pindex2_any f bx [] (.slice none 0 0) W (.inl ⟨rfl, rfl⟩) (by simp) (by omega) hv
    go_enter Tryz.func36, Tryz.ntmps36
    go_wp2_with fail
    refine hi.mono ?_
    clear hi
    rintro e w1 ⟨i, rfl, hi, hb1⟩
    rcases hi with ⟨rfl, -⟩ | ⟨k, x, rfl, hx, -⟩
    · go_wp2_with fail
      go_ret
      exact ⟨[], _, rfl, rfl, FO.nil _ _, hb1.mono hB, Nat.le_refl _⟩
    · simp at hx
  · have hFR : FR W g l := ⟨cur, hg, by omega, fun i f hf => by
      obtain ⟨b1, b2⟩ := rowF_at l i f hf
      have hi := (List.getElem?_eq_some_iff.1 hf).1
      rw [← ht, List.getElem?_take_of_lt (by omega), Array.getElem?_toList] at b1 b2
      exact ⟨b1, b2⟩⟩
    refine (delete_any f bx l g cap W hFR ⟨cur, hg, rfl⟩ hl hn (by omega) (by omega) hv).mono ?_
    rintro e W' ⟨s, hs1, rfl, hF', ⟨cs, hc1, hc2⟩, hle, hbut⟩
    refine ⟨s, _, hs1, rfl, ⟨rowF_len s, .inr ⟨g, cap, cs, rfl, hbg, hc1, by omega, hm, by omega, ?_⟩⟩, But.below (Below.refl _ _) hB hbg hbut, hle⟩
    obtain ⟨cs', d1, d2, d3⟩ := hF'
    rw [hc1] at d1
    cases d1
    exact fr_take d2 d3
/-- one more file at the end -/
theorem FO.push {w : World} {B : Nat} {v : Value} {l : List F} (h : FO w B v l) (f : F) (hn : l.length ≤ 1000000) (hBw : B ≤ w.heap.size) {ops : Array Oper} {rest : List Oper} {o : Oper} {a : Act} {Q : Exit → Act → World → Prop} (hgd : o.guard = none) (sl xo : Operand)
    (ho : o.op = .call { callee := .builtin .append, args := #[sl, xo], argTypes := #[23, 23] }) (hv : a.eval sl = v) {A : Nat} (hx : a.eval xo = .slice (some ⟨A, 0, none⟩) 1 1) (hA : A = w.heap.size)
    (hK : ∀ v' w', FO w' B v' (l ++ [f]) → (∀ w0, Below B w0 w → Below B w0 w') → (∀ k, k < w.heap.size → v.ownBlock ≠ some k → w'.heap[k]? = w.heap[k]?) → w.heap.size ≤ w'.heap.size → wpList Tryz.prog ops Q rest (a.put o.dst v') w') : wpList Tryz.prog ops Q (o :: rest) a (w.alloc (.cells #[.string f.1, .string f.2] 34)) := by
  subst hA
  obtain ⟨i0, hi0, hz⟩ := Option.map_eq_some_iff.1 info_file
  obtain ⟨z1, z2⟩ := Prod.mk.inj hz
  obtain ⟨z2, z3⟩ := Prod.mk.inj z2
  have h1 : FO (w.alloc (.cells #[.string f.1, .string f.2] 34)) B v l := h.keep ((Below.refl _ _).alloc (Nat.le_refl _) _)
  refine wpList_append_own_at _ hgd sl xo 23 ho B 34 i0 _ 2 32 Tryz.underlying23 hi0 z1 z2 z3 rfl (by decide) v l.length _ hv h1 ⟨w.heap.size, 0, none⟩ 1 1 [.string f.1, .string f.2] hx rfl (World.news_of_block (cs := #[.string f.1, .string f.2]) (heap_alloc_new w _)) ?_ (by unfold maxLen; omega) (by omega) (by simp; omega) ?_
  · intro q hq
    simp only [List.mem_cons, List.not_mem_nil, or_false] at hq
    rcases hq with rfl | rfl <;> rfl
  intro v' w2 hown2 hg2 _ hat
  refine hK v' w2 ?_ (fun w0 h0 => (h0.alloc hBw _).grown hg2 (by simp; omega) (fun k hk => (h.lt k hk).1)) (fun k hk hne => (hg2.block k (by simp; omega) (fun e => hne e.symm)).trans (heap_alloc_old w _ hk)) (Nat.le_trans (by simp) hg2.size)
  unfold FO
  rw [List.length_append, rowF_app]
  exact hown2
theorem filter_eq (l : List F) (f : F) : (l.filter fun x => !isK f x) = l.filter fun g => !(K g == K f) := rfl
/-- what tree.Put answers -/
def PutOut (w : World) (l : List F) (f : F) (e : Ending) (w' : World) : Prop := Below w.heap.size w w' ∧ MakeV w w' e (putT l f)
/-- a result and its error, from block A on -/
def RV (A : Nat) (X : World) (v : Value) (c : Int) : Except Int (List F) → Prop
  | .error c' => v = .slice none 0 0 ∧ c = c'
  | .ok s => c = 0 ∧ ((v = .slice none 0 0 ∧ s = []) ∨ ∃ g cap, v = .slice (some ⟨g, 0, none⟩) s.length cap ∧ A < g ∧ FR X g s)
theorem MakeV.rv {w X : World} {e : Ending} {r : Except Int (List F)} (h : MakeV w X e r) {A : Nat} (hA : A < w.heap.size) : ∃ sl n cap c, e = .returned (.tuple #[.agg #[.slice sl n cap], .int .i64 c]) ∧ RV A X (.slice sl n cap) c r := by
  cases r with
  | error c => exact ⟨_, _, _, c, h, rfl, rfl⟩
  | ok s =>
    obtain ⟨v, he, hv⟩ := h
    rcases hv with ⟨rfl, hs⟩ | ⟨g, cap, rfl, hg, hF⟩
    · exact ⟨_, _, _, 0, he, rfl, .inl ⟨rfl, hs⟩⟩
    · exact ⟨_, _, _, 0, he, rfl, .inr ⟨g, cap, rfl, by omega, hF⟩⟩
theorem blk_cell {X : World} {A : Nat} {v : Value} {T : TypeId} (h : X.heap[A]? = some (.cells #[v] T (0, 0))) : X.cell? ⟨A, 0, none⟩ = some v ∧ X.frozen? ⟨A, 0, none⟩ = false := ⟨by simp [World.cell?, h], by simp [World.frozen?, h]⟩
theorem put_ret {w X : World} {A : Nat} {u v : Value} {c : Int} {l : List F} {f : F} (hA : w.heap.size ≤ A) (hX : Below w.heap.size w X) (hb : X.heap[A]? = some (.cells #[u] 25 (0, 0))) (hr : RV A X v c (putT l f))
    {tm : Array Value} (h4 : tm[4]? = some (.pointer (some ⟨A, 0, none⟩))) (h5 : tm[5]? = some (.int .i64 c)) :
    bodyPost Tryz.prog Tryz.f19 (PutOut w l f) Exit.ret ⟨tm, []⟩ (X.setCell ⟨A, 0, none⟩ v) := by
  have hq : (X.setCell ⟨A, 0, none⟩ v).cell? ⟨A, 0, none⟩ = some v := by
    have := heap_setCell_same X A 0 _ _ v hb
    simp [World.cell?, this]
  refine bodyPost_ret (v := .tuple #[.agg #[v], .int .i64 c]) (by simp [results, Tryz.results19, go_sem, h4, h5, hq]) rfl ⟨hX.setCell (p := ⟨A, 0, none⟩) hA _, ?_⟩
  cases hp : putT l f with
  | error c' =>
    rw [hp] at hr
    obtain ⟨rfl, rfl⟩ := hr
    rfl
  | ok s =>
    rw [hp] at hr
    obtain ⟨rfl, hv⟩ := hr
    refine ⟨v, rfl, ?_⟩
    rcases hv with hv | ⟨g, cap, hv, hg, hF⟩
    · exact .inl hv
    · refine .inr ⟨g, cap, hv, by omega, hF.same (Below.heap_setCell _ _ _ _ ?_)⟩
      show g ≠ A
      omega
theorem put_start (w : World) (a b c : Obj) : Below w.heap.size w (((w.alloc a).alloc b).alloc c) ∧ (((w.alloc a).alloc b).alloc c).heap[w.heap.size]? = some a ∧ (((w.alloc a).alloc b).alloc c).heap[w.heap.size + 1]? = some b ∧ (((w.alloc a).alloc b).alloc c).heap[w.heap.size + 1 + 1]? = some c := by
  have e1 : (w.alloc a).heap.size = w.heap.size + 1 := by simp
  have e2 : ((w.alloc a).alloc b).heap.size = w.heap.size + 1 + 1 := by simp
  refine ⟨((((Below.refl w.heap.size w).alloc (Nat.le_refl _) a).alloc (by simp) b).alloc (by rw [e2]; omega) c), ?_, ?_, ?_⟩
  · rw [heap_alloc_old _ _ (by omega), heap_alloc_old _ _ (by omega), heap_alloc_new]
  · rw [heap_alloc_old _ _ (by omega), ← e1, heap_alloc_new]
  · rw [← e2, heap_alloc_new]
set_option maxHeartbeats 4000000 in
set_option maxRecDepth 100000 in
theorem put_bad (l : List F) (f : F) (v : Value) (w : World) (hE : Vm.Env w) (hF : FS w v l) (hs : ∀ f ∈ l, f.1.size ≤ 1000000) (hl : l.length ≤ 1000000) (hg : goodT l = false) :
    Calls Tryz.prog 19 #[.agg #[v], .agg #[.string f.1, .string f.2]] w (PutOut w l f) := by
  obtain ⟨hA, b0, b1, b2⟩ := put_start w (.cells #[v] 25) (.cells #[.string f.1, .string f.2] 34) (.cells #[.slice none 0 0] 25)
  have hb := good_any l v _ (hE.below hA) (hF.keep hA) hs hl
  rw [hg] at hb
  have HR := Lib.hid (show putT l f = .error 1 by unfold putT; rw [hg]; rfl)
  have HA := Lib.hid hA
  have HB := Lib.hid b2
  have hsz := (Array.getElem?_eq_some_iff.1 b2).1
  have HZ := Lib.hid hsz
  obtain ⟨sl, cap, rfl⟩ := hF.len
  clear hA hF hE b0 b1 b2 hsz
  go_enter Tryz.func19, Tryz.ntmps19
  go_wp2_with (go_at_call 18; with_reducible refine hb.mono ?_; clear hb; rintro e w2 ⟨he, hb2⟩; subst he; have HC := Lib.hid ((hb2.block _ HZ.out).trans HB.out); have c2 := (blk_cell HC.out).1; have z2 := (blk_cell HC.out).2; have HB2 := Lib.hid hb2; clear hb2)
  (try simp only [Exit.inBlock, Exit.then])
  exact put_ret (by omega) (HA.out.trans (HB2.out.mono HA.out.size)) HC.out (by rw [HR.out]; exact ⟨rfl, rfl⟩) rfl rfl
set_option maxHeartbeats 4000000 in
set_option maxRecDepth 100000 in
theorem put_good (l : List F) (f : F) (v : Value) (w : World) (hE : Vm.Env w) (hF : FS w v l) (hs : ∀ f ∈ l, f.1.size ≤ 1000000) (hl : l.length ≤ 1000000) (hf : f.1.size ≤ 1000000) (hg : goodT l = true) :
    Calls Tryz.prog 19 #[.agg #[v], .agg #[.string f.1, .string f.2]] w (PutOut w l f) := by
  obtain ⟨hA, b0, b1, b2⟩ := put_start w (.cells #[v] 25) (.cells #[.string f.1, .string f.2] 34) (.cells #[.slice none 0 0] 25)
  have hb := good_any l v _ (hE.below hA) (hF.keep hA) hs hl
  rw [hg] at hb
  have HR := Lib.hid (show putT l f = makeP ((l.filter fun x => !isK f x) ++ [f]) by unfold putT; rw [hg]; rfl)
  have HF := Lib.hid (hF.keep hA)
  have HA := Lib.hid hA
  have HB := Lib.hid (And.intro b0 (And.intro b1 b2))
  have hsz := (Array.getElem?_eq_some_iff.1 b2).1
  have HZ := Lib.hid hsz
  have HE := Lib.hid hE
  obtain ⟨sl, cap, rfl⟩ := hF.len
  clear hA hF hE b0 b1 b2 hsz
  generalize hW : ((w.alloc (.cells #[.slice sl l.length cap] 25)).alloc (.cells #[.string f.1, .string f.2] 34)).alloc (.cells #[.slice none 0 0] 25) = W at *
  go_enter Tryz.func19, Tryz.ntmps19
  have c0 := (blk_cell HB.out.1).1
  go_wp2_with (go_at_call 18; with_reducible refine hb.mono ?_; clear hb; rintro e w2 ⟨he, hb2⟩; subst he; replace c0 := Sx.keep_cell hb2 c0; have HB2 := Lib.hid hb2; clear hb2)
  refine (fclone_own l _ w2 (HF.out.keep HB2.out) hl).mono ?_
  rintro e w3 ⟨v3, rfl, hO3, hB3⟩
  have HO3 := Lib.hid hO3
  have HB3 := Lib.hid hB3
  clear hO3 hB3
  replace c0 := Sx.keep_cell HB3.out c0
  have k1 : w3.cell? ⟨w.heap.size + 1, 0, none⟩ = some (.string f.1) ∧ w3.cell? ⟨w.heap.size + 1, 1, none⟩ = some (.string f.2) := by
    have := (HB3.out.block (w.heap.size + 1) (by have := HZ.out; have := HB2.out.size; omega)).trans ((HB2.out.block (w.heap.size + 1) (by have := HZ.out; omega)).trans HB.out.2.1)
    simp [World.cell?, this]
  have hd := delete_own f (w.heap.size + 1) w2.heap.size l v3 w3 HO3.out (by omega) (by have := HZ.out; have := HB2.out.size; omega) HB3.out.size k1.1
  have K1 := Lib.hid k1
  clear k1
  go_wp2_with fail
  refine hd.mono ?_
  clear hd
  rintro e w4 ⟨s, v4, hs4, rfl, hO4, hB4, hle⟩
  have HS4 := Lib.hid hs4
  have HO4 := Lib.hid hO4
  have HB4 := Lib.hid hB4
  have HLE := Lib.hid hle
  clear hs4 hO4 hB4 hle c0
  have n0 := (HB4.out.cell (p := ⟨w.heap.size + 1, 0, none⟩) (by have := HZ.out; have := HB2.out.size; show w.heap.size + 1 < w2.heap.size; omega)).trans K1.out.1
  have n1 := (HB4.out.cell (p := ⟨w.heap.size + 1, 1, none⟩) (by have := HZ.out; have := HB2.out.size; show w.heap.size + 1 < w2.heap.size; omega)).trans K1.out.2
  go_wp2_with (first
    | (at_builtin; refine FO.push (l := s) (B := w2.heap.size) ?hh f ?hn ?hk rfl _ _ rfl rfl rfl ?he ?_; (case hh => exact HO4.out); (case hn => have := HLE.out; omega); (case hk => exact Nat.le_trans HB3.out.size HB4.out.size); (case he => simp); intro v5 w5 hO5 hB5 hF5 hZ5))
  have hB25 : Below w2.heap.size w2 w5 := hB5 w2 (HB3.out.trans HB4.out)
  have hB05 : Below w.heap.size w w5 := HA.out.trans ((HB2.out.trans (hB25.mono HB2.out.size)).mono HA.out.size)
  have hm := make_fs (s ++ [f]) v5 w5 (HE.out.below hB05) hO5.fs (fun x hx => by
    rcases List.mem_append.1 hx with hx | hx
    · rw [HS4.out] at hx
      exact hs x (List.mem_filter.1 hx).1
    · simp at hx
      subst hx
      exact hf) (by
    have h1 := (make_good (good_make hg)).2.1
    have h2 := HLE.out
    rw [List.length_append, List.length_singleton]
    omega)
  refine hm.mono ?_
  clear hm
  rintro e w6 ⟨hB6, hv6⟩
  have h5 : w.heap.size + 1 + 1 < w5.heap.size := by have := HZ.out; have := HB2.out.size; have := hB25.size; omega
  obtain ⟨sl6, n6, cap6, c6, rfl, hr6⟩ := hv6.rv h5
  have hb6 := (hB6.block _ h5).trans ((hB25.block _ (by have := HZ.out; have := HB2.out.size; omega)).trans ((HB2.out.block _ HZ.out).trans HB.out.2.2))
  have HR6 := Lib.hid hr6
  have HB6 := Lib.hid (And.intro (hB05.trans (hB6.mono hB05.size)) hb6)
  have q6 := (blk_cell hb6).1
  have z6 := (blk_cell hb6).2
  clear hB25 hB05 hB6 hv6 h5 hr6 hb6 hB5 hF5 hZ5 hO5 n0 n1
  go_wp2_with fail
  (try simp only [Exit.inBlock, Exit.then])
  exact put_ret (by omega) HB6.out.1 HB6.out.2 (by rw [HR.out, ← HS4.out]; exact HR6.out) rfl rfl
theorem put_any (l : List F) (f : F) (v : Value) (w : World) (hE : Vm.Env w) (hF : FS w v l) (hs : ∀ f ∈ l, f.1.size ≤ 1000000) (hl : l.length ≤ 1000000) (hf : f.1.size ≤ 1000000) :
    Calls Tryz.prog 19 #[.agg #[v], .agg #[.string f.1, .string f.2]] w (PutOut w l f) := by
  cases hg : goodT l with
  | false => exact put_bad l f v w hE hF hs hl hg
  | true => exact put_good l f v w hE hF hs hl hf hg
end Tr
end Go.Proofs.YtbefgplaaghlbaaGreatDoor
