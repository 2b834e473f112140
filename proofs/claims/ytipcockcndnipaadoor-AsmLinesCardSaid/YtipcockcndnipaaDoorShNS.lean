/-
  Walk: slices.Insert at one pair. (printed by gen_ShN.py)
-/
import Derived.Test.YtipcockcndnipaaDoorShS
import Derived.Test.YtipcockcndnipaaDoorCp
import Derived.Lib.Overlaps
import Derived.Lib.AppendZerosOnto
import Derived.Laws.NewBlocks
import Derived.Laws.Externs
import Derived.RegionTactic
import Derived.Deep.RegionLaw
import Derived.IntWalk
import Derived.Outline
namespace Go.Proofs.YtipcockcndnipaaDoor
open Go.RowKit
namespace ShS
open Shf

theorem info_p : (Tryd.prog.info? 85).map (fun i => (i.zero, i.size, i.bytes)) = some (some (.agg #[.string ⟨#[]⟩, .int .i64 0]), 2, 24) := by kernel_rfl
abbrev pc (a : KV) : Array Value := #[ek a.1, ev a.2]
/-- what inserting leaves -/
def IP (w : World) (B : Nat) (v : Value) (l : List KV) (e : Ending) (w' : World) : Prop := ∃ v', e = .returned v' ∧ Own w' B v' l ∧ w.grownBy w' v.ownBlock
theorem cell_of {w : World} {b : Nat} {cs : Array Value} {t : TypeId} (h : w.heap[b]? = some (.cells cs t (0, 0))) (j : Nat) : w.cell? ⟨b, j, none⟩ = cs[j]? := by simp [World.cell?, h]
theorem src_of {w : World} {vb : Nat} {a : KV} (h : w.heap[vb]? = some (.cells (pc a) 85 (0, 0))) : ∀ j u, [ek a.1, ev a.2][j]? = some u → w.cell? ((⟨vb, 0, none⟩ : Addr).add j) = some u := by
  intro j u hj
  have hadd : (⟨vb, 0, none⟩ : Addr).add j = ⟨vb, j, none⟩ := by unfold Addr.add; split <;> simp_all
  rw [hadd, cell_of h]
  match j, hj with
  | 0, hj => exact hj
  | 1, hj => exact hj
theorem one_of (a : KV) : ∀ u ∈ [ek a.1, ev a.2], u.oneCell' = true := by
  intro u hu
  simp at hu
  rcases hu with rfl | rfl <;> rfl
theorem row_snoc (l : List KV) (a : KV) : row l ++ [ek a.1, ev a.2] = row (l ++ [a]) := by rw [row_app]; rfl
set_option maxHeartbeats 4000000 in
set_option maxRecDepth 100000 in
theorem ins_end (B : Nat) (v : Value) (l : List KV) (a : KV) (vb : Nat) (w : World) (hO : Own w B v l) (hl : l.length ≤ 1000000) (hB : B ≤ w.heap.size) (hvb : w.heap[vb]? = some (.cells (pc a) 85 (0, 0))) :
    Calls Tryd.prog 47 #[v, .int .i64 (l.length : Int), .slice (some ⟨vb, 0, none⟩) 1 1] w fun e w' => IP w B v (l ++ [a]) e w' := by
  obtain ⟨i0, hi0, hz0, hz1, hz2⟩ := info_parts info_p
  have HO := Lib.hid hO
  have hsrc := Lib.hid (src_of hvb)
  have hone := Lib.hid (one_of a)
  clear hvb
  rcases hO.2 with ⟨rfl, hn⟩ | ⟨g, cap, cur, rfl, hBg, hg, hnc, hcm, hcs, htk⟩
  · have hn' : l = [] := List.length_eq_zero_iff.1 hn
    subst hn'
    clear hn hO
    go_enter Tryd.func47, Tryd.ntmps47
    go_wp2_with (at_builtin; refine wpList_append_own _ rfl _ _ 76 rfl B 85 i0 _ 2 24 Tryd.underlying76 hi0 hz0 hz1 hz2 rfl (by decide) (.slice none 0 0) 0 _ rfl HO.out ⟨vb, 0, none⟩ 1 1 [ek a.1, ev a.2] rfl rfl hsrc.out hone.out (by decide) (by decide) hB ?_)
    intro v' w' hown hgr _
    have HP := Lib.hid (show IP w B (.slice none 0 0) ([] ++ [a]) (.returned v') w' from ⟨v', rfl, hown, hgr⟩)
    clear hown hgr
    go_wp2_with fail
    go_ret
    exact HP.out
  · have hcm' : cap ≤ 9223372036854775807 := by unfold maxLen at hcm; omega
    clear hO hg hcs htk hcm
    by_cases hcn : cap = l.length
    · subst hcn
      go_enter Tryd.func47, Tryd.ntmps47
      go_wp2_with (at_builtin; refine wpList_append_own _ rfl _ _ 76 rfl B 85 i0 _ 2 24 Tryd.underlying76 hi0 hz0 hz1 hz2 rfl (by decide) (.slice (some ⟨g, 0, none⟩) l.length l.length) l.length _ rfl HO.out ⟨vb, 0, none⟩ 1 1 [ek a.1, ev a.2] rfl rfl hsrc.out hone.out (by unfold maxLen; omega) (by omega) hB ?_)
      intro v' w' hown hgr _
      have HP := Lib.hid (show IP w B (.slice (some ⟨g, 0, none⟩) l.length l.length) (l ++ [a]) (.returned v') w' from ⟨v', rfl, by unfold Own; rw [← row_snoc, List.length_append]; exact hown, hgr⟩)
      clear hown hgr
      go_wp2_with fail
      go_ret
      exact HP.out
    · go_enter Tryd.func47, Tryd.ntmps47
      go_wp2_with (at_builtin; refine wpList_append_own _ rfl _ _ 76 rfl B 85 i0 _ 2 24 Tryd.underlying76 hi0 hz0 hz1 hz2 rfl (by decide) (.slice (some ⟨g, 0, none⟩) l.length cap) l.length _ rfl HO.out ⟨vb, 0, none⟩ 1 1 [ek a.1, ev a.2] rfl rfl hsrc.out hone.out (by unfold maxLen; omega) (by omega) hB ?_)
      intro v' w' hown hgr _
      have HP := Lib.hid (show IP w B (.slice (some ⟨g, 0, none⟩) l.length cap) (l ++ [a]) (.returned v') w' from ⟨v', rfl, by unfold Own; rw [← row_snoc, List.length_append]; exact hown, hgr⟩)
      clear hown hgr
      go_wp2_with fail
      go_ret
      exact HP.out
theorem row_cut (l : List KV) (p : Nat) : row l = row (l.take p) ++ row (l.drop p) := by rw [← row_app, List.take_append_drop]
theorem size_p : (Tryd.prog.info? 85).map (·.size) = some 2 := by kernel_rfl
theorem cells_at {w : World} {g : Nat} {cur : Array Value} {t : TypeId} (hg : w.heap[g]? = some (.cells cur t (0, 0))) (o : Nat) (cs : List Value) (h : ∀ j u, cs[j]? = some u → cur.toList[o + j]? = some u) :
    ∀ j u, cs[j]? = some u → w.cell? ((⟨g, o, none⟩ : Addr).add j) = some u := by
  intro j u hj
  have hadd : (⟨g, o, none⟩ : Addr).add j = ⟨g, o + j, none⟩ := by unfold Addr.add; split <;> simp_all
  rw [hadd, cell_of hg]
  have := h j u hj
  simpa using this
set_option maxHeartbeats 4000000 in
set_option maxRecDepth 100000 in
theorem ins_shift (B : Nat) (l : List KV) (p g cap : Nat) (a : KV) (vb : Nat) (w : World) (hO : Own w B (.slice (some ⟨g, 0, none⟩) l.length cap) l) (hp : p < l.length) (hl : l.length ≤ 1000000) (hvb : w.heap[vb]? = some (.cells (pc a) 85 (0, 0))) (hne : vb ≠ g) (hroom : l.length + 1 ≤ cap) :
    Calls Tryd.prog 47 #[.slice (some ⟨g, 0, none⟩) l.length cap, .int .i64 (p : Int), .slice (some ⟨vb, 0, none⟩) 1 1] w fun e w' => IP w B (.slice (some ⟨g, 0, none⟩) l.length cap) (l.take p ++ a :: l.drop p) e w' := by
  rcases hO.2 with ⟨h0, _⟩ | ⟨g', cap', cur, h0, hBg, hg, hnc, hcm, hcs, htk⟩
  · cases h0
  cases h0
  have hcm' : cap ≤ 9223372036854775807 := by unfold maxLen at hcm; omega
  have hr1 : (row (l.take p)).length = p * 2 := by rw [row_len, List.length_take, Nat.min_eq_left (by omega)]
  have hr2 : (row (l.drop p)).length = (l.length - p) * 2 := by rw [row_len, List.length_drop]
  obtain ⟨Z, hZ⟩ : ∃ Z, cur.toList = row (l.take p) ++ row (l.drop p) ++ Z := ⟨cur.toList.drop (l.length * 2), by rw [← row_cut, ← htk, List.take_append_drop]⟩
  have hZl : (l.length + Z.length / 2) * 2 ≤ cap * 2 ∧ 2 ≤ Z.length := by
    have h1 : cur.toList.length = cap * 2 := by simpa using hcs
    rw [hZ, List.length_append, List.length_append, hr1, hr2] at h1
    omega
  obtain ⟨W1, hW1⟩ : ∃ W1, W1 = w.drew.setRow g (cur.toList.take ((p + 1) * 2) ++ row (l.drop p) ++ cur.toList.drop ((p + 1) * 2 + (row (l.drop p)).length)).toArray := ⟨_, rfl⟩
  have hcp1 : ∀ ty dc sc, (Builtin.copy_ #[76, 76] ty #[.slice (some ⟨g, (p + 1) * 2, none⟩) (l.length - p) dc, .slice (some ⟨g, p * 2, none⟩) (l.length + 1 - p) sc]).run Tryd.prog w.drew = .ok (goInt (Nat.min (l.length + 1 - p) (l.length - p))) W1 := fun ty dc sc => by
    rw [hW1]
    refine Cp.run_copy_sz w.drew _ _ ty 85 g _ _ dc ⟨g, p * 2, none⟩ _ sc cur 85 (row (l.drop p)) 2 Tryd.underlying76 size_p hg (by rw [hr2]; simp only [Nat.min_def]; split <;> omega) ?_ ?_ (row_one _)
    · refine cells_at (w := w.drew) hg (p * 2) _ fun j u hj => ?_
      rw [hZ, List.getElem?_append_left (by have := (List.getElem?_eq_some_iff.1 hj).1; rw [List.length_append]; omega), List.getElem?_append_right (by omega), hr1, show p * 2 + j - p * 2 = j by omega]
      exact hj
    · rw [hr2, hcs]; omega
  have hg1 : W1.heap[g]? = some (.cells (cur.toList.take ((p + 1) * 2) ++ row (l.drop p) ++ cur.toList.drop ((p + 1) * 2 + (row (l.drop p)).length)).toArray 85 (0, 0)) := by rw [hW1]; exact setRow_heap _ _ _ _ _ _ hg
  have hvb1 : W1.heap[vb]? = some (.cells (pc a) 85 (0, 0)) := by rw [hW1, setRow_other _ _ _ _ hne]; exact hvb
  obtain ⟨c1, hc1⟩ : ∃ c1, c1 = cur.toList.take ((p + 1) * 2) ++ row (l.drop p) ++ cur.toList.drop ((p + 1) * 2 + (row (l.drop p)).length) := ⟨_, rfl⟩
  rw [← hc1] at hg1
  have hsh := Cp.shift2 (row (l.take p)) (row (l.drop p)) Z [ek a.1, ev a.2] hZl.2
  rw [← hZ, hr1, show p * 2 + [ek a.1, ev a.2].length = (p + 1) * 2 by simp; omega, ← hc1] at hsh
  have hc1l : c1.length = cap * 2 := by
    rw [hc1]
    simp only [List.length_append, List.length_take, List.length_drop, hr2, Array.length_toList, hcs]
    omega
  obtain ⟨c2, hc2⟩ : ∃ c2, c2 = c1.take (p * 2) ++ [ek a.1, ev a.2] ++ c1.drop (p * 2 + [ek a.1, ev a.2].length) := ⟨_, rfl⟩
  obtain ⟨W2, hW2⟩ : ∃ W2, W2 = W1.setRow g c2.toArray := ⟨_, rfl⟩
  have hcp2 : ∀ (W : World), W = W1 → ∀ ty dc, (Builtin.copy_ #[76, 76] ty #[.slice (some ⟨g, p * 2, none⟩) (l.length + 1 - p) dc, .slice (some ⟨vb, 0, none⟩) 1 1]).run Tryd.prog W = .ok (goInt (Nat.min 1 (l.length + 1 - p))) W2 := fun W hW ty dc => by
    subst hW
    rw [hW2, hc2]
    have := Cp.run_copy_sz W 76 76 ty 85 g (p * 2) (l.length + 1 - p) dc ⟨vb, 0, none⟩ 1 1 c1.toArray 85 [ek a.1, ev a.2] 2 Tryd.underlying76 size_p hg1 (by simp only [Nat.min_def, List.length_cons, List.length_nil]; split <;> omega) (src_of hvb1) (by simp only [List.size_toArray, hc1l, List.length_cons, List.length_nil]; omega) (one_of a)
    simpa using this
  have hown2 : Own W2 B (.slice (some ⟨g, 0, none⟩) (l.length + 1) cap) (l.take p ++ a :: l.drop p) := by
    refine ⟨by rw [row_len], .inr ⟨g, cap, c2.toArray, ?_, hBg, ?_, ?_, hcm, ?_, ?_⟩⟩
    · rw [List.length_append, List.length_cons, List.length_take, List.length_drop, show min p l.length + (l.length - p + 1) = l.length + 1 by omega]
    · rw [hW2]; exact setRow_heap _ _ _ _ _ _ hg1
    · rw [List.length_append, List.length_cons, List.length_take, List.length_drop]; omega
    · simp only [List.size_toArray, hc2, List.length_append, List.length_take, List.length_drop, List.length_cons, List.length_nil, hc1l]; omega
    · have e : (l.take p ++ a :: l.drop p).length * 2 = (row (l.take p) ++ [ek a.1, ev a.2] ++ row (l.drop p)).length := by
        simp only [List.length_append, List.length_cons, List.length_nil, List.length_take, List.length_drop, hr1, hr2]; omega
      have e2 : p * 2 + [ek a.1, ev a.2].length = (p + 1) * 2 := by simp; omega
      show c2.take _ = _
      rw [hc2, e2, hsh, e, List.take_left, row_app]
      show row (l.take p) ++ [ek a.1, ev a.2] ++ row (l.drop p) = row (l.take p) ++ ([ek a.1, ev a.2] ++ row (l.drop p))
      rw [List.append_assoc]
  have hgr2 : w.grownBy W2 (some g) := by
    have h1 : w.grownBy W1 (some g) := by rw [hW1]; exact ⟨rfl, rfl, rfl, by simp, fun k _ hk => (setRow_other _ g k _ (fun e => hk (by rw [e])))⟩
    have h2 : W1.grownBy W2 (some g) := by rw [hW2]; exact ⟨rfl, rfl, rfl, by simp, fun k _ hk => setRow_other _ g k _ (fun e => hk (by rw [e]))⟩
    exact Cp.grown_trans h1 h2
  have HP := Lib.hid (show IP w B (.slice (some ⟨g, 0, none⟩) l.length cap) (l.take p ++ a :: l.drop p) (.returned (.slice (some ⟨g, 0, none⟩) (l.length + 1) cap)) W2 from ⟨_, rfl, hown2, hgr2⟩)
  have hov : ∀ lb cb, (callFunc 63 #[.slice (some ⟨vb, 0, none⟩) 1 1, .slice (some ⟨g, (p + 1) * 2, none⟩) lb cb]).run Tryd.prog w = .ok (.value (.bool false)) w := fun lb cb => by
    rw [run_callFunc_extern Tryd.func63 (by kernel_rfl) (by kernel_rfl) (by kernel_rfl) (e := Extern.SlicesOverlaps.overlaps #[76, 76] #[4]) (by kernel_rfl),
      Lib.run_overlaps_apart w 76 4 85 Tryd.underlying76 2 (by intro w; obtain ⟨i0, hi0, _, hz1, _⟩ := info_parts info_p; simp [sizeOf, typeInfo, hi0, hz1]) ⟨vb, 0, none⟩ ⟨g, (p + 1) * 2, none⟩ 1 1 lb cb hne 85 85 2 cur.size (by simp [World.shape?, hvb]) (by simp [World.shape?, hg]) (by omega) (by simp [World.frozen?, hvb]) (by simp [World.frozen?, hvb])]
    rfl
  have hz2 : ¬ ((p : Int) = (l.length : Int)) := by omega
  have hz3 : ((p : Int) == (l.length : Int)) = false := by rw [beq_eq_false_iff_ne]; omega
  have w1 : IntKind.i64.wrap ((p : Int) + 1) = (p : Int) + 1 := IntWalk.i64_in _ (by omega)
  have w2 : IntKind.i64.wrap ((l.length : Int) + 1) = (l.length : Int) + 1 := IntWalk.i64_in _ (by omega)
  have b1 : (0 : Int) ≤ (p : Int) + 1 := by omega
  have b2 : (0 : Int) ≤ (l.length : Int) + 1 := by omega
  have t1 : ((p : Int) + 1).toNat = p + 1 := by omega
  have t2 : ((l.length : Int) + 1).toNat = l.length + 1 := by omega
  have b3 : ¬ (cap = p + 1) := by omega
  have b4 : ¬ (cap = p) := by omega
  have b5 : (p : Int) + 1 ≤ (l.length : Int) + 1 := by omega
  have b6 : (l.length : Int) + 1 ≤ cap := by omega
  have b7 : ¬ (cap : Int) < (l.length : Int) + 1 := by omega
  have b8 : (p : Int) ≤ (l.length : Int) + 1 := by omega
  have b9 : p ≤ l.length := by omega
  clear hO hg hnc hcm hcs htk hZ hZl hr1 hr2 hW1 hW2 hc1 hc2 hc1l hsh hg1 hvb1 hown2 hgr2 hvb
  go_enter Tryd.func47, Tryd.ntmps47
  go_wp2_with (simp only [hov])
  go_region_law (refine Cp.step_run rfl _ _ 76 76 rfl (.slice (some ⟨g, (p + 1) * 2, none⟩) (l.length - p) (cap - (p + 1))) (.slice (some ⟨g, p * 2, none⟩) (l.length + 1 - p) (cap - p)) (by simp [Act.eval, Act.put]) (by simp [Act.eval, Act.put]) (hcp1 _ _ _) ?_)
  go_wp2_with (at_builtin; refine Cp.list_run _ rfl _ _ 76 76 rfl _ _ rfl rfl (hcp2 _ rfl _ _) ?_)
  go_ret
  exact HP.out
theorem zero_len (k : Nat) : (Builtin.zeroCells (Value.cells (.agg #[.string ⟨#[]⟩, .int .i64 0])) k).toList.length = k * 2 := by
  simp [Builtin.zeroCells, Value.cells]
set_option maxHeartbeats 4000000 in
set_option maxRecDepth 100000 in
theorem ins_grow (B : Nat) (l : List KV) (p g : Nat) (a : KV) (vb : Nat) (w : World) (hO : Own w B (.slice (some ⟨g, 0, none⟩) l.length l.length) l) (hp : p < l.length) (hl : l.length ≤ 1000000) (hB : B ≤ w.heap.size) (hvb : w.heap[vb]? = some (.cells (pc a) 85 (0, 0))) :
    Calls Tryd.prog 47 #[.slice (some ⟨g, 0, none⟩) l.length l.length, .int .i64 (p : Int), .slice (some ⟨vb, 0, none⟩) 1 1] w fun e w' => IP w B (.slice (some ⟨g, 0, none⟩) l.length l.length) (l.take p ++ a :: l.drop p) e w' := by
  obtain ⟨i0, hi0, hz0, hz1, hz2⟩ := info_parts info_p
  rcases hO.2 with ⟨h0, _⟩ | ⟨g', cap', cur, h0, hBg, hg, hnc, hcm, hcs, htk⟩
  · cases h0
  cases h0
  have hgw : g < w.heap.size := (Array.getElem?_eq_some_iff.1 hg).1
  have hvw : vb < w.heap.size := (Array.getElem?_eq_some_iff.1 hvb).1
  have hr1 : (row (l.take p)).length = p * 2 := by rw [row_len, List.length_take, Nat.min_eq_left (by omega)]
  have hr2 : (row (l.drop p)).length = (l.length - p) * 2 := by rw [row_len, List.length_drop]
  have hcl : cur.toList = row (l.take p) ++ row (l.drop p) := by rw [← row_cut, ← htk]; exact (List.take_of_length_le (by simp [hcs])).symm
  have hkk : (l.length : Int) + 1 - (p : Int) = ((l.length + 1 - p : Nat) : Int) := by omega
  have hik : p + (l.length + 1 - p) = l.length + 1 := by omega
  have hold : (Builtin.firstCells i0.size p (.slice (some ⟨g, 0, none⟩) p l.length)).run Tryd.prog w.drew = .ok (row (l.take p)).toArray w.drew := by
    rw [hz1]
    refine run_firstCells_some w.drew 2 p ⟨g, 0, none⟩ p l.length (row (l.take p)) hr1 ?_
    refine cells_at (w := w.drew) hg 0 _ fun j u hj => ?_
    rw [hcl, Nat.zero_add, List.getElem?_append_left (List.getElem?_eq_some_iff.1 hj).1]
    exact hj
  obtain ⟨G, hG⟩ : ∃ G, G = grownCap w (l.length + 1) l.length 85 := ⟨_, rfl⟩
  have hGn : l.length + 1 ≤ G := by rw [hG]; exact grownCap_ge w _ _ _
  have hGm : G ≤ maxLen := by rw [hG]; exact grownCap_le_maxLen w _ _ _ (by unfold maxLen; omega)
  obtain ⟨ROW, hROW⟩ : ∃ ROW : Array Value, ROW = (row (l.take p)).toArray ++ Builtin.zeroCells (Value.cells (.agg #[.string ⟨#[]⟩, .int .i64 0])) (l.length + 1 - p) ++ Builtin.zeroCells (Value.cells (.agg #[.string ⟨#[]⟩, .int .i64 0])) (G - (l.length + 1)) := ⟨_, rfl⟩
  have hrz : ∀ ty, (Builtin.append_ #[76, 3] ty #[.slice (some ⟨g, 0, none⟩) p l.length, .int .i64 ((l.length : Int) + 1 - (p : Int))]).run Tryd.prog w =
      .ok (.slice (some ⟨w.heap.size, 0, none⟩) (l.length + 1) G) (w.drew.alloc (.cells ROW 85)) := fun ty => by
    have h := Lib.run_append_grow_zeros w 76 3 ty 85 i0 _ .i64 .i64 Tryd.underlying76 Tryd.underlying3 hi0 hz0 (some ⟨g, 0, none⟩) p l.length (row (l.take p)) hold (l.length + 1 - p) (by omega) (by omega) (by omega) (by omega) (by rw [hz2]; omega) (by rw [hz2, hik]; exact growslice_fits (by omega) (by omega))
    rw [hik, ← hG, ← hROW] at h
    rw [hkk]
    exact h
  obtain ⟨Y, hY⟩ : ∃ Y, ROW.toList = row (l.take p) ++ Y ∧ Y.length = (G - p) * 2 := by
    refine ⟨(Builtin.zeroCells (Value.cells (.agg #[.string ⟨#[]⟩, .int .i64 0])) (l.length + 1 - p)).toList ++ (Builtin.zeroCells (Value.cells (.agg #[.string ⟨#[]⟩, .int .i64 0])) (G - (l.length + 1))).toList, ?_, ?_⟩
    · rw [hROW]; simp only [Array.toList_append, List.append_assoc]
    · rw [List.length_append, zero_len, zero_len]; omega
  have hRs : ROW.size = G * 2 := by
    have := congrArg List.length hY.1
    rw [List.length_append, hr1, hY.2] at this
    simp only [Array.length_toList] at this
    omega
  obtain ⟨c1, hc1⟩ : ∃ c1, c1 = ROW.toList.take (p * 2) ++ [ek a.1, ev a.2] ++ ROW.toList.drop (p * 2 + [ek a.1, ev a.2].length) := ⟨_, rfl⟩
  have hc1l : c1.length = G * 2 := by
    rw [hc1]
    simp only [List.length_append, List.length_take, List.length_drop, List.length_cons, List.length_nil, Array.length_toList, hRs]
    omega
  obtain ⟨c2, hc2⟩ : ∃ c2, c2 = c1.take ((p + 1) * 2) ++ row (l.drop p) ++ c1.drop ((p + 1) * 2 + (row (l.drop p)).length) := ⟨_, rfl⟩
  have hc2l : c2.length = G * 2 := by
    rw [hc2]
    simp only [List.length_append, List.length_take, List.length_drop, hr2, hc1l]
    omega
  have hfill := Cp.fill2 (row (l.take p)) Y (row (l.drop p)) [ek a.1, ev a.2]
  have e2 : p * 2 + [ek a.1, ev a.2].length = (p + 1) * 2 := by simp; omega
  rw [← hY.1, hr1, ← hc1, e2, ← hc2] at hfill
  have hcp1 : ∀ (W : World), W.heap = (w.alloc (.cells ROW 85)).heap → ∀ ty dc, (Builtin.copy_ #[76, 76] ty #[.slice (some ⟨w.heap.size, p * 2, none⟩) (l.length + 1 - p) dc, .slice (some ⟨vb, 0, none⟩) 1 1]).run Tryd.prog W = .ok (goInt (Nat.min 1 (l.length + 1 - p))) (W.setRow w.heap.size c1.toArray) := fun W hW ty dc => by
    rw [hc1]
    refine Cp.run_copy_sz W 76 76 ty 85 w.heap.size (p * 2) (l.length + 1 - p) dc ⟨vb, 0, none⟩ 1 1 ROW 85 [ek a.1, ev a.2] 2 Tryd.underlying76 size_p (by rw [hW]; exact heap_alloc_new _ _) (by simp only [Nat.min_def, List.length_cons, List.length_nil]; split <;> omega) (src_of (by rw [hW, heap_alloc_old _ _ hvw]; exact hvb)) (by simp only [hRs, List.length_cons, List.length_nil]; omega) (one_of a)
  have hcp2 : ∀ (W : World), W.heap = ((w.alloc (.cells ROW 85)).setRow w.heap.size c1.toArray).heap → ∀ ty dc sc, (Builtin.copy_ #[76, 76] ty #[.slice (some ⟨w.heap.size, (p + 1) * 2, none⟩) (l.length - p) dc, .slice (some ⟨g, p * 2, none⟩) (l.length - p) sc]).run Tryd.prog W = .ok (goInt (Nat.min (l.length - p) (l.length - p))) (W.setRow w.heap.size c2.toArray) := fun W hW ty dc sc => by
    rw [hc2]
    refine Cp.run_copy_sz W 76 76 ty 85 w.heap.size _ _ dc ⟨g, p * 2, none⟩ _ sc c1.toArray 85 (row (l.drop p)) 2 Tryd.underlying76 size_p (by rw [hW]; exact setRow_heap _ _ _ _ _ _ (heap_alloc_new _ _)) (by rw [hr2]; simp only [Nat.min_def]; split <;> omega) ?_ (by rw [hr2, List.size_toArray, hc1l]; omega) (row_one _)
    refine cells_at (w := W) (by rw [hW, setRow_other _ _ _ _ (by omega), heap_alloc_old _ _ hgw]; exact hg) (p * 2) _ fun j u hj => ?_
    rw [hcl, List.getElem?_append_right (by omega), hr1, show p * 2 + j - p * 2 = j by omega]
    exact hj
  have HP := Lib.hid (show ∀ (W : World), W.os = w.os → W.tape = w.tape → W.output = w.output → W.heap = (((w.alloc (.cells ROW 85)).setRow w.heap.size c1.toArray).setRow w.heap.size c2.toArray).heap →
      IP w B (.slice (some ⟨g, 0, none⟩) l.length l.length) (l.take p ++ a :: l.drop p) (.returned (.slice (some ⟨w.heap.size, 0, none⟩) (l.length + 1) G)) W from fun W h1 h2 h3 h4 => by
    refine ⟨_, rfl, ⟨by rw [row_len], .inr ⟨w.heap.size, G, c2.toArray, ?_, hB, ?_, ?_, hGm, ?_, ?_⟩⟩, ⟨h1, h2, h3, ?_, ?_⟩⟩
    · rw [List.length_append, List.length_cons, List.length_take, List.length_drop, show min p l.length + (l.length - p + 1) = l.length + 1 by omega]
    · rw [h4]; exact setRow_heap _ _ _ _ _ _ (setRow_heap _ _ _ _ _ _ (heap_alloc_new _ _))
    · rw [List.length_append, List.length_cons, List.length_take, List.length_drop]; omega
    · rw [List.size_toArray, hc2l]
    · have e : (l.take p ++ a :: l.drop p).length * 2 = (row (l.take p) ++ [ek a.1, ev a.2] ++ row (l.drop p)).length := by
        simp only [List.length_append, List.length_cons, List.length_nil, List.length_take, List.length_drop, hr1, hr2]; omega
      show c2.take _ = _
      rw [hfill, e, List.take_left, row_app]
      show row (l.take p) ++ [ek a.1, ev a.2] ++ row (l.drop p) = row (l.take p) ++ ([ek a.1, ev a.2] ++ row (l.drop p))
      rw [List.append_assoc]
    · rw [h4, setRow_size, setRow_size, World.size_alloc]; omega
    · intro k hk _
      rw [h4, setRow_other _ _ _ _ (by omega), setRow_other _ _ _ _ (by omega), heap_alloc_old _ _ hk])
  have hG63 : G ≤ 9223372036854775807 := by unfold maxLen at hGm; omega
  have hz2 : ¬ ((p : Int) = (l.length : Int)) := by omega
  have hz3 : ((p : Int) == (l.length : Int)) = false := by rw [beq_eq_false_iff_ne]; omega
  have w1 : IntKind.i64.wrap ((p : Int) + 1) = (p : Int) + 1 := IntWalk.i64_in _ (by omega)
  have w2 : IntKind.i64.wrap ((l.length : Int) + 1) = (l.length : Int) + 1 := IntWalk.i64_in _ (by omega)
  have w3 : IntKind.i64.wrap ((l.length : Int) + 1 - (p : Int)) = (l.length : Int) + 1 - (p : Int) := IntWalk.i64_in _ (by omega)
  have b1 : (0 : Int) ≤ (p : Int) + 1 := by omega
  have t1 : ((p : Int) + 1).toNat = p + 1 := by omega
  have b3 : ¬ (G = p + 1) := by omega
  have b4 : ¬ (G = p) := by omega
  have b5 : (p : Int) + 1 ≤ (l.length : Int) + 1 := by omega
  have b6 : ¬ (l.length = p) := by omega
  have b8 : (p : Int) ≤ (l.length : Int) + 1 := by omega
  have b9 : p ≤ l.length := by omega
  clear hO hg hnc hcm hcs htk hcl hr1 hr2 hG hROW hY hRs hc1 hc2 hc1l hc2l hfill hold hkk hik e2 hvb hGm
  go_enter Tryd.func47, Tryd.ntmps47
  have hcx := fun ty dc => hcp1 (w.alloc (.cells ROW 85)).drew rfl ty dc
  have hcy := fun ty dc sc => hcp2 ((w.alloc (.cells ROW 85)).drew.setRow w.heap.size c1.toArray).drew rfl ty dc sc
  go_wp2_with (first
    | (at_builtin; refine Cp.app_run _ rfl _ _ 76 3 rfl _ _ rfl rfl (hrz _) ?_)
    | (simp only [hcx]))
  go_region_law (refine Cp.step_run rfl _ _ 76 76 rfl (.slice (some ⟨w.heap.size, (p + 1) * 2, none⟩) (l.length - p) (G - (p + 1))) (.slice (some ⟨g, p * 2, none⟩) (l.length - p) (l.length - p)) (by simp [Act.eval, Act.put]) (by simp [Act.eval, Act.put]) (hcy _ _ _) ?_)
  go_wp2_with fail
  go_ret
  exact HP.out _ rfl rfl rfl rfl
end ShS
end Go.Proofs.YtipcockcndnipaaDoor
