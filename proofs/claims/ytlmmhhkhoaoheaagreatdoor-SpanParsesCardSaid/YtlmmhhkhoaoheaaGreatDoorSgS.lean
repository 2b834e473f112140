/-
  Ranges of a call's own: a copy, and the copy sorted.
-/
import Derived.Test.YtlmmhhkhoaoheaaGreatDoorShelfQ
import Derived.Test.YtlmmhhkhoaoheaaGreatDoorSgA
import Derived.Laws.AppendOwn
import Derived.Laws.OwnMore
import Derived.Lib.OwnBridge
import Derived.Lib.AppendIntMem
import Derived.Shelf.SlSortCmp.WholeK
namespace Go.Proofs.YtlmmhhkhoaoheaaGreatDoor
open Go.RowKit Go.Shelf Go.Lib Go.Sort
namespace Sg

theorem info_gap : (Tryz.prog.info? 42).map (fun i => (i.zero, i.size, i.bytes)) = some (some (.agg #[.int .i64 0, .int .i64 0]), 2, 16) := by kernel_rfl
def row (r : List G) : List Value := r.flatMap fun g => [.int .i64 g.1, .int .i64 g.2]
theorem row_len : ∀ l : List G, (row l).length = l.length * 2
  | [] => rfl
  | a :: l => by
    have := row_len l
    simp only [row, List.flatMap_cons, List.length_append, List.length_cons, List.length_nil] at *
    omega
theorem row_app (a b : List G) : row (a ++ b) = row a ++ row b := List.flatMap_append
theorem row_at : ∀ (l : List G) (k : Nat) (a : G), l[k]? = some a → (row l)[k * 2]? = some (.int .i64 a.1) ∧ (row l)[k * 2 + 1]? = some (.int .i64 a.2)
  | [], k, a, h => by simp at h
  | b :: l, 0, a, h => by simp at h; subst h; exact ⟨rfl, rfl⟩
  | b :: l, k + 1, a, h => by
    have ih := row_at l k a (by simpa using h)
    rw [show (k + 1) * 2 = k * 2 + 2 by omega]
    exact ih
theorem row_one (l : List G) : ∀ v ∈ row l, v.oneCell' = true := by
  intro v hv
  obtain ⟨p, _, hp⟩ := List.mem_flatMap.1 hv
  simp at hp
  rcases hp with rfl | rfl <;> rfl
/-- a slice of gaps that is its holder's own -/
def GO (W : World) (B : Nat) (v : Value) (l : List G) : Prop := W.ownsRow B 42 2 v l.length (row l)
theorem go_nil (W : World) (B : Nat) : GO W B (.slice none 0 0) [] := World.ownsRow_nil W B _ 2
theorem GO.form {W : World} {B : Nat} {v : Value} {l : List G} (h : GO W B v l) : (v = .slice none 0 0 ∧ l = []) ∨ ∃ g cap, v = .slice (some ⟨g, 0, none⟩) l.length cap ∧ B ≤ g ∧ g < W.heap.size ∧ l.length ≤ maxLen := by
  rcases h.2 with ⟨rfl, hn⟩ | ⟨g, cap, cur, rfl, hb, hg, hn, hm, _⟩
  · exact .inl ⟨rfl, List.length_eq_zero_iff.1 hn⟩
  · exact .inr ⟨g, cap, rfl, hb, (Array.getElem?_eq_some_iff.1 hg).1, by omega⟩
theorem GO.at {W : World} {B : Nat} {sl : Option Addr} {n cap : Nat} {l : List G} (h : GO W B (.slice sl n cap) l) {k : Nat} {a : G} (ha : l[k]? = some a) :
    ∃ g, sl = some ⟨g, 0, none⟩ ∧ B ≤ g ∧ g < W.heap.size ∧ Gc W g (k * 2) a := by
  have hk := (List.getElem?_eq_some_iff.1 ha).1
  have h0 := h
  rcases h.2 with ⟨_, hn⟩ | ⟨g, cap', cur, e, hb, hg, _⟩
  · omega
  · cases e
    have hr := row_at l k a ha
    have hadd : ∀ j, (⟨g, 0, none⟩ : Addr).add j = ⟨g, j, none⟩ := fun j => by unfold Addr.add; split <;> simp_all
    have h1 := World.ownsRow.cells h0 (g := g) rfl (k * 2) _ hr.1
    have h2 := World.ownsRow.cells h0 (g := g) rfl (k * 2 + 1) _ hr.2
    rw [hadd] at h1 h2
    exact ⟨g, rfl, hb, (Array.getElem?_eq_some_iff.1 hg).1, h1, h2⟩
theorem GO.gs {W : World} {B : Nat} {v : Value} {l : List G} (h : GO W B v l) (hb : ∀ g ∈ l, N64 g.1 ∧ N64 g.2) : GS W v l := by
  rcases h.form with ⟨rfl, rfl⟩ | ⟨g, cap, rfl, h1, h2, h3⟩
  · exact gs_nil W
  · refine ⟨by simp only [maxLen] at h3; omega, hb, _, _, rfl, fun e => (by cases e), fun k a ha => ?_⟩
    obtain ⟨g', e, h4, h5, h6⟩ := h.at ha
    cases e
    exact ⟨g, 0, rfl, h5, by rw [Nat.zero_add]; exact h6⟩
theorem GO.below {W W' : World} {B : Nat} {v : Value} {l : List G} (h : GO W B v l) (hb : Below W.heap.size W W') : GO W' B v l :=
  World.ownsRow.kept h (row := none) ⟨hb.os, hb.tape, hb.output, hb.size, fun k hk _ => hb.block k hk⟩ (by cases v.ownBlock <;> simp)
theorem GO.le {W : World} {B B' : Nat} {v : Value} {l : List G} (h : GO W B v l) (hb : B' ≤ B) : GO W B' v l := ⟨h.1, h.2.imp id fun ⟨g, cap, cur, a, b, c⟩ => ⟨g, cap, cur, a, Nat.le_trans hb b, c⟩⟩

theorem sizeGap : ∀ w, (Go.sizeOf 42).run Tryz.prog w = .ok 2 w := Tryz.sizeOf42
theorem clone_any (l : List G) (B : Nat) (v : Value) (W : World) (hO : GO W B v l) (hl : l.length ≤ 1000000000) :
    Calls Tryz.prog 46 #[v] W fun e w' => ∃ v', e = .returned v' ∧ GO w' W.heap.size v' l ∧ Below W.heap.size W w' := by
  rcases hO.form with ⟨rfl, rfl⟩ | ⟨g, cap, rfl, h1, h2, h3⟩
  · refine (AnyE.slices_Clone_nil Tryz.cloneQ 0 0 W).mono ?_
    rintro e w' ⟨rfl, rfl⟩
    exact ⟨_, rfl, go_nil _ _, Below.refl _ _⟩
  · obtain ⟨i0, hi0, hz⟩ := Option.map_eq_some_iff.1 info_gap
    obtain ⟨z1, z2⟩ := Prod.mk.inj hz
    obtain ⟨z2, z3⟩ := Prod.mk.inj z2
    have hadd : ∀ j, (⟨g, 0, none⟩ : Addr).add j = ⟨g, j, none⟩ := fun j => by unfold Addr.add; split <;> simp_all
    refine (AnyE.slices_Clone Tryz.cloneQ i0 _ 2 16 hi0 z1 z2 z3 rfl (by decide) sizeGap g 0 l.length cap (row l) W (row_len l) h3 (by omega) (fun j u hj => ?_) (row_one l)).mono ?_
    · have := World.ownsRow.cells hO (g := g) rfl j u hj
      rw [hadd] at this
      rw [Nat.zero_add]
      exact this
    · rintro e w' ⟨v', rfl, h4, -, h5⟩
      exact ⟨v', rfl, h4, h5⟩

/-- a gap within the law's bounds -/
def Bd (g : G) : Prop := (0 ≤ g.1 ∧ g.1 ≤ 1000000000) ∧ 0 ≤ g.2 ∧ g.2 ≤ 1000000000
theorem Bd.n64 {g : G} (h : Bd g) : N64 g.1 ∧ N64 g.2 := by
  obtain ⟨⟨a, b⟩, c, d⟩ := h
  exact ⟨⟨by omega, by omega⟩, by omega, by omega⟩
abbrev GB := { g : G // Bd g }
instance : Inhabited GB := ⟨⟨(0, 0), ⟨by omega, by omega⟩, by omega, by omega⟩⟩
def encB (x : GB) : List Value := [.int .i64 x.1.1, .int .i64 x.1.2]
def cfB (x y : GB) : Int := x.1.1 - y.1.1
theorem lt_cfB (x y : GB) : ltOf cfB x y = decide (x.1.1 < y.1.1) := by
  unfold ltOf cfB
  exact decide_eq_decide.2 ⟨fun h => by omega, fun h => by omega⟩
theorem swoB : SWO (ltOf cfB) where
  irrefl x := by rw [lt_cfB]; simp
  trans x y z h1 h2 := by rw [lt_cfB] at *; simp at *; omega
  ntrans x y z h1 h2 := by rw [lt_cfB] at *; simp at *; omega
set_option maxHeartbeats 1000000 in
theorem cmp_any (x y : G) (hx : Bd x) (hy : Bd y) (W : World) : Calls Tryz.prog 48 #[.agg #[.int .i64 x.1, .int .i64 x.2], .agg #[.int .i64 y.1, .int .i64 y.2]] W fun e w' => e = .returned (.int .i64 (x.1 - y.1)) ∧ ∃ q os', w' = grow (W.drewN q) os' := by
  have hw : wrap64 (x.1 - y.1) = x.1 - y.1 := by
    obtain ⟨⟨a, b⟩, -⟩ := hx
    obtain ⟨⟨c, d⟩, -⟩ := hy
    unfold wrap64
    omega
  clear hx hy
  go_enter Tryz.func48, Tryz.ntmps48
  go_wp2_with fail
  go_ret
  exact ⟨Sx.ret_int hw, 0, _, by rw [alloc_eq_grow, alloc_eq_grow, grow_grow]; rfl⟩
theorem putRow_own {w : World} {base : Nat} {e : TypeId} {s g n cap q : Nat} {xs : List Value} (h : w.ownsRow base e s (.slice (some ⟨g, 0, none⟩) n cap) n xs) (F : Array Value) (hF : F.size = n * s) :
    (putRow id (Sort.ahead w q) g 0 F).ownsRow base e s (.slice (some ⟨g, 0, none⟩) n cap) n F.toList := by
  rcases h.2 with ⟨e0, _⟩ | ⟨g', cap', cur, e0, hb, hg, hn, hm, hs, ht⟩
  · cases e0
  · injection e0 with e1 _ e3
    injection e1 with e1
    injection e1 with e1
    subst e1; subst e3
    have hle : n * s ≤ cap * s := Nat.mul_le_mul_right s hn
    refine ⟨by simpa using hF, .inr ⟨g, cap, putCells id 0 F cur, rfl, hb, ?_, hn, hm, by simpa [putCells] using hs, ?_⟩⟩
    · simp [putRow, mapBlock, Sort.ahead, Array.getElem?_modify, hg, onCells]
    · apply List.ext_getElem?
      intro j
      rw [List.getElem?_take, Array.getElem?_toList, Array.getElem?_toList]
      by_cases hj : j < n * s
      · have hjc : j < cur.size := by omega
        simp only [if_pos hj, putCells, Array.getElem?_mapIdx, Array.getElem?_eq_getElem hjc, Option.map_some]
        rw [if_pos (by omega)]
        have hjF : j < F.size := by omega
        simp [getElem!_pos, hjF]
      · rw [if_neg hj, Array.getElem?_eq_none (by omega)]
theorem flat_row (d : Array GB) : (flatK encB 2 d).toList = row (d.toList.map (·.1)) := by
  apply List.ext_getElem?
  intro j
  by_cases hj : j < d.size * 2
  · have h1 : (flatK encB 2 d)[j]! = (encB d[j / 2]!)[j % 2]! := get_flatK encB 2 d j hj
    have h2 : j < (flatK encB 2 d).size := by rw [size_flatK]; exact hj
    rw [Array.getElem?_toList, Array.getElem?_eq_getElem h2, ← getElem!_pos (flatK encB 2 d) j h2, h1]
    have hk : j / 2 < d.size := by omega
    have ha : (d.toList.map (·.1))[j / 2]? = some (d[j / 2]!).1 := by
      rw [List.getElem?_map, Array.getElem?_toList, Array.getElem?_eq_getElem hk, getElem!_pos d _ hk]
      rfl
    have hr := row_at _ _ _ ha
    rcases Nat.mod_two_eq_zero_or_one j with hm | hm
    · rw [show j = j / 2 * 2 by omega, hr.1, show j / 2 * 2 % 2 = 0 by omega, show j / 2 * 2 / 2 = j / 2 by omega]
      rfl
    · rw [show j = j / 2 * 2 + 1 by omega, hr.2, show (j / 2 * 2 + 1) % 2 = 1 by omega, show (j / 2 * 2 + 1) / 2 = j / 2 by omega]
      rfl
  · rw [List.getElem?_eq_none (by rw [Array.length_toList, size_flatK]; omega), List.getElem?_eq_none (by rw [row_len]; simp; omega)]
theorem isort_none (fv : Value) (w : World) : Calls Tryz.prog 84 #[.slice none 0 0, .int .i64 0, .int .i64 0, fv] w fun e w' => e = .returned (.tuple #[]) ∧ w' = w := by
  go_enter Tryz.func84, Tryz.ntmps84
  go_wp2_with fail
  refine wp_loop_rounds 1 ?_
  rw [rounds_succ]
  go_wp2_with fail
  go_end0
  exact ⟨rfl, rfl⟩
set_option maxHeartbeats 1000000 in
theorem pdq_none (lim : Int) (fv : Value) (w : World) : Calls Tryz.prog 69 #[.slice none 0 0, .int .i64 0, .int .i64 0, .int .i64 lim, fv] w fun e w' => e = .returned (.tuple #[]) ∧ w' = w := by
  have hi := fun W => isort_none fv W
  go_enter Tryz.func69, Tryz.ntmps69
  go_wp2_with fail
  refine wp_loop_rounds 1 ?_
  rw [rounds_succ]
  go_wp2_with (go_at_call 84; refine (hi _).mono ?_; rintro e w' ⟨rfl, rfl⟩)
  (try simp only [Exit.inBlock, Exit.then]); refine bodyPost_ret (results_none rfl _ _ _) rfl ?_
  exact ⟨rfl, rfl⟩
theorem len_none (w : World) : Calls Tryz.prog 70 #[.int .u64 0] w fun e w' => (∃ l : Int, e = .returned (.int .i64 l)) ∧ w' = w :=
  (Any.bits_Len (SlLaysF0.n15.bits (P := Tryz.prog) (ρ := Tryz.sortQ_ren) { Tryz.sortQ with }) 0 w (by omega) (by omega)).mono fun _ _ ⟨he, hw⟩ => ⟨⟨_, he⟩, hw⟩
theorem sort_none (fv : Value) (w : World) : Calls Tryz.prog 47 #[.slice none 0 0, fv] w fun e w' => e = .returned (.tuple #[]) ∧ w' = w := by
  have hp := fun lim W => pdq_none lim fv W
  have hl := fun W => len_none W
  go_enter Tryz.func47, Tryz.ntmps47
  go_wp2_with (first | (go_at_call 70; refine (hl _).mono ?_; rintro e w' ⟨⟨l, rfl⟩, rfl⟩) | (go_at_call 69; refine (hp _ _).mono ?_; rintro e w' ⟨rfl, rfl⟩))
  go_end0
  exact ⟨rfl, rfl⟩
theorem sort_any (l : List G) (hbd : ∀ g ∈ l, Bd g) (B : Nat) (v : Value) (W : World) (hO : GO W B v l) (hl : l.length ≤ 1000000000) :
    Calls Tryz.prog 47 #[v, .func (.func 48) #[] #[]] W fun e w' => e = .returned (.tuple #[]) ∧ ∃ l', l'.Perm l ∧ l'.Pairwise (fun a b => a.1 ≤ b.1) ∧ GO w' B v l' ∧ Below B W w' := by
  rcases hO.form with ⟨rfl, rfl⟩ | ⟨g, cap, rfl, h1, h2, h3⟩
  · refine (sort_none _ W).mono ?_
    rintro e w' ⟨rfl, rfl⟩
    exact ⟨rfl, [], .nil, .nil, go_nil _ _, Below.refl _ _⟩
  · obtain ⟨d, hd⟩ : ∃ d : Array GB, d.toList.map (·.1) = l := ⟨(l.attachWith Bd hbd).toArray, List.attachWith_map_subtype_val hbd⟩
    subst hd
    have hsz : (d.toList.map (·.1)).length = d.size := by simp
    rw [hsz] at hO ⊢
    have eg : ∀ args w, (callFunc 48 args).run Tryz.prog w = .ok (.enter 48 args) w := enters_of Tryz.func48 (by kernel_rfl) rfl
    have hO' : W.ownsRow B 42 2 (.slice (some ⟨g, 0, none⟩) d.size cap) d.size (row (d.toList.map (·.1))) := by
      have := hO
      unfold GO at this
      rw [hsz] at this
      exact this
    have hH : HoldsK encB 2 W g 0 d := by
      intro j hj
      rw [size_flatK] at hj
      refine ⟨?_, by rw [Nat.zero_add]; exact World.ownsRow.frozenAt hO' j⟩
      rw [Nat.zero_add, World.ownsRow.cellAt hO' j hj, ← flat_row, Array.getElem?_toList, getElem!_pos (flatK encB 2 d) j (by rw [size_flatK]; exact hj), Array.getElem?_eq_getElem]
      rfl
    refine (AnyQ.slices_SortFunc Tryz.sortQ 2 Tryz.isAgg42 sizeGap encB (fun _ => rfl) (fun x u hu => by simp [encB] at hu; rcases hu with rfl | rfl <;> rfl) cfB swoB 48 #[] g 0 cap d W eg (fun _ _ _ _ x y => cmp_any x.1 y.1 x.2 y.2 _) hH h2 (by simp only [hsz] at hl; omega)).mono ?_
    rintro e w' ⟨rfl, d', n, os, hp, hs, rfl⟩
    have hsd : d'.size = d.size := hp.1
    have hperm : d'.toList.Perm d.toList := by
      have := hp.2.2
      rw [← hsd] at this
      simpa [hsd, List.take_of_length_le] using this
    refine ⟨rfl, d'.toList.map (·.1), hperm.map _, ?_, ?_, ?_⟩
    · rw [List.pairwise_map, List.pairwise_iff_getElem]
      intro i j hi hj hij
      have h5 := hs i j (Nat.zero_le _) hij (by simpa [hsd] using hj)
      rw [lt_cfB] at h5
      simp only [Array.length_toList] at hi hj
      rw [getElem!_pos d' i hi, getElem!_pos d' j hj] at h5
      simpa using h5
    · have h6 := putRow_own (q := n) hO' (flatK encB 2 d') (by rw [size_flatK, hsd])
      rw [flat_row] at h6
      have h7 := ownsRow_grow h6 0 os
      show World.ownsRow _ _ _ _ _ _ _
      rw [show (d'.toList.map (·.1)).length = d.size by simp [hsd]]
      exact h7
    · have h8 := Lib.below_putRow (enc := id) (q := n) (d := flatK encB 2 d') (Below.refl B W) h1
      exact h8.trans (below_grow B _ (by simp [putRow, mapBlock, Sort.ahead]; omega) 0 os)
end Sg
end Go.Proofs.YtlmmhhkhoaoheaaGreatDoor
