/-
  Ranges of a call's own: a copy, and the copy sorted.
-/
import Derived.Test.YtflhmoelenmomaaGreatDoorShelfQ
import Derived.Test.YtflhmoelenmomaaGreatDoorMSgP
import Derived.Laws.AppendOwn
import Derived.Laws.OwnMore
import Derived.Lib.OwnBridge
import Derived.Lib.AppendIntMem
import Derived.Shelf.SlSortCmp.WholeK
import Derived.Test.YtflhmoelenmomaaGreatDoorMRcP
import Derived.Deep.AppendLies
import Derived.Test.YtflhmoelenmomaaGreatDoorMVersionA
import Derived.Shelf.Spec.SlicesGrow
import Derived.Maps.AppendAt
namespace Go.Proofs.YtflhmoelenmomaaGreatDoor
open Go.RowKit Go.Shelf Go.Lib Go.Sort
namespace Sg

theorem info_gap : (Tryz.prog.info? 55).map (fun i => (i.zero, i.size, i.bytes)) = some (some (.agg #[.int .i64 0, .int .i64 0]), 2, 16) := by kernel_rfl
def row (r : List G) : List Value := r.flatMap fun g => [.int .i64 g.1, .int .i64 g.2]
theorem row_len : ∀ l : List G, (row l).length = l.length * 2
  | [] => rfl
  | a :: l => by
    have := row_len l
    simp only [row, List.flatMap_cons, List.length_append, List.length_cons, List.length_nil] at *
    omega
theorem row_app (a b : List G) : row (a ++ b) = row a ++ row b := List.flatMap_append
theorem row_at : ∀ (l : List G) (k : Nat) (a : G), l[k]? = some a → (row l)[k * 2]? = some (.int .i64 a.1) ∧ (row l)[k * 2 + 1]? = some (.int .i64 a.2)
  | [], k, a, h => by simp at h
  | b :: l, 0, a, h => by simp at h; subst h; exact ⟨rfl, rfl⟩
  | b :: l, k + 1, a, h => by
    have ih := row_at l k a (by simpa using h)
    rw [show (k + 1) * 2 = k * 2 + 2 by omega]
    exact ih
theorem row_one (l : List G) : ∀ v ∈ row l, v.oneCell' = true := by
  intro v hv
  obtain ⟨p, _, hp⟩ := List.mem_flatMap.1 hv
  simp at hp
  rcases hp with rfl | rfl <;> rfl
/-- a slice of gaps that is its holder's own -/
def GO (W : World) (B : Nat) (v : Value) (l : List G) : Prop := W.ownsRow B 55 2 v l.length (row l)
theorem go_nil (W : World) (B : Nat) : GO W B (.slice none 0 0) [] := World.ownsRow_nil W B _ 2
theorem GO.form {W : World} {B : Nat} {v : Value} {l : List G} (h : GO W B v l) : (v = .slice none 0 0 ∧ l = []) ∨ ∃ g cap, v = .slice (some ⟨g, 0, none⟩) l.length cap ∧ B ≤ g ∧ g < W.heap.size ∧ l.length ≤ maxLen := by
  rcases h.2 with ⟨rfl, hn⟩ | ⟨g, cap, cur, rfl, hb, hg, hn, hm, _⟩
  · exact .inl ⟨rfl, List.length_eq_zero_iff.1 hn⟩
  · exact .inr ⟨g, cap, rfl, hb, (Array.getElem?_eq_some_iff.1 hg).1, by omega⟩
theorem GO.at {W : World} {B : Nat} {sl : Option Addr} {n cap : Nat} {l : List G} (h : GO W B (.slice sl n cap) l) {k : Nat} {a : G} (ha : l[k]? = some a) :
    ∃ g, sl = some ⟨g, 0, none⟩ ∧ B ≤ g ∧ g < W.heap.size ∧ Gc W g (k * 2) a := by
  have hk := (List.getElem?_eq_some_iff.1 ha).1
  have h0 := h
  rcases h.2 with ⟨_, hn⟩ | ⟨g, cap', cur, e, hb, hg, _⟩
  · omega
  · cases e
    have hr := row_at l k a ha
    have hadd : ∀ j, (⟨g, 0, none⟩ : Addr).add j = ⟨g, j, none⟩ := fun j => by unfold Addr.add; split <;> simp_all
    have h1 := World.ownsRow.cells h0 (g := g) rfl (k * 2) _ hr.1
    have h2 := World.ownsRow.cells h0 (g := g) rfl (k * 2 + 1) _ hr.2
    rw [hadd] at h1 h2
    exact ⟨g, rfl, hb, (Array.getElem?_eq_some_iff.1 hg).1, h1, h2⟩
theorem GO.gs {W : World} {B : Nat} {v : Value} {l : List G} (h : GO W B v l) (hb : ∀ g ∈ l, N64 g.1 ∧ N64 g.2) : GS W v l := by
  rcases h.form with ⟨rfl, rfl⟩ | ⟨g, cap, rfl, h1, h2, h3⟩
  · exact gs_nil W
  · refine ⟨by simp only [maxLen] at h3; omega, hb, _, _, rfl, fun e => (by cases e), fun k a ha => ?_⟩
    obtain ⟨g', e, h4, h5, h6⟩ := h.at ha
    cases e
    exact ⟨g, 0, rfl, h5, by rw [Nat.zero_add]; exact h6⟩
theorem GO.below {W W' : World} {B : Nat} {v : Value} {l : List G} (h : GO W B v l) (hb : Below W.heap.size W W') : GO W' B v l :=
  World.ownsRow.kept h (row := none) ⟨hb.os, hb.tape, hb.output, hb.size, fun k hk _ => hb.block k hk⟩ (by cases v.ownBlock <;> simp)
theorem GO.le {W : World} {B B' : Nat} {v : Value} {l : List G} (h : GO W B v l) (hb : B' ≤ B) : GO W B' v l := ⟨h.1, h.2.imp id fun ⟨g, cap, cur, a, b, c⟩ => ⟨g, cap, cur, a, Nat.le_trans hb b, c⟩⟩

theorem sizeGap : ∀ w, (Go.sizeOf 55).run Tryz.prog w = .ok 2 w := Tryz.sizeOf55
theorem clone_any (l : List G) (B : Nat) (v : Value) (W : World) (hO : GO W B v l) (hl : l.length ≤ 1000000000) :
    Calls Tryz.prog 75 #[v] W fun e w' => ∃ v', e = .returned v' ∧ GO w' W.heap.size v' l ∧ Below W.heap.size W w' := by
  rcases hO.form with ⟨rfl, rfl⟩ | ⟨g, cap, rfl, h1, h2, h3⟩
  · refine (AnyE.slices_Clone_nil Tryz.cloneQ 0 0 W).mono ?_
    rintro e w' ⟨rfl, rfl⟩
    exact ⟨_, rfl, go_nil _ _, Below.refl _ _⟩
  · obtain ⟨i0, hi0, hz⟩ := Option.map_eq_some_iff.1 info_gap
    obtain ⟨z1, z2⟩ := Prod.mk.inj hz
    obtain ⟨z2, z3⟩ := Prod.mk.inj z2
    have hadd : ∀ j, (⟨g, 0, none⟩ : Addr).add j = ⟨g, j, none⟩ := fun j => by unfold Addr.add; split <;> simp_all
    refine (AnyE.slices_Clone Tryz.cloneQ i0 _ 2 16 hi0 z1 z2 z3 rfl (by decide) sizeGap g 0 l.length cap (row l) W (row_len l) h3 (by omega) (fun j u hj => ?_) (row_one l)).mono ?_
    · have := World.ownsRow.cells hO (g := g) rfl j u hj
      rw [hadd] at this
      rw [Nat.zero_add]
      exact this
    · rintro e w' ⟨v', rfl, h4, -, h5⟩
      exact ⟨v', rfl, h4, h5⟩

/-- a gap within the law's bounds -/
def Bd (g : G) : Prop := (0 ≤ g.1 ∧ g.1 ≤ 1000000000) ∧ 0 ≤ g.2 ∧ g.2 ≤ 1000000000
theorem Bd.n64 {g : G} (h : Bd g) : N64 g.1 ∧ N64 g.2 := by
  obtain ⟨⟨a, b⟩, c, d⟩ := h
  exact ⟨⟨by omega, by omega⟩, by omega, by omega⟩
abbrev GB := { g : G // Bd g }
instance : Inhabited GB := ⟨⟨(0, 0), ⟨by omega, by omega⟩, by omega, by omega⟩⟩
def encB (x : GB) : List Value := [.int .i64 x.1.1, .int .i64 x.1.2]
def cfB (x y : GB) : Int := x.1.1 - y.1.1
theorem lt_cfB (x y : GB) : ltOf cfB x y = decide (x.1.1 < y.1.1) := by
  unfold ltOf cfB
  exact decide_eq_decide.2 ⟨fun h => by omega, fun h => by omega⟩
theorem swoB : SWO (ltOf cfB) where
  irrefl x := by rw [lt_cfB]; simp
  trans x y z h1 h2 := by rw [lt_cfB] at *; simp at *; omega
  ntrans x y z h1 h2 := by rw [lt_cfB] at *; simp at *; omega
set_option maxHeartbeats 1000000 in
theorem cmp_any (x y : G) (hx : Bd x) (hy : Bd y) (W : World) : Calls Tryz.prog 77 #[.agg #[.int .i64 x.1, .int .i64 x.2], .agg #[.int .i64 y.1, .int .i64 y.2]] W fun e w' => e = .returned (.int .i64 (x.1 - y.1)) ∧ ∃ q os', w' = grow (W.drewN q) os' := by
  have hw : wrap64 (x.1 - y.1) = x.1 - y.1 := by
    obtain ⟨⟨a, b⟩, -⟩ := hx
    obtain ⟨⟨c, d⟩, -⟩ := hy
    unfold wrap64
    omega
  clear hx hy
  go_enter Tryz.func77, Tryz.ntmps77
  go_wp2_with fail
  go_ret
  exact ⟨Sx.ret_int hw, 0, _, by rw [alloc_eq_grow, alloc_eq_grow, grow_grow]; rfl⟩
theorem putRow_own {w : World} {base : Nat} {e : TypeId} {s g n cap q : Nat} {xs : List Value} (h : w.ownsRow base e s (.slice (some ⟨g, 0, none⟩) n cap) n xs) (F : Array Value) (hF : F.size = n * s) :
    (putRow id (Sort.ahead w q) g 0 F).ownsRow base e s (.slice (some ⟨g, 0, none⟩) n cap) n F.toList := by
  rcases h.2 with ⟨e0, _⟩ | ⟨g', cap', cur, e0, hb, hg, hn, hm, hs, ht⟩
  · cases e0
  · injection e0 with e1 _ e3
    injection e1 with e1
    injection e1 with e1
    subst e1; subst e3
    have hle : n * s ≤ cap * s := Nat.mul_le_mul_right s hn
    refine ⟨by simpa using hF, .inr ⟨g, cap, putCells id 0 F cur, rfl, hb, ?_, hn, hm, by simpa [putCells] using hs, ?_⟩⟩
    · simp [putRow, mapBlock, Sort.ahead, Array.getElem?_modify, hg, onCells]
    · apply List.ext_getElem?
      intro j
      rw [List.getElem?_take, Array.getElem?_toList, Array.getElem?_toList]
      by_cases hj : j < n * s
      · have hjc : j < cur.size := by omega
        simp only [if_pos hj, putCells, Array.getElem?_mapIdx, Array.getElem?_eq_getElem hjc, Option.map_some]
        rw [if_pos (by omega)]
        have hjF : j < F.size := by omega
        simp [getElem!_pos, hjF]
      · rw [if_neg hj, Array.getElem?_eq_none (by omega)]
theorem flat_row (d : Array GB) : (flatK encB 2 d).toList = row (d.toList.map (·.1)) := by
  apply List.ext_getElem?
  intro j
  by_cases hj : j < d.size * 2
  · have h1 : (flatK encB 2 d)[j]! = (encB d[j / 2]!)[j % 2]! := get_flatK encB 2 d j hj
    have h2 : j < (flatK encB 2 d).size := by rw [size_flatK]; exact hj
    rw [Array.getElem?_toList, Array.getElem?_eq_getElem h2, ← getElem!_pos (flatK encB 2 d) j h2, h1]
    have hk : j / 2 < d.size := by omega
    have ha : (d.toList.map (·.1))[j / 2]? = some (d[j / 2]!).1 := by
      rw [List.getElem?_map, Array.getElem?_toList, Array.getElem?_eq_getElem hk, getElem!_pos d _ hk]
      rfl
    have hr := row_at _ _ _ ha
    rcases Nat.mod_two_eq_zero_or_one j with hm | hm
    · rw [show j = j / 2 * 2 by omega, hr.1, show j / 2 * 2 % 2 = 0 by omega, show j / 2 * 2 / 2 = j / 2 by omega]
      rfl
    · rw [show j = j / 2 * 2 + 1 by omega, hr.2, show (j / 2 * 2 + 1) % 2 = 1 by omega, show (j / 2 * 2 + 1) / 2 = j / 2 by omega]
      rfl
  · rw [List.getElem?_eq_none (by rw [Array.length_toList, size_flatK]; omega), List.getElem?_eq_none (by rw [row_len]; simp; omega)]
theorem isort_none (fv : Value) (w : World) : Calls Tryz.prog 131 #[.slice none 0 0, .int .i64 0, .int .i64 0, fv] w fun e w' => e = .returned (.tuple #[]) ∧ w' = w := by
  go_enter Tryz.func131, Tryz.ntmps131
  go_wp2_with fail
  refine wp_loop_rounds 1 ?_
  rw [rounds_succ]
  go_wp2_with fail
  go_end0
  exact ⟨rfl, rfl⟩
set_option maxHeartbeats 1000000 in
theorem pdq_none (lim : Int) (fv : Value) (w : World) : Calls Tryz.prog 108 #[.slice none 0 0, .int .i64 0, .int .i64 0, .int .i64 lim, fv] w fun e w' => e = .returned (.tuple #[]) ∧ w' = w := by
  have hi := fun W => isort_none fv W
  go_enter Tryz.func108, Tryz.ntmps108
  go_wp2_with fail
  refine wp_loop_rounds 1 ?_
  rw [rounds_succ]
  go_wp2_with (go_at_call 131; refine (hi _).mono ?_; rintro e w' ⟨rfl, rfl⟩)
  (try simp only [Exit.inBlock, Exit.then]); refine bodyPost_ret (results_none rfl _ _ _) rfl ?_
  exact ⟨rfl, rfl⟩
theorem len_none (w : World) : Calls Tryz.prog 109 #[.int .u64 0] w fun e w' => (∃ l : Int, e = .returned (.int .i64 l)) ∧ w' = w :=
  (Any.bits_Len (SlLaysF0.n15.bits (P := Tryz.prog) (ρ := Tryz.sortQ_ren) { Tryz.sortQ with }) 0 w (by omega) (by omega)).mono fun _ _ ⟨he, hw⟩ => ⟨⟨_, he⟩, hw⟩
theorem sort_none (fv : Value) (w : World) : Calls Tryz.prog 76 #[.slice none 0 0, fv] w fun e w' => e = .returned (.tuple #[]) ∧ w' = w := by
  have hp := fun lim W => pdq_none lim fv W
  have hl := fun W => len_none W
  go_enter Tryz.func76, Tryz.ntmps76
  go_wp2_with (first | (go_at_call 109; refine (hl _).mono ?_; rintro e w' ⟨⟨l, rfl⟩, rfl⟩) | (go_at_call 108; refine (hp _ _).mono ?_; rintro e w' ⟨rfl, rfl⟩))
  go_end0
  exact ⟨rfl, rfl⟩
theorem sort_any (l : List G) (hbd : ∀ g ∈ l, Bd g) (B : Nat) (v : Value) (W : World) (hO : GO W B v l) (hl : l.length ≤ 1000000000) :
    Calls Tryz.prog 76 #[v, .func (.func 77) #[] #[]] W fun e w' => e = .returned (.tuple #[]) ∧ ∃ l', l'.Perm l ∧ l'.Pairwise (fun a b => a.1 ≤ b.1) ∧ GO w' B v l' ∧ Below B W w' := by
  rcases hO.form with ⟨rfl, rfl⟩ | ⟨g, cap, rfl, h1, h2, h3⟩
  · refine (sort_none _ W).mono ?_
    rintro e w' ⟨rfl, rfl⟩
    exact ⟨rfl, [], .nil, .nil, go_nil _ _, Below.refl _ _⟩
  · obtain ⟨d, hd⟩ : ∃ d : Array GB, d.toList.map (·.1) = l := ⟨(l.attachWith Bd hbd).toArray, List.attachWith_map_subtype_val hbd⟩
    subst hd
    have hsz : (d.toList.map (·.1)).length = d.size := by simp
    rw [hsz] at hO ⊢
    have eg : ∀ args w, (callFunc 77 args).run Tryz.prog w = .ok (.enter 77 args) w := enters_of Tryz.func77 (by kernel_rfl) rfl
    have hO' : W.ownsRow B 55 2 (.slice (some ⟨g, 0, none⟩) d.size cap) d.size (row (d.toList.map (·.1))) := by
      have := hO
      unfold GO at this
      rw [hsz] at this
      exact this
    have hH : HoldsK encB 2 W g 0 d := by
      intro j hj
      rw [size_flatK] at hj
      refine ⟨?_, by rw [Nat.zero_add]; exact World.ownsRow.frozenAt hO' j⟩
      rw [Nat.zero_add, World.ownsRow.cellAt hO' j hj, ← flat_row, Array.getElem?_toList, getElem!_pos (flatK encB 2 d) j (by rw [size_flatK]; exact hj), Array.getElem?_eq_getElem]
      rfl
    refine (AnyQ.slices_SortFunc Tryz.sortQ 2 Tryz.isAgg55 sizeGap encB (fun _ => rfl) (fun x u hu => by simp [encB] at hu; rcases hu with rfl | rfl <;> rfl) cfB swoB 77 #[] g 0 cap d W eg (fun _ _ _ _ x y => cmp_any x.1 y.1 x.2 y.2 _) hH h2 (by simp only [hsz] at hl; omega)).mono ?_
    rintro e w' ⟨rfl, d', n, os, hp, hs, rfl⟩
    have hsd : d'.size = d.size := hp.1
    have hperm : d'.toList.Perm d.toList := by
      have := hp.2.2
      rw [← hsd] at this
      simpa [hsd, List.take_of_length_le] using this
    refine ⟨rfl, d'.toList.map (·.1), hperm.map _, ?_, ?_, ?_⟩
    · rw [List.pairwise_map, List.pairwise_iff_getElem]
      intro i j hi hj hij
      have h5 := hs i j (Nat.zero_le _) hij (by simpa [hsd] using hj)
      rw [lt_cfB] at h5
      simp only [Array.length_toList] at hi hj
      rw [getElem!_pos d' i hi, getElem!_pos d' j hj] at h5
      simpa using h5
    · have h6 := putRow_own (q := n) hO' (flatK encB 2 d') (by rw [size_flatK, hsd])
      rw [flat_row] at h6
      have h7 := ownsRow_grow h6 0 os
      show World.ownsRow _ _ _ _ _ _ _
      rw [show (d'.toList.map (·.1)).length = d.size by simp [hsd]]
      exact h7
    · have h8 := Lib.below_putRow (enc := id) (q := n) (d := flatK encB 2 d') (Below.refl B W) h1
      exact h8.trans (below_grow B _ (by simp [putRow, mapBlock, Sort.ahead]; omega) 0 os)
end Sg
end Go.Proofs.YtflhmoelenmomaaGreatDoor

/-
  joined: what a list of gaps holds, in the normal form.
-/
namespace Go.Proofs.YtflhmoelenmomaaGreatDoor
open Go.RowKit Go.Shelf Go.Lib
namespace Sg

theorem step_bd {out : List G} {g : G} (h : ∀ x ∈ out, Bd x) (hg : Bd g) : ∀ x ∈ stepJ out g, Bd x := by
  unfold stepJ
  split
  · exact h
  · rcases snoc_cases out with rfl | ⟨a, l, rfl⟩
    · simp only [List.getLast?_nil]
      intro x hx
      rw [List.mem_singleton.1 hx]
      exact hg
    · rw [List.getLast?_concat, List.dropLast_concat]
      dsimp only
      split
      · intro x hx
        rcases List.mem_append.1 hx with hx | hx
        · exact h x (List.mem_append_left _ hx)
        · have hl := h l (List.mem_append_right _ (.head _))
          rw [List.mem_singleton.1 hx]
          refine ⟨hl.1, ?_⟩
          have h1 := hl.2
          have h2 := hg.2
          constructor
          · simp only; omega
          · simp only; omega
      · intro x hx
        rcases List.mem_append.1 hx with hx | hx
        · exact h x hx
        · rw [List.mem_singleton.1 hx]
          exact hg
theorem step_len (out : List G) (g : G) : (stepJ out g).length ≤ out.length + 1 := by
  unfold stepJ
  split
  · omega
  · rcases snoc_cases out with rfl | ⟨a, l, rfl⟩
    · simp
    · rw [List.getLast?_concat, List.dropLast_concat]
      dsimp only
      split <;> simp
theorem GO.isl {W : World} {B : Nat} {v : Value} {l : List G} (h : GO W B v l) : ∃ sl cap, v = .slice sl l.length cap := by
  rcases h.form with ⟨rfl, h1⟩ | ⟨g, cap, rfl, _⟩
  · exact ⟨none, 0, by rw [h1]; rfl⟩
  · exact ⟨_, _, rfl⟩
def accJ (l : List G) (k : Nat) : List G := (l.take k).foldl stepJ []
theorem acc_succ {l : List G} {k : Nat} {g : G} (h : l[k]? = some g) : accJ l (k + 1) = stepJ (accJ l k) g := by
  unfold accJ
  rw [List.take_add_one, h, List.foldl_append]
  rfl
theorem acc_bd {l : List G} (h : ∀ x ∈ l, Bd x) : ∀ k, (∀ x ∈ accJ l k, Bd x) ∧ (accJ l k).length ≤ k
  | 0 => ⟨fun x hx => (by cases hx), Nat.le_refl _⟩
  | k + 1 => by
    have ih := acc_bd h k
    cases hk : l[k]? with
    | none =>
      have : accJ l (k + 1) = accJ l k := by unfold accJ; rw [List.take_add_one, hk]; simp
      rw [this]
      exact ⟨ih.1, by omega⟩
    | some g =>
      rw [acc_succ hk]
      exact ⟨step_bd ih.1 (h g (List.mem_of_getElem? hk)), Nat.le_trans (step_len _ g) (by omega)⟩
theorem acc_all (l : List G) : accJ l l.length = joinF l := by unfold accJ joinF; rw [List.take_length]
theorem GO.push {w : World} {B : Nat} {v : Value} {l : List G} (h : GO w B v l) (g : G) (hn : l.length ≤ 1000000) (hBw : B ≤ w.heap.size) {ops : Array Oper} {rest : List Oper} {o : Oper} {a : Act} {Q : Exit → Act → World → Prop} (hgd : o.guard = none) (sl xo : Operand)
    (ho : o.op = .call { callee := .builtin .append, args := #[sl, xo], argTypes := #[40, 40] }) (hv : a.eval sl = v) {A : Nat} (hx : a.eval xo = .slice (some ⟨A, 0, none⟩) 1 1) (hA : A = w.heap.size)
    (hK : ∀ v' w', GO w' B v' (l ++ [g]) → (∀ w0, Below B w0 w → Below B w0 w') → wpList Tryz.prog ops Q rest (a.put o.dst v') w') : wpList Tryz.prog ops Q (o :: rest) a (w.alloc (.cells #[.int .i64 g.1, .int .i64 g.2] 55)) := by
  subst hA
  obtain ⟨i0, hi0, hz⟩ := Option.map_eq_some_iff.1 info_gap
  obtain ⟨z1, z2⟩ := Prod.mk.inj hz
  obtain ⟨z2, z3⟩ := Prod.mk.inj z2
  have h1 : GO (w.alloc (.cells #[.int .i64 g.1, .int .i64 g.2] 55)) B v l := h.below ((Below.refl _ _).alloc (Nat.le_refl _) _)
  refine wpList_append_own _ hgd sl xo 40 ho B 55 i0 _ 2 16 Tryz.underlying40 hi0 z1 z2 z3 rfl (by decide) v l.length _ hv h1 ⟨w.heap.size, 0, none⟩ 1 1 [.int .i64 g.1, .int .i64 g.2] hx rfl (World.news_of_block (cs := #[.int .i64 g.1, .int .i64 g.2]) (heap_alloc_new w _)) ?_ (by unfold maxLen; omega) (by omega) (by simp; omega) ?_
  · intro q hq
    simp only [List.mem_cons, List.not_mem_nil, or_false] at hq
    rcases hq with rfl | rfl <;> rfl
  intro v' w2 hown2 hg2 _
  refine hK v' w2 ?_ (fun w0 h0 => (h0.alloc hBw _).grown hg2 (by simp; omega) (fun k hk => (h.lt k hk).1))
  unfold GO
  rw [List.length_append, row_app]
  exact hown2
theorem drew_drewN (w : World) (n : Nat) : (w.drewN n).drew = w.drewN (n + 1) := rfl
theorem row_set (a : List G) (l : G) (h : Int) : (row (a ++ [l])).set (a.length * 2 + 1) (.int .i64 h) = row (a ++ [(l.1, h)]) := by
  rw [row_app, row_app, List.set_append_right _ _ (by rw [row_len]; omega), row_len, show a.length * 2 + 1 - a.length * 2 = 1 by omega]
  rfl
theorem GO.merge {w : World} {B gb co m : Nat} {a : List G} {z1 z2 : Int} (hO : w.ownsRow B 55 2 (.slice (some ⟨gb, 0, none⟩) (m + 1) co) (m + 1) (row (a ++ [(z1, z2)]))) (hm : m = a.length) (n : Nat) (h : Int) :
    GO ((w.drewN n).setCell ⟨gb, m * 2 + 1, none⟩ (.int .i64 h)) B (.slice (some ⟨gb, 0, none⟩) (m + 1) co) (a ++ [(z1, h)]) := by
  have h6 := (World.ownsRow.stored (w := w.drewN n) hO (m * 2 + 1) (.int .i64 h)).1
  subst hm
  rw [row_set] at h6
  unfold GO
  rw [show (a ++ [(z1, h)]).length = a.length + 1 by simp]
  exact h6
set_option maxHeartbeats 4000000 in
set_option maxRecDepth 100000 in
theorem joined_any (l : List G) (hbd : ∀ g ∈ l, Bd g) (B : Nat) (v : Value) (W : World) (hO : GO W B v l) (hl : l.length ≤ 1000000) :
    Calls Tryz.prog 51 #[v] W fun e W' => ∃ v' r, e = .returned v' ∧ GO W' W.heap.size v' r ∧ Nm r ∧ (∀ n, inR r n ↔ inR l n) ∧ (∀ g ∈ r, Bd g) ∧ r.length ≤ l.length ∧ Below W.heap.size W W' := by
  have hcl := clone_any l B v W hO (by omega)
  have hso := fun W1 v1 (h : GO W1 W.heap.size v1 l) => sort_any l hbd W.heap.size v1 W1 h (by omega)
  go_enter Tryz.func51, Tryz.ntmps51
  go_wp2_with (first
    | (go_at_call 75; refine hcl.mono ?_; rintro e W1 ⟨v1, rfl, hO1, hB1⟩)
    | (go_at_call 76; refine (hso _ _ hO1).mono ?_; rintro e W2 ⟨rfl, s, hp, hs, hO2, hB2⟩; obtain ⟨sl, cap, rfl⟩ := hO2.isl))
  clear hcl hso hO1
  have hB := hB1.trans hB2
  have hsb : ∀ g ∈ s, Bd g := fun g hg => hbd g (hp.mem_iff.1 hg)
  have hsl : s.length = l.length := hp.length_eq
  have hN := join_nm hs
  have HF := Lib.hid (show Nm (accJ s s.length) ∧ (∀ n, inR (accJ s s.length) n ↔ inR l n) ∧ (∀ g ∈ accJ s s.length, Bd g) ∧ (accJ s s.length).length ≤ l.length from by
    have h9 := acc_bd hsb s.length
    rw [acc_all] at h9 ⊢
    refine ⟨hN.1, fun n => (hN.2 n).trans ?_, h9.1, by omega⟩
    exact ⟨fun ⟨g, hg, h⟩ => ⟨g, hp.mem_iff.1 hg, h⟩, fun ⟨g, hg, h⟩ => ⟨g, hp.mem_iff.2 hg, h⟩⟩)
  have HSB := Lib.hid hsb
  have hsm : s.length ≤ 1000000 := by omega
  clear hp hs hN hsb hsl hbd hl hO hB1 hB2
  have HO2 := Lib.hid hO2
  clear hO2
  go_loopw [4, 14] (fun v i wr => ∃ k : Nat, k ≤ s.length ∧ i = .int .i64 (k : Int) ∧ GO wr W2.heap.size v (accJ s k) ∧ Below W2.heap.size W2 wr) (fun _ i _ => s.length - (intOf i).toNat)
  case atStart => exact ⟨0, Nat.zero_le _, rfl, go_nil _ _, Below.refl _ _⟩
  case round =>
    obtain ⟨k, hk, rfl, hv, hb⟩ := hrel
    by_cases hlt : k < s.length
    · obtain ⟨g, hg⟩ : ∃ g, s[k]? = some g := ⟨s[k], List.getElem?_eq_getElem hlt⟩
      obtain ⟨b, rfl, hBb, ha, h3⟩ := HO2.out.at hg
      obtain ⟨c0, c1⟩ := h3.below ha hb
      have HS := Lib.hid (acc_succ hg)
      have HA := Lib.hid (acc_bd HSB.out k)
      obtain ⟨acc, hacc⟩ : ∃ acc, acc = accJ s k := ⟨_, rfl⟩
      rw [← hacc] at hv HS HA
      have hal : acc.length ≤ 1000000 := by have := HA.out.2; omega
      obtain ⟨lo, hi⟩ := g
      clear hg h3 hacc
      have HV := Lib.hid hv
      have hbs := hb.size
      have hB3 := hb.alloc hb.size (.cells #[.int .i64 lo, .int .i64 hi] 55)
      have HV3 := Lib.hid (hv.below ((Below.refl _ _).alloc (Nat.le_refl _) (.cells #[.int .i64 lo, .int .i64 hi] 55)))
      by_cases g1 : hi ≤ lo
      · have HE := Lib.hid (show accJ s (k + 1) = acc by rw [HS.out]; unfold stepJ; rw [if_pos g1])
        obtain ⟨so, co, rfl⟩ := HV.out.isl
        clear hv
        go_wp2_with fail
        go_roundw
        case rel => exact ⟨k + 1, by omega, by go_num, by rw [HE.out]; exact HV3.out, hB3⟩
        case measure => simp [intOf]; omega
      rcases snoc_cases acc with rfl | ⟨a, z, rfl⟩
      · have HE := Lib.hid (show accJ s (k + 1) = [] ++ [(lo, hi)] by rw [HS.out]; unfold stepJ; rw [if_neg g1]; rfl)
        obtain ⟨so, co, rfl⟩ := HV.out.isl
        have HV4 := Lib.hid HV3.out
        clear hv
        go_wp2_with fail
        go_quiet (fail)
        go_wp2_with (first
          | (at_builtin; refine GO.push (l := []) (B := W2.heap.size) ?hh (lo, hi) (by simp) ?hk rfl _ _ rfl rfl rfl ?he ?_; (case hh => exact HV4.out); (case hk => simp; omega); (case he => simp); intro v9 w9 hO9 hB9))
        have HO9 := Lib.hid hO9
        have HB9 := Lib.hid (hB9 _ (Sx.below_drewN hB3 _))
        clear hO9 hB9
        go_wp2_with fail
        go_roundw
        case rel => exact ⟨k + 1, by omega, by go_num, by rw [HE.out]; exact HO9.out, HB9.out⟩
        case measure => simp [intOf]; omega
      · have hz : (a ++ [z])[a.length]? = some z := by simp
        have hlen : (a ++ [z]).length = a.length + 1 := by simp
        obtain ⟨so, co, hvv⟩ := HV.out.isl
        rw [hlen] at hvv
        subst hvv
        obtain ⟨gb, rfl, hgb, hgs, c2, c3⟩ := HV3.out.at hz
        obtain ⟨z1, z2⟩ := z
        obtain ⟨m, hm⟩ : ∃ m, m = a.length := ⟨_, rfl⟩
        rw [hlen] at hal
        rw [← hm] at c2 c3 hal ⊢
        have j0 : decide ((0 : Int) ≤ (m : Int)) = true := by simp
        by_cases g2 : lo ≤ z2
        · have j1 : decide (lo ≤ z2) = true := decide_eq_true g2
          have hO5 : (wr.alloc (.cells #[.int .i64 lo, .int .i64 hi] 55)).ownsRow W2.heap.size 55 2 (.slice (some ⟨gb, 0, none⟩) (m + 1) co) (m + 1) (row (a ++ [(z1, z2)])) := by
            have h5 := HV3.out
            unfold GO at h5
            rw [hlen, ← hm] at h5
            exact h5
          have f3 := World.ownsRow.frozenAt hO5 (m * 2 + 1)
          have HO5 := Lib.hid hO5
          have HE := Lib.hid (show accJ s (k + 1) = a ++ [(z1, max z2 hi)] by rw [HS.out]; unfold stepJ; rw [if_neg g1, List.getLast?_concat, List.dropLast_concat]; dsimp only; rw [if_pos g2])
          have hv4 := HV3.out
          rw [← hm] at hv4
          have HV4 := Lib.hid hv4
          have HM := Lib.hid hm
          clear hv4 hv hz hlen hm
          go_wp2_with fail
          go_quiet (fail)
          go_wp2_with fail
          refine Mix.region (fun w' => ∃ n, w' = (wr.alloc (.cells #[.int .i64 lo, .int .i64 hi] 55)).drewN n) 12 [0, 0, 0, 0, 0, 0, 0, 0, 0, 1, 2, 2, 9] [true, false, true] (by kernel_rfl) (fun _ _ d _ _ h => by cases d <;> exact h) (by rfl) (by kernel_rfl) ⟨_, drew_drewN _ _⟩ ?_
          simp only [Mix.selP_cons, Mix.selP_nil, Mix.sel_cons, Mix.sel_nil, Nat.reduceBEq, Nat.reduceAdd, cond_true, cond_false, List.drop_succ_cons, List.drop_zero]
          refine Mix.parts_q ?_
          repeat (go_big_quiet_step (fail))
          refine wpQuiet_nil ?_
          refine Mix.parts_e ?_
          refine Mix.eff_step (fun K hK => ?_)
          go_simp
          refine hK _ _ ⟨_, rfl⟩ ?_
          refine Mix.eff_nil (Mix.parts_q ?_)
          repeat (go_big_quiet_step (fail))
          refine wpQuiet_nil ?_
          refine Mix.parts_n ?_
          go_wp2_with fail
          go_roundw
          case rel =>
            refine ⟨k + 1, by omega, by go_num, ?_, (Sx.below_drewN hB3 _).setCell (p := ⟨gb, m * 2 + 1, none⟩) hgb _⟩
            rw [HE.out]
            exact GO.merge HO5.out HM.out _ _
          case measure => simp [intOf]; omega
        · have j1 : decide (lo ≤ z2) = false := decide_eq_false g2
          have HE := Lib.hid (show accJ s (k + 1) = (a ++ [(z1, z2)]) ++ [(lo, hi)] by rw [HS.out]; unfold stepJ; rw [if_neg g1, List.getLast?_concat, List.dropLast_concat]; dsimp only; rw [if_neg g2])
          have hv4 := HV3.out
          rw [← hm] at hv4
          have HV4 := Lib.hid hv4
          have HM := Lib.hid hm
          clear hv4 hv hz hlen hm
          go_wp2_with fail
          go_quiet (fail)
          go_wp2_with (first
            | (at_builtin; refine GO.push (l := a ++ [(z1, z2)]) (B := W2.heap.size) ?hh (lo, hi) (by rw [List.length_append, ← HM.out]; simpa using hal) ?hk rfl _ _ rfl rfl rfl ?he ?_; (case hh => exact HV4.out); (case hk => simp; omega); (case he => simp); intro v9 w9 hO9 hB9))
          have HO9 := Lib.hid hO9
          have HB9 := Lib.hid (hB9 _ (Sx.below_drewN hB3 _))
          clear hO9 hB9
          go_wp2_with fail
          go_roundw
          case rel => exact ⟨k + 1, by omega, by go_num, by rw [HE.out]; exact HO9.out, HB9.out⟩
          case measure => simp [intOf]; omega
    · obtain rfl : k = s.length := by omega
      go_wp2_with fail
      go_ret
      obtain ⟨h1, h2, h3, h4⟩ := HF.out
      exact ⟨_, _, rfl, hv.le hB.size, h1, h2, h3, h4, hB.trans (hb.mono hB.size)⟩
end Sg
end Go.Proofs.YtflhmoelenmomaaGreatDoor

/-
  Walks: the reference's In and Same; Has of the program and of the reference; few.
-/
namespace Go.Proofs.YtflhmoelenmomaaGreatDoor
open Go.RowKit
namespace Sg

theorem in_none {r : List G} {n : Int} (h : ∀ g ∈ r, ¬ (g.1 ≤ n ∧ n < g.2)) : inB r n = false := by
  cases hb : inB r n with
  | false => rfl
  | true =>
    obtain ⟨g, hg, h1⟩ := (inB_iff r n).1 hb
    exact absurd h1 (h g hg)
theorem take_g {r : List G} {k : Nat} {g : G} (h : r[k]? = some g) : r.take (k + 1) = r.take k ++ [g] := by
  rw [List.take_add_one, h]
  rfl
theorem none_g {r : List G} {k : Nat} {g : G} {n : Int} (hg : r[k]? = some g) (h : ∀ x ∈ r.take k, ¬ (x.1 ≤ n ∧ n < x.2)) (hn : ¬ (g.1 ≤ n ∧ n < g.2)) : ∀ x ∈ r.take (k + 1), ¬ (x.1 ≤ n ∧ n < x.2) := fun x hx => by
  rw [take_g hg] at hx
  rcases List.mem_append.1 hx with hx | hx
  · exact h x hx
  · rw [List.mem_singleton.1 hx]; exact hn
theorem in_at {r : List G} {k : Nat} {g : G} {n : Int} (hg : r[k]? = some g) (h : g.1 ≤ n ∧ n < g.2) : inB r n = true := (inB_iff r n).2 ⟨g, List.mem_of_getElem? hg, h⟩
set_option maxHeartbeats 2000000 in
set_option maxRecDepth 100000 in
theorem rin_any (r : List G) (v : Value) (n : Int) (W : World) (hP : GS W v r) : Calls Tryz.prog 82 #[v, .int .i64 n] W fun e W' => e = .returned (.bool (inB r n)) ∧ Below W.heap.size W W' := by
  have hsm := hP.small
  obtain ⟨sl, cap, rfl, -, hf⟩ := hP.form
  have HF := Lib.hid hf
  clear hf hP
  go_enter Tryz.func82, Tryz.ntmps82
  go_wp2_with fail
  go_loopw [9] (fun i wr => ∃ k : Nat, k ≤ r.length ∧ i = .int .i64 (k : Int) ∧ (∀ x ∈ r.take k, ¬ (x.1 ≤ n ∧ n < x.2)) ∧ Below W.heap.size W wr) (fun i _ => r.length - (intOf i).toNat)
  case atStart => exact ⟨0, Nat.zero_le _, rfl, fun x h => by simp at h, Below.refl _ _⟩
  case round =>
    obtain ⟨k, hk, rfl, hn, hb⟩ := hrel
    by_cases hlt : k < r.length
    · obtain ⟨g, hg⟩ : ∃ g, r[k]? = some g := ⟨r[k], List.getElem?_eq_getElem hlt⟩
      obtain ⟨b, o, rfl, ha, h3⟩ := HF.out k g hg
      obtain ⟨c0, c1⟩ := h3.below ha hb
      have HNS := Lib.hid (none_g hg hn)
      have HIN := Lib.hid (in_at (n := n) hg)
      obtain ⟨lo, hi⟩ := g
      have hB := hb.alloc hb.size (.cells #[.int .i64 lo, .int .i64 hi] 55)
      clear hg h3 hn
      by_cases g1 : lo ≤ n
      · by_cases g2 : n < hi
        · have HR := Lib.hid (HIN.out ⟨g1, g2⟩)
          go_wp2_with fail
          go_ret
          rw [HR.out]
          exact ⟨rfl, hB⟩
        · have HR := Lib.hid (HNS.out (fun h => g2 h.2))
          go_wp2_with fail
          go_roundw
          case rel => exact ⟨k + 1, by omega, by go_num, HR.out, hB⟩
          case measure => simp [intOf]; omega
      · have HR := Lib.hid (HNS.out (fun h => g1 h.1))
        go_wp2_with fail
        go_roundw
        case rel => exact ⟨k + 1, by omega, by go_num, HR.out, hB⟩
        case measure => simp [intOf]; omega
    · obtain rfl : k = r.length := by omega
      rw [List.take_length] at hn
      have HR := Lib.hid (in_none hn)
      clear hn
      go_wp2_with fail
      go_ret
      rw [HR.out]
      exact ⟨rfl, hb⟩
set_option maxHeartbeats 1000000 in
set_option maxRecDepth 100000 in
theorem rsame_any (p : List G) (v v' : Value) (W : World) (hP : GS W v p) (hP' : GS W v' p) :
    Calls Tryz.prog 59 #[v, v'] W fun e W' => e = .returned (.bool true) ∧ Below W.heap.size W W' := by
  have hsm := hP.small
  obtain ⟨sl, cap, rfl, -, hf⟩ := hP.form
  obtain ⟨sl', cap', rfl, -, hf'⟩ := hP'.form
  have HF := Lib.hid hf
  have HF' := Lib.hid hf'
  clear hf hf' hP hP'
  go_enter Tryz.func59, Tryz.ntmps59
  go_wp2_with fail
  go_loopw [13] (fun i wr => ∃ k : Nat, k ≤ p.length ∧ i = .int .i64 k ∧ Below W.heap.size W wr) (fun i _ => p.length - (intOf i).toNat)
  case atStart => exact ⟨0, Nat.zero_le _, rfl, Below.refl _ _⟩
  case round =>
    obtain ⟨k, hk, rfl, hb⟩ := hrel
    by_cases hlt : k < p.length
    · obtain ⟨x, hx⟩ : ∃ x, p[k]? = some x := ⟨p[k], List.getElem?_eq_getElem hlt⟩
      obtain ⟨b, o, rfl, ha, h3⟩ := HF.out k x hx
      obtain ⟨b', o', rfl, ha', h3'⟩ := HF'.out k x hx
      obtain ⟨c0, c1⟩ := h3.below ha hb
      obtain ⟨c0', c1'⟩ := h3'.below ha' hb
      clear hx h3 h3'
      go_wp2_with fail
      go_quiet (fail)
      go_wp2
      go_roundw
      case rel => exact ⟨k + 1, by omega, by go_num, Sx.below_drewN hb _⟩
      case measure => simp [intOf]; omega
    · go_wp2
      go_ret
      exact ⟨rfl, hb⟩
theorem few_tt (p : List G) (v : Value) (W : World) (hP : GS W v p) (h : 16 < p.length) : Calls Tryz.prog 50 #[v] W fun e W' => e = .returned (.tuple #[.slice none 0 0, .int .i64 13]) ∧ Below W.heap.size W W' := by
  obtain ⟨sl, cap, rfl, -, -⟩ := hP.form
  clear hP
  have j1 : (16 : Int) < p.length := by omega
  clear h
  go_enter Tryz.func50, Tryz.ntmps50
  go_wp2_with fail
  go_ret2
  exact ⟨rfl, Below.refl _ _⟩
theorem few_ff (p : List G) (v : Value) (W : World) (hP : GS W v p) (h : ¬ 16 < p.length) : Calls Tryz.prog 50 #[v] W fun e W' => e = .returned (.tuple #[v, .int .i64 0]) ∧ Below W.heap.size W W' := by
  obtain ⟨sl, cap, rfl, -, -⟩ := hP.form
  clear hP
  have j1 : ¬ (16 : Int) < p.length := by omega
  clear h
  go_enter Tryz.func50, Tryz.ntmps50
  go_wp2_with fail
  go_ret2
  exact ⟨rfl, Below.refl _ _⟩
/-- whether a version is in a range -/
def hasB (r : List G) (a b c : Int) : Bool := Vs.goodB a b c && inB r (Vs.num a b c)
theorem num_ge {a b c : Int} (h : Vs.goodB a b c = true) : 0 ≤ Vs.num a b c := by
  obtain ⟨h1, h2, h3, h4, h5, h6⟩ := Vs.of_good h
  simp only [Vs.num, h, if_true]
  omega
theorem num_no {a b c : Int} (h : Vs.goodB a b c = false) : Vs.num a b c = -1 := by simp [Vs.num, h]
end Sg
end Go.Proofs.YtflhmoelenmomaaGreatDoor

/-
  Or: two lists of gaps one behind the other, joined.
-/
namespace Go.Proofs.YtflhmoelenmomaaGreatDoor
open Go.RowKit Go.Shelf Go.Lib
namespace Sg

theorem add_at (b o j : Nat) : (⟨b, o, none⟩ : Addr).add j = ⟨b, o + j, none⟩ := by unfold Addr.add; split <;> simp_all
theorem GS.cells {W : World} {a : Addr} {n c : Nat} {r : List G} (h : GS W (.slice (some a) n c) r) : ∀ j u, (row r)[j]? = some u → W.cell? (a.add j) = some u := by
  obtain ⟨sl, cap, hv, hn, hf⟩ := h.form
  intro j u hj
  have hjl : j < r.length * 2 := by have := (List.getElem?_eq_some_iff.1 hj).1; rw [row_len] at this; exact this
  have hk : j / 2 < r.length := by omega
  obtain ⟨b, o, e, hb, h3⟩ := hf (j / 2) r[j / 2] (List.getElem?_eq_getElem hk)
  cases hv
  cases e
  have hr := row_at r (j / 2) _ (List.getElem?_eq_getElem hk)
  rw [add_at]
  rcases Nat.mod_two_eq_zero_or_one j with hm | hm
  · rw [show j = j / 2 * 2 by omega, hr.1] at hj
    rw [show o + j = o + j / 2 * 2 by omega, ← hj]
    exact h3.lo
  · rw [show j = j / 2 * 2 + 1 by omega, hr.2] at hj
    rw [show o + j = o + j / 2 * 2 + 1 by omega, ← hj]
    exact h3.hi
theorem GO.cat {w : World} {B : Nat} {v : Value} {l : List G} (h : GO w B v l) {x : Value} {r : List G} (hr : GS w x r) (hn : l.length + r.length ≤ 1000000) (hBw : B ≤ w.heap.size) {ops : Array Oper} {rest : List Oper} {o : Oper} {a : Act} {Q : Exit → Act → World → Prop} (hgd : Region.wanted o (yielded ops a.tmps) = true) (sl xo : Operand)
    (ho : o.op = .call { callee := .builtin .append, args := #[sl, xo], argTypes := #[40, 40] }) (hv : a.eval sl = v) (hx : a.eval xo = x)
    (hK : ∀ v' w', GO w' B v' (l ++ r) → (∀ w0, Below B w0 w → Below B w0 w') → wpList Tryz.prog ops Q rest (a.put o.dst v') w') : wpList Tryz.prog ops Q (o :: rest) a w :=
  wpList_step fun K hK2 => by
    rw [if_pos hgd]
    obtain ⟨i0, hi0, hz⟩ := Option.map_eq_some_iff.1 info_gap
    obtain ⟨z1, z2⟩ := Prod.mk.inj hz
    obtain ⟨z2, z3⟩ := Prod.mk.inj z2
    obtain ⟨s0, cap, rfl, hcap, hf⟩ := hr.form
    cases s0 with
    | none =>
      have hr0 : r = [] := by
        cases r with
        | nil => rfl
        | cons g r' => obtain ⟨b, o', e, _⟩ := hf 0 g rfl; cases e
      subst hr0
      rw [hcap rfl] at hx
      have hrun := run_append_owned_none (P := Tryz.prog) (w := w) B 40 o.type 55 i0 2 Tryz.underlying40 hi0 v l.length (row l) h
      unfold Oper.wp
      simp [execOp, ho, resolve, invoke, builtin, hv, hx, hrun, Result.andThen]
      exact hK2 _ _ (hK v w (by simpa using h) (fun _ h => h))
    | some ad =>
      refine wp_append_own w sl xo 40 ho B 55 i0 _ 2 16 Tryz.underlying40 hi0 z1 z2 z3 rfl (by decide) v l.length (row l) hv h ad r.length cap (row r) hx (row_len r) hr.cells (row_one r) (by unfold maxLen; omega) (by omega) hBw ?_
      intro v' w' h1 h2 _
      refine hK2 _ _ (hK v' w' ?_ (fun w0 h0 => h0.grown h2 hBw (fun k hk => (h.lt k hk).1)))
      unfold GO
      rw [row_app, List.length_append]
      exact h1
/-- what Or, And and Not answer: the normal form of a set, or that it has too many gaps -/
structure SetP (B : Nat) (S : Int → Prop) (r : List G) (e : Ending) (W' : World) : Prop where
  nm : Nm r
  mem : ∀ n, inR r n ↔ S n
  bd : ∀ g ∈ r, Bd g
  ans : (16 < r.length ∧ e = .returned (.tuple #[.slice none 0 0, .int .i64 13])) ∨ (¬ 16 < r.length ∧ ∃ v', e = .returned (.tuple #[v', .int .i64 0]) ∧ GO W' B v' r)
theorem goodB_bd {r : List G} (h : goodB r = true) : ∀ g ∈ r, Bd g := fun g hg => by
  have := (good_nm h).2.2 g hg
  exact ⟨⟨by omega, by omega⟩, by omega, by omega⟩
end Sg
end Go.Proofs.YtflhmoelenmomaaGreatDoor

/-
  Not: what lies between the gaps.
-/
namespace Go.Proofs.YtflhmoelenmomaaGreatDoor
open Go.RowKit Go.Shelf Go.Lib
namespace Sg

theorem GO.push2 {w : World} {B : Nat} {v : Value} {l : List G} (h : GO w B v l) (g : G) (hn : l.length ≤ 1000000) (hBw : B ≤ w.heap.size) {ops : Array Oper} {rest : List Oper} {o : Oper} {a : Act} {Q : Exit → Act → World → Prop} (hgd : o.guard = none) (sl xo : Operand)
    (ho : o.op = .call { callee := .builtin .append, args := #[sl, xo], argTypes := #[40, 40] }) (hv : a.eval sl = v) {A : Nat} (hx : a.eval xo = .slice (some ⟨A, 0, none⟩) 1 1) (hA : A = w.heap.size)
    (hK : ∀ v' w', GO w' B v' (l ++ [g]) → (∀ w0, Below B w0 w → Below B w0 w') → (∀ k, k < w.heap.size → v.ownBlock ≠ some k → w'.heap[k]? = w.heap[k]?) → wpList Tryz.prog ops Q rest (a.put o.dst v') w') : wpList Tryz.prog ops Q (o :: rest) a (w.alloc (.cells #[.int .i64 g.1, .int .i64 g.2] 55)) := by
  subst hA
  obtain ⟨i0, hi0, hz⟩ := Option.map_eq_some_iff.1 info_gap
  obtain ⟨z1, z2⟩ := Prod.mk.inj hz
  obtain ⟨z2, z3⟩ := Prod.mk.inj z2
  have h1 : GO (w.alloc (.cells #[.int .i64 g.1, .int .i64 g.2] 55)) B v l := h.below ((Below.refl _ _).alloc (Nat.le_refl _) _)
  refine wpList_append_own _ hgd sl xo 40 ho B 55 i0 _ 2 16 Tryz.underlying40 hi0 z1 z2 z3 rfl (by decide) v l.length _ hv h1 ⟨w.heap.size, 0, none⟩ 1 1 [.int .i64 g.1, .int .i64 g.2] hx rfl (World.news_of_block (cs := #[.int .i64 g.1, .int .i64 g.2]) (heap_alloc_new w _)) ?_ (by unfold maxLen; omega) (by omega) (by simp; omega) ?_
  · intro q hq
    simp only [List.mem_cons, List.not_mem_nil, or_false] at hq
    rcases hq with rfl | rfl <;> rfl
  intro v' w2 hown2 hg2 _
  refine hK v' w2 ?_ (fun w0 h0 => (h0.alloc hBw _).grown hg2 (by simp; omega) (fun k hk => (h.lt k hk).1)) (fun k hk hne => (hg2.block k (by simp; omega) (fun e => hne e.symm)).trans (heap_alloc_old w _ hk))
  unfold GO
  rw [List.length_append, row_app]
  exact hown2
def notL : Int → List G → List G
  | la, [] => [(la, 1000000000)]
  | la, g :: r => (la, g.1) :: notL g.2 r
theorem not_len : ∀ (r : List G) (la : Int), (notL la r).length = r.length + 1
  | [], _ => rfl
  | g :: r, la => by simp [notL, not_len r]
theorem not_bd : ∀ (r : List G) (la : Int), (∀ g ∈ r, Bd g) → (0 ≤ la ∧ la ≤ 1000000000) → ∀ g ∈ notL la r, Bd g
  | [], la, _, h, g, hg => by
    rw [List.mem_singleton.1 hg]
    exact ⟨h, by simp only; omega, by simp only; omega⟩
  | x :: r, la, hb, h, g, hg => by
    have hx := hb x (.head _)
    rcases List.mem_cons.1 hg with rfl | hg
    · exact ⟨h, hx.1⟩
    · exact not_bd r x.2 (fun g hg => hb g (.tail _ hg)) hx.2 g hg
theorem not_in : ∀ (r : List G) (la : Int), Nm r → (∀ g ∈ r, la ≤ g.1 ∧ g.2 ≤ 1000000000) → ∀ n, inR (notL la r) n ↔ (la ≤ n ∧ n < 1000000000 ∧ ¬ inR r n)
  | [], la, _, _, n => by
    rw [notL, in_one]
    exact ⟨fun h => ⟨h.1, h.2, in_nil n⟩, fun h => ⟨h.1, h.2.1⟩⟩
  | g :: r, la, hN, hb, n => by
    have hg := hb g (.head _)
    have hp := hN.pos g (.head _)
    rw [notL, in_cons, not_in r g.2 hN.tail (fun x hx => ⟨by have := (List.pairwise_cons.1 hN.sep).1 x hx; omega, (hb x (.tail _ hx)).2⟩) n, in_cons]
    simp only
    constructor
    · rintro (h | h)
      · refine ⟨h.1, by omega, ?_⟩
        rintro (h1 | h1)
        · omega
        · have := hN.gap h1; omega
      · refine ⟨by omega, h.2.1, ?_⟩
        rintro (h1 | h1)
        · omega
        · exact h.2.2 h1
    · rintro ⟨h1, h2, h3⟩
      by_cases h4 : n < g.1
      · exact .inl ⟨h1, h4⟩
      · refine .inr ⟨?_, h2, fun h5 => h3 (.inr h5)⟩
        by_cases h5 : n < g.2
        · exact absurd (.inl ⟨by omega, h5⟩) h3
        · omega
end Sg
end Go.Proofs.YtflhmoelenmomaaGreatDoor

/-
  And: the common part of each two gaps.
-/
namespace Go.Proofs.YtflhmoelenmomaaGreatDoor
open Go.RowKit Go.Shelf Go.Lib
namespace Sg

def mm (x y : G) : G := (max x.1 y.1, min x.2 y.2)
def andL (p q : List G) : List G := p.flatMap fun x => q.map (mm x)
theorem and_in (p q : List G) (n : Int) : inR (andL p q) n ↔ inR p n ∧ inR q n := by
  unfold andL inR
  constructor
  · rintro ⟨g, hg, h1, h2⟩
    obtain ⟨x, hx, hg⟩ := List.mem_flatMap.1 hg
    obtain ⟨y, hy, rfl⟩ := List.mem_map.1 hg
    simp only [mm] at h1 h2
    exact ⟨⟨x, hx, by omega, by omega⟩, ⟨y, hy, by omega, by omega⟩⟩
  · rintro ⟨⟨x, hx, h1, h2⟩, ⟨y, hy, h3, h4⟩⟩
    refine ⟨mm x y, List.mem_flatMap.2 ⟨x, hx, List.mem_map.2 ⟨y, hy, rfl⟩⟩, ?_, ?_⟩ <;> (simp only [mm]; omega)
theorem and_bd (p q : List G) (hp : ∀ g ∈ p, Bd g) (hq : ∀ g ∈ q, Bd g) : ∀ g ∈ andL p q, Bd g := by
  intro g hg
  obtain ⟨x, hx, hg⟩ := List.mem_flatMap.1 hg
  obtain ⟨y, hy, rfl⟩ := List.mem_map.1 hg
  obtain ⟨⟨a1, a2⟩, a3, a4⟩ := hp x hx
  obtain ⟨⟨b1, b2⟩, b3, b4⟩ := hq y hy
  refine ⟨⟨?_, ?_⟩, ?_, ?_⟩ <;> (simp only [mm]; omega)
theorem and_len (p q : List G) : (andL p q).length = p.length * q.length := by
  unfold andL
  induction p with
  | nil => simp
  | cons x p ih => rw [List.flatMap_cons, List.length_append, ih, List.length_map, List.length_cons, Nat.succ_mul, Nat.add_comm]
theorem and_take {p q : List G} {k : Nat} {g : G} (h : p[k]? = some g) : andL (p.take (k + 1)) q = andL (p.take k) q ++ q.map (mm g) := by
  unfold andL
  rw [List.take_add_one, h, List.flatMap_append]
  simp
theorem map_take {q : List G} {f : G → G} {m : Nat} {y : G} (h : q[m]? = some y) : (q.take (m + 1)).map f = (q.take m).map f ++ [f y] := by
  rw [List.take_add_one, h, List.map_append]
  rfl
theorem GO.push3 {w : World} {B : Nat} {v : Value} {l : List G} (h : GO w B v l) (g : G) (hn : l.length ≤ 1000000) (hBw : B ≤ w.heap.size) {ops : Array Oper} {rest : List Oper} {o : Oper} {a : Act} {Q : Exit → Act → World → Prop} (hgd : o.guard = none) (sl xo : Operand)
    (ho : o.op = .call { callee := .builtin .append, args := #[sl, xo], argTypes := #[40, 40] }) (hv : a.eval sl = v) {A : Nat} (hx : a.eval xo = .slice (some ⟨A, 0, none⟩) 1 1) (hA : A = w.heap.size)
    (hK : ∀ v' w', GO w' B v' (l ++ [g]) → (∀ w0, Below B w0 w → Below B w0 w') → (∀ k, k < w.heap.size → v.ownBlock ≠ some k → w'.heap[k]? = w.heap[k]?) → (∀ k, k < w.heap.size → v.ownBlock ≠ some k → v'.ownBlock ≠ some k) → wpList Tryz.prog ops Q rest (a.put o.dst v') w') : wpList Tryz.prog ops Q (o :: rest) a (w.alloc (.cells #[.int .i64 g.1, .int .i64 g.2] 55)) := by
  subst hA
  obtain ⟨i0, hi0, hz⟩ := Option.map_eq_some_iff.1 info_gap
  obtain ⟨z1, z2⟩ := Prod.mk.inj hz
  obtain ⟨z2, z3⟩ := Prod.mk.inj z2
  have h1 : GO (w.alloc (.cells #[.int .i64 g.1, .int .i64 g.2] 55)) B v l := h.below ((Below.refl _ _).alloc (Nat.le_refl _) _)
  refine wpList_append_own_at _ hgd sl xo 40 ho B 55 i0 _ 2 16 Tryz.underlying40 hi0 z1 z2 z3 rfl (by decide) v l.length _ hv h1 ⟨w.heap.size, 0, none⟩ 1 1 [.int .i64 g.1, .int .i64 g.2] hx rfl (World.news_of_block (cs := #[.int .i64 g.1, .int .i64 g.2]) (heap_alloc_new w _)) ?_ (by unfold maxLen; omega) (by omega) (by simp; omega) ?_
  · intro q hq
    simp only [List.mem_cons, List.not_mem_nil, or_false] at hq
    rcases hq with rfl | rfl <;> rfl
  intro v' w2 hown2 hg2 _ hat
  refine hK v' w2 ?_ (fun w0 h0 => (h0.alloc hBw _).grown hg2 (by simp; omega) (fun k hk => (h.lt k hk).1)) (fun k hk hne => (hg2.block k (by simp; omega) (fun e => hne e.symm)).trans (heap_alloc_old w _ hk)) (fun k hk hne e => hat.elim (fun h => hne (h ▸ e)) (fun h => by rw [h] at e; have e := Option.some.inj e; simp at e; omega))
  unfold GO
  rw [List.length_append, row_app]
  exact hown2
end Sg
end Go.Proofs.YtflhmoelenmomaaGreatDoor
