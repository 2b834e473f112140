/-
  put: its loop. (printed by gen_EvPv.py)
-/
import Derived.Test.YtflhmoelenmomaaGreatDoorMEvPu
import Derived.Test.YtflhmoelenmomaaGreatDoorMEvLS
namespace Go.Proofs.YtflhmoelenmomaaGreatDoor
open Go.RowKit Go.Lib
namespace Ev
open Rc

/-- what stands behind the first k kids: the row that put has begun -/
structure PW (W wr : World) (S : Nat → Prop) (y t : ByteArray) (k : Int) (s : ByteArray) (ks : List E) (j : Nat) (sv : Value) : Prop where
  below : Below W.heap.size W wr
  obj : wr.heap[W.heap.size + 2]? = some (.cells #[.int .i64 k, .string s, sv] 24 (0, 0))
  res : ∃ u0 u1 u2, wr.heap[W.heap.size + 1]? = some (.cells #[u0, u1, u2] 24 (0, 0))
  box : ∃ sl cap, wr.heap[W.heap.size]? = some (.cells #[.int .i64 k, .string s, .slice sl ks.length cap] 24 (0, 0))
  row : ∃ x1 y1 z1 : Nat → Value, wr.ownsRow (W.heap.size + 3) 24 3 sv j (row3 x1 y1 z1 j) ∧ ∀ (i : Nat) (z : E), i < j → (kidsP y t k s ks)[i]? = some z → RepX wr (fun b => S b ∨ (W.heap.size + 3 ≤ b ∧ b < wr.heap.size ∧ sv.ownBlock ≠ some b)) z (.agg #[x1 i, y1 i, z1 i])
theorem row_keep {W W' : World} {B e size n : Nat} {v : Value} {xs : List Value} (h : W.ownsRow B e size v n xs) (hb : Below W.heap.size W W') : W'.ownsRow B e size v n xs := by
  refine ⟨h.1, h.2.imp id ?_⟩
  rintro ⟨g, cap, cur, rfl, h1, h2, h3⟩
  exact ⟨g, cap, cur, rfl, h1, (hb.block g (Array.getElem?_eq_some_iff.1 h2).1).trans h2, h3⟩
theorem row3_snoc (x y z : Nat → Value) (n : Nat) (a b c : Value) : row3 (fun i => if i = n then a else x i) (fun i => if i = n then b else y i) (fun i => if i = n then c else z i) (n + 1) = row3 x y z n ++ [a, b, c] := by
  unfold row3
  rw [List.range_succ, List.flatMap_append]
  congr 1
  · rw [List.flatMap_def, List.flatMap_def]
    congr 1
    refine List.map_congr_left fun i hi => ?_
    have : ¬ i = n := by have := List.mem_range.1 hi; omega
    simp only [if_neg this]
  · simp
set_option maxHeartbeats 4000000 in
set_option maxRecDepth 100000 in
theorem pw_new (W : World) (S : Nat → Prop) (y t : ByteArray) (k : Int) (s : ByteArray) (ks : List E) (sl : Option Addr) (cap : Nat) (u0 u1 u2 : Value) :
    PW W (((W.alloc (.cells #[.int .i64 k, .string s, .slice sl ks.length cap] 24)).alloc (.cells #[u0, u1, u2] 24)).alloc (.cells #[.int .i64 k, .string s, .slice none 0 0] 24)) S y t k s ks 0 (.slice none 0 0) where
  below := (((Below.refl W.heap.size W).alloc (Nat.le_refl _) _).alloc (by simp) _).alloc (by simp; omega) _
  obj := by
    have := heap_alloc_new ((W.alloc (.cells #[.int .i64 k, .string s, .slice sl ks.length cap] 24)).alloc (.cells #[u0, u1, u2] 24)) (.cells #[.int .i64 k, .string s, .slice none 0 0] 24)
    simpa using this
  res := ⟨u0, u1, u2, (heap_alloc_old _ _ (by simp)).trans (by
    have := heap_alloc_new (W.alloc (.cells #[.int .i64 k, .string s, .slice sl ks.length cap] 24)) (.cells #[u0, u1, u2] 24)
    simpa using this)⟩
  box := ⟨sl, cap, (heap_alloc_old _ _ (by simp; omega)).trans ((heap_alloc_old _ _ (by simp)).trans (heap_alloc_new W _))⟩
  row := ⟨fun _ => undef, fun _ => undef, fun _ => undef, World.ownsRow_nil _ _ _ _, fun i z h _ => absurd h (by omega)⟩
theorem pw_obj4 {W wr w3 w4 : World} {S : Nat → Prop} {y t : ByteArray} {k : Int} {s : ByteArray} {ks : List E} {j : Nat} {sv : Value} (h : PW W wr S y t k s ks j sv) (hb : Below wr.heap.size wr w3) {xs : List Value} (hrow : wr.ownsRow (W.heap.size + 3) 24 3 sv j xs) (hgr : w3.grownBy w4 sv.ownBlock) :
    w4.heap[W.heap.size + 2]? = some (.cells #[.int .i64 k, .string s, sv] 24 (0, 0)) := by
  have hlb : W.heap.size + 2 < wr.heap.size := (Array.getElem?_eq_some_iff.1 h.obj).1
  exact (hgr.block _ (Nat.lt_of_lt_of_le hlb hb.size) (fun e => by have := (hrow.lt _ e.symm).1; omega)).trans ((hb.block _ hlb).trans h.obj)
/-- one kid more -/
theorem pw_push {W wr w3 w4 : World} {S : Nat → Prop} (hS : ∀ b, S b → b < W.heap.size) {y t : ByteArray} {k : Int} {s : ByteArray} {ks : List E} {j : Nat} {sv : Value} (h : PW W wr S y t k s ks j sv) {x1 y1 z1 : Nat → Value} (hrow : wr.ownsRow (W.heap.size + 3) 24 3 sv j (row3 x1 y1 z1 j))
    (hrr : ∀ (i : Nat) (z : E), i < j → (kidsP y t k s ks)[i]? = some z → RepX wr (fun b => S b ∨ (W.heap.size + 3 ≤ b ∧ b < wr.heap.size ∧ sv.ownBlock ≠ some b)) z (.agg #[x1 i, y1 i, z1 i])) (hb : Below wr.heap.size wr w3) {z : E} {v0 v1 v2 : Value} (hz : (kidsP y t k s ks)[j]? = some z)
    (hrep : RepX w3 (fun b => S b ∨ (wr.heap.size ≤ b ∧ b < w3.heap.size)) z (.agg #[v0, v1, v2])) {G c : Nat} (hown : w4.ownsRow (W.heap.size + 3) 24 3 (.slice (some ⟨G, 0, none⟩) (j + 1) c) (j + 1) (row3 x1 y1 z1 j ++ [v0, v1, v2])) (hgr : w3.grownBy w4 sv.ownBlock) (hat : sv.ownBlock = some G ∨ G = w3.heap.size) :
    PW W (w4.setCell ⟨W.heap.size + 2, 2, none⟩ (.slice (some ⟨G, 0, none⟩) (j + 1) c)) S y t k s ks (j + 1) (.slice (some ⟨G, 0, none⟩) (j + 1) c) := by
  have hlb : W.heap.size + 2 < wr.heap.size := (Array.getElem?_eq_some_iff.1 h.obj).1
  have hs3 := hb.size
  have hs4 := hgr.size
  have hne : ∀ b, b < W.heap.size + 3 → sv.ownBlock ≠ some b := fun b hb' e => by have := (hrow.lt b e).1; omega
  have hold : ∀ b, b < wr.heap.size → sv.ownBlock ≠ some b → w4.heap[b]? = wr.heap[b]? := fun b h1 h2 => (hgr.block b (by omega) (fun e => h2 e.symm)).trans (hb.block b h1)
  have hset : ∀ b, b ≠ W.heap.size + 2 → (w4.setCell ⟨W.heap.size + 2, 2, none⟩ (.slice (some ⟨G, 0, none⟩) (j + 1) c)).heap[b]? = w4.heap[b]? := fun b h1 => Below.heap_setCell _ _ _ _ h1
  have hsz : (w4.setCell ⟨W.heap.size + 2, 2, none⟩ (.slice (some ⟨G, 0, none⟩) (j + 1) c)).heap.size = w4.heap.size := by simp
  refine ⟨?_, ?_, ?_, ?_, ?_⟩
  · exact ((h.below.trans (hb.mono h.below.size)).grown hgr (Nat.le_trans h.below.size hb.size) (fun b e => by have := (hrow.lt b e).1; omega)).setCell (p := ⟨W.heap.size + 2, 2, none⟩) (by show W.heap.size ≤ W.heap.size + 2; omega) _
  · have h1 := heap_setCell_same w4 (W.heap.size + 2) 2 _ _ (.slice (some ⟨G, 0, none⟩) (j + 1) c) (pw_obj4 h hb hrow hgr)
    simp only [List.setIfInBounds_toArray, List.set_cons_succ, List.set_cons_zero] at h1
    exact h1
  · obtain ⟨u0, u1, u2, hR⟩ := h.res
    exact ⟨u0, u1, u2, (hset _ (by omega)).trans ((hold _ (by omega) (hne _ (by omega))).trans hR)⟩
  · obtain ⟨sl, cap, hB⟩ := h.box
    exact ⟨sl, cap, (hset _ (by omega)).trans ((hold _ (by omega) (hne _ (by omega))).trans hB)⟩
  · refine ⟨fun i => if i = j then v0 else x1 i, fun i => if i = j then v1 else y1 i, fun i => if i = j then v2 else z1 i, ?_, fun i z' hi hz' => ?_⟩
    · rw [row3_snoc]
      exact ownsRow_setCell_below hown (a := ⟨W.heap.size + 2, 2, none⟩) (by show W.heap.size + 2 < W.heap.size + 3; omega) _
    · by_cases hij : i = j
      · subst hij
        rw [hz] at hz'
        cases hz'
        simp only [if_pos]
        refine hrep.move fun b hb' => ?_
        rcases hb' with hb' | ⟨h1, h2⟩
        · have := hS b hb'
          exact ⟨.inl hb', (hset b (by omega)).trans (hgr.block b (by omega) (fun e => hne b (by omega) e.symm))⟩
        · have hno : sv.ownBlock ≠ some b := fun e => by have := (hrow.lt b e).2; omega
          refine ⟨.inr ⟨by omega, by omega, ?_⟩, (hset b (by omega)).trans (hgr.block b h2 (fun e => hno e.symm))⟩
          intro e
          have e' : G = b := Option.some.inj e
          rcases hat with hat | hat
          · exact hno (e' ▸ hat)
          · omega
      · simp only [if_neg hij]
        refine (hrr i z' (by omega) hz').move fun b hb' => ?_
        rcases hb' with hb' | ⟨h1, h2, h3⟩
        · have := hS b hb'
          exact ⟨.inl hb', (hset b (by omega)).trans (hold b (by omega) (hne b (by omega)))⟩
        · refine ⟨.inr ⟨h1, by omega, ?_⟩, (hset b (by omega)).trans (hold b h2 h3)⟩
          intro e
          have e' : G = b := Option.some.inj e
          rcases hat with hat | hat
          · exact h3 (e' ▸ hat)
          · omega
/-- behind the last kid -/
theorem pw_rep {W wr : World} {S : Nat → Prop} {y t : ByteArray} {k : Int} {s : ByteArray} {ks : List E} {sv : Value} (h : PW W wr S y t k s ks ks.length sv) : RepX wr (fun b => S b ∨ (W.heap.size + 3 ≤ b ∧ b < wr.heap.size)) (.mk k s (kidsP y t k s ks)) (.agg #[.int .i64 k, .string s, sv]) := by
  obtain ⟨x1, y1, z1, hrow, hr0⟩ := h.row
  have hr : ∀ (i : Nat) (z : E), i < ks.length → (kidsP y t k s ks)[i]? = some z → RepX wr (fun b => S b ∨ (W.heap.size + 3 ≤ b ∧ b < wr.heap.size)) z (.agg #[x1 i, y1 i, z1 i]) := fun i z hi hz => (hr0 i z hi hz).sub fun b hb => hb.imp id fun h => ⟨h.1, h.2.1⟩
  have hlen := kidsP_len y t k s ks
  rcases Nat.eq_zero_or_pos ks.length with h0 | h0
  · have e : kidsP y t k s ks = [] := List.length_eq_zero_iff.1 (by rw [hlen]; exact h0)
    rw [e]
    rw [h0] at hrow
    rcases hrow.2 with ⟨rfl, -⟩ | ⟨g, cap, cur, rfl, -⟩
    · exact RepX.leaf _ _ _ _
    · exact RepX.mk (W := wr) (S := fun b => S b ∨ (W.heap.size + 3 ≤ b ∧ b < wr.heap.size)) k s [] (some ⟨g, 0, none⟩) cap (fun _ => undef) (fun _ => undef) (fun _ => undef) (Nat.zero_le _) (fun i u hu => by simp at hu) (fun i u hu => by simp at hu)
  · obtain ⟨g, cap, rfl, hgb, hlt⟩ := hrow.form h0
    have hcap : ks.length ≤ cap := own_cap hrow
    have hm := RepX.mk (W := wr) (S := fun b => S b ∨ (W.heap.size + 3 ≤ b ∧ b < wr.heap.size)) k s (kidsP y t k s ks) (some ⟨g, 0, none⟩) cap x1 y1 z1 (by rw [hlen]; exact hcap) (fun i u hu => by
      have hi := (List.getElem?_eq_some_iff.1 hu).1
      rw [hlen] at hi
      obtain ⟨h1, h2, h3⟩ := row3_at x1 y1 z1 ks.length i hi
      have hadd : ∀ n, (⟨g, 0, none⟩ : Addr).add n = ⟨g, n, none⟩ := fun n => by unfold Addr.add; split <;> simp_all
      have k1 := hrow.cells (g := g) rfl _ _ h1
      have k2 := hrow.cells (g := g) rfl _ _ h2
      have k3 := hrow.cells (g := g) rfl _ _ h3
      rw [hadd] at k1 k2 k3
      exact ⟨g, 0, rfl, .inr ⟨hgb, hlt⟩, by rw [Nat.zero_add]; exact k1, by rw [Nat.zero_add]; exact k2, by rw [Nat.zero_add]; exact k3⟩)
      (fun i u hu => hr i u (by have hi := (List.getElem?_eq_some_iff.1 hu).1; rwa [hlen] at hi) hu)
    rw [hlen] at hm
    exact hm
set_option maxHeartbeats 8000000 in
set_option maxRecDepth 100000 in
theorem put_k {k : Int} {s y : ByteArray} {ks : List E} (hk : k ≠ 2) (hlen : ks.length ≤ 20000) (W : World) (S : Nat → Prop) (hS : ∀ b, S b → b < W.heap.size) (t : ByteArray) (sl : Option Addr) (cap : Nat) (x0 y0 z0 : Nat → Value)
    (hc : ∀ i u, ks[i]? = some u → ∃ b o, sl = some ⟨b, o, none⟩ ∧ S b ∧ W.cell? ⟨b, o + i * 3, none⟩ = some (x0 i) ∧ W.cell? ⟨b, o + i * 3 + 1, none⟩ = some (y0 i) ∧ W.cell? ⟨b, o + i * 3 + 2, none⟩ = some (z0 i)) (hr : ∀ i u, ks[i]? = some u → RepX W S u (.agg #[x0 i, y0 i, z0 i]))
    (ih : ∀ u ∈ ks, ∀ (W : World) (S : Nat → Prop) (v : Value), (∀ b, S b → b < W.heap.size) → RepX W S u v → Calls Tryz.prog 19 #[v, .string y, .string t] W (PutA W S u y t)) :
    Calls Tryz.prog 19 #[.agg #[.int .i64 k, .string s, .slice sl ks.length cap], .string y, .string t] W (PutA W S (.mk k s ks) y t) := by
  obtain ⟨i0, hi0, hz0, hz1, hz2⟩ := info_ps info_expr
  have j1 : (k == 2) = false := beq_eq_false_iff_ne.2 hk
  have hp := pw_new W S y t k s ks sl cap (.int .i64 0) (.string ⟨#[]⟩) (.slice none 0 0)
  have HP := Lib.hid hp
  have HK := Lib.hid (show ¬ ((k : Int) = 2 ∧ s = y) from fun e => hk e.1)
  have HS := Lib.hid hS
  have HC := Lib.hid hc
  have HRK := Lib.hid hr
  have HIH := Lib.hid ih
  have HLEN := Lib.hid hlen
  clear hp hS hc hr ih hlen hk
  go_enter Tryz.func19, Tryz.ntmps19
  go_wp2_with fail
  go_loopw [29] (fun i wr => ∃ (j : Nat) (sv : Value), j ≤ ks.length ∧ i = .int .i64 (j : Int) ∧ PW W wr S y t k s ks j sv) (fun i _ => ks.length - (RowKit.intOf i).toNat)
  case atStart => exact ⟨0, _, Nat.zero_le _, rfl, HP.out⟩
  case round =>
    obtain ⟨j, sv, hj, rfl, hP⟩ := hrel
    by_cases hlt : j < ks.length
    · obtain ⟨u, hu⟩ : ∃ u, ks[j]? = some u := ⟨ks[j], List.getElem?_eq_getElem hlt⟩
      obtain ⟨b, o, e1, hSb, a0, a1, a2⟩ := HC.out j u hu
      subst e1
      have hru := HRK.out j u hu
      obtain ⟨kd, σ, sl', m', cap', hv⟩ := hru.vals
      have hv1 := congrArg (fun v => match v with | .agg a => a.toList | _ => []) hv
      simp at hv1
      obtain ⟨hx1, hy1, hz1'⟩ := hv1
      rw [hv] at hru
      rw [hx1] at a0
      rw [hy1] at a1
      rw [hz1'] at a2
      have hbl : b < W.heap.size := HS.out b hSb
      have g0 := (hP.below.cell (p := ⟨b, o + j * 3, none⟩) hbl).trans a0
      have g1 := (hP.below.cell (p := ⟨b, o + j * 3 + 1, none⟩) hbl).trans a1
      have g2 := (hP.below.cell (p := ⟨b, o + j * 3 + 2, none⟩) hbl).trans a2
      obtain ⟨slb, capb, hbox⟩ := hP.box
      obtain ⟨x1, y1, z1, hrow, hrr⟩ := hP.row
      obtain ⟨sa, sn, sc, rfl⟩ : ∃ sa sn sc, sv = .slice sa sn sc := by
        rcases hrow.2 with ⟨rfl, _⟩ | ⟨g, cap, cur, rfl, _⟩ <;> exact ⟨_, _, _, rfl⟩
      have hlb : W.heap.size + 2 < wr.heap.size := (Array.getElem?_eq_some_iff.1 hP.obj).1
      have HPP := Lib.hid (And.intro hP hru)
      have HROW := Lib.hid (And.intro hrow hrr)
      have HU := Lib.hid hu
      have hkg := kidsP_get y t k s ks j
      rw [hu, Option.map_some] at hkg
      have hbox2 := (heap_alloc_old wr (.cells #[.int .i64 kd, .string σ, .slice sl' m' cap'] 24) (show W.heap.size < wr.heap.size by omega)).trans hbox
      obtain ⟨c0, c1, c2, -, -, -⟩ := obj3 hbox2
      clear hru hv hx1 hy1 hz1' a0 a1 a2 hP hrow hrr hu hbox hbox2 hSb
      by_cases hk5 : k = 5
      · subst hk5
        by_cases hsy : s = y
        · have i1 : (s.toList == y.toList) = true := by rw [seq_iff]; exact decide_eq_true hsy
          by_cases hj1 : j = 1
          · subst hj1
            rw [if_pos ⟨⟨rfl, hsy⟩, rfl⟩] at hkg
            have HKG := Lib.hid hkg
            clear hkg hsy
            have hA := (Below.refl wr.heap.size wr).alloc (Nat.le_refl _) (.cells #[.int .i64 kd, .string σ, .slice sl' m' cap'] 24)
            have hX := heap_alloc_new wr (.cells #[.int .i64 kd, .string σ, .slice sl' m' cap'] 24)
            have hO1 := (heap_alloc_old wr (.cells #[.int .i64 kd, .string σ, .slice sl' m' cap'] 24) (show W.heap.size + 2 < wr.heap.size by omega)).trans HPP.out.1.obj
            have hb3 := hA.alloc hA.size (.cells #[.int .i64 kd, .string σ, .slice sl' m' cap'] 24)
            have hrow3 := row_keep HROW.out.1 hb3
            have hr3 : RepX ((wr.alloc (.cells #[.int .i64 kd, .string σ, .slice sl' m' cap'] 24)).alloc (.cells #[.int .i64 kd, .string σ, .slice sl' m' cap'] 24)) (fun b => S b ∨ (wr.heap.size ≤ b ∧ b < ((wr.alloc (.cells #[.int .i64 kd, .string σ, .slice sl' m' cap'] 24)).alloc (.cells #[.int .i64 kd, .string σ, .slice sl' m' cap'] 24)).heap.size)) u (.agg #[.int .i64 kd, .string σ, .slice sl' m' cap']) := HPP.out.2.move fun b hb => ⟨.inl hb, (HPP.out.1.below.trans (hb3.mono HPP.out.1.below.size)).block b (HS.out b hb)⟩
            obtain ⟨o0, o1, o2, -, -, -⟩ := obj3 hO1
            have HR3 := Lib.hid (And.intro hr3 (And.intro hrow3 hb3))
            have hk4 : ks.length ≤ 20000 := HLEN.out
            clear hr3 hrow3 hb3 hA hX hO1
            go_wp2_with (first
              | (at_builtin; refine wpList_append_lies _ rfl _ _ 22 rfl (W.heap.size + 3) 24 i0 _ 3 48 Tryz.underlying22 hi0 hz0 hz1 hz2 rfl (by decide) (.slice sa sn sc) 1 _ rfl HR3.out.2.1 ⟨wr.heap.size + 1, 0, none⟩ 1 1 [.int .i64 kd, .string σ, .slice sl' m' cap'] rfl rfl ?d1 (by intro u hu; simp at hu; rcases hu with rfl | rfl | rfl <;> rfl) (by decide) ?d3 ?d4 ?d5 (wr.heap.size + 2) (by simp) ?_))
            case d1 => exact World.news_of_block (by have := heap_alloc_new (wr.alloc (.cells #[.int .i64 kd, .string σ, .slice sl' m' cap'] 24)) (.cells #[.int .i64 kd, .string σ, .slice sl' m' cap'] 24); simpa using this)
            case d3 => unfold maxLen; omega
            case d4 => have := HLEN.out; omega
            case d5 => have := HPP.out.1.below.size; simp; omega
            intro G c w4 hown2 hgr hat hlt2
            have hPn := pw_push HS.out HPP.out.1 HROW.out.1 HROW.out.2 HR3.out.2.2 HKG.out HR3.out.1 hown2 hgr (by simpa using hat)
            obtain ⟨a0, a1, a2, a3, a4, a5⟩ := obj3 (pw_obj4 HPP.out.1 HR3.out.2.2 HROW.out.1 hgr)
            have HPN := Lib.hid hPn
            clear hPn hown2 hgr hat hlt2
            go_wp2_with fail
            refine ⟨⟨1 + 1, _, hlt, by push_cast; rfl, HPN.out⟩, ?_⟩
            simp only [RowKit.intOf]
            omega
          · have j1' : ((j : Int) == 1) = false := beq_eq_false_iff_ne.2 (by omega)
            rw [if_neg (fun e => hj1 e.2)] at hkg
            have HKG := Lib.hid hkg
            clear hkg hsy hj1
            have hA := (Below.refl wr.heap.size wr).alloc (Nat.le_refl _) (.cells #[.int .i64 kd, .string σ, .slice sl' m' cap'] 24)
            have hX := heap_alloc_new wr (.cells #[.int .i64 kd, .string σ, .slice sl' m' cap'] 24)
            have hsz : (wr.alloc (.cells #[.int .i64 kd, .string σ, .slice sl' m' cap'] 24)).heap.size = wr.heap.size + 1 := by simp
            have hcall := Lib.hid (fun (w : World) (hb : Below wr.heap.size wr w) => HIH.out u (List.mem_of_getElem? HU.out) w S _ (fun b hb' => by have := HS.out b hb'; have := hb.size; have := HPP.out.1.below.size; omega) (HPP.out.2.move (S' := S) fun b hb' => ⟨hb', (HPP.out.1.below.trans (hb.mono HPP.out.1.below.size)).block b (HS.out b hb')⟩))
            go_wp2_with fail
            clear c0 c1 c2 g0 g1 g2
            have hO1 := (heap_alloc_old wr (.cells #[.int .i64 kd, .string σ, .slice sl' m' cap'] 24) (show W.heap.size + 2 < wr.heap.size by omega)).trans HPP.out.1.obj
            generalize wr.alloc (.cells #[.int .i64 kd, .string σ, .slice sl' m' cap'] 24) = wA at *
            obtain ⟨o0, o1, o2, -, -, -⟩ := obj3 hO1
            obtain ⟨x0', x1', x2', -, -, -⟩ := obj3 hX
            have e0 := Kp.cell (w := wA) (K := fun k => k = W.heap.size + 2 ∨ k = wr.heap.size) (a := ⟨W.heap.size + 2, 2, none⟩) (.inl rfl) o2
            have e1 := Kp.cell (w := wA) (K := fun k => k = W.heap.size + 2 ∨ k = wr.heap.size) (a := ⟨wr.heap.size, 0, none⟩) (.inr rfl) x0'
            have e2 := Kp.cell (w := wA) (K := fun k => k = W.heap.size + 2 ∨ k = wr.heap.size) (a := ⟨wr.heap.size, 1, none⟩) (.inr rfl) x1'
            have e3 := Kp.cell (w := wA) (K := fun k => k = W.heap.size + 2 ∨ k = wr.heap.size) (a := ⟨wr.heap.size, 2, none⟩) (.inr rfl) x2'
            clear o0 o1 o2 x0' x1' x2'
            refine Mix.region (fun w' => ∃ Y, w' = Kp.kp wA (fun k => k = W.heap.size + 2 ∨ k = wr.heap.size) Y) 8 [0, 0, 0, 0, 0, 1, 1, 1, 9, 9] [true, false] (by kernel_rfl) (fun _ _ d _ _ h => by cases d <;> exact h) (by rfl) (by kernel_rfl) (Kp.of fun _ _ => rfl) ?_
            simp only [Mix.selP_cons, Mix.selP_nil, Mix.sel_cons, Mix.sel_nil, Nat.reduceBEq, Nat.reduceAdd, cond_true, cond_false, List.drop_succ_cons, List.drop_zero]
            refine Mix.parts_q ?_
            repeat (go_big_quiet_step (fail))
            refine wpQuiet_nil ?_
            refine Mix.parts_e ?_
            refine Mix.eff_step (fun K hK => ?_)
            go_simp
            refine (hcall.out _ hA.drew).mono ?_
            rintro e w2 ⟨v2, rfl, hr2, hB2⟩
            obtain ⟨k2, s2, l2, n2, m2, hv2⟩ := hr2.vals
            subst hv2
            have hb2 : Below wr.heap.size wr w2 := hA.drew.trans (hB2.mono hA.drew.size)
            have hz2' : wr.heap.size < w2.heap.size := by have := hB2.size; have : wA.drew.heap.size = wr.heap.size + 1 := hsz; omega
            have hK2 : ∀ k, k = W.heap.size + 2 ∨ k = wr.heap.size → w2.heap[k]? = wA.heap[k]? := fun k hk => hB2.block k (by have : wA.drew.heap.size = wr.heap.size + 1 := hsz; rcases hk with rfl | rfl <;> omega)
            refine hK _ _ (Kp.of hK2) ?_
            clear hK K e0 e1 e2 e3
            refine Mix.eff_step (fun K hK => ?_)
            go_simp
            refine hK _ _ (Kp.of fun k hk => (heap_alloc_old w2 _ (by rcases hk with rfl | rfl <;> omega)).trans (hK2 k hk)) ?_
            clear hK K
            have hb3 := hb2.alloc hb2.size (.cells #[.int .i64 k2, .string s2, .slice l2 n2 m2] 24)
            have hrow3 : (w2.alloc (.cells #[.int .i64 k2, .string s2, .slice l2 n2 m2] 24)).ownsRow (W.heap.size + 3) 24 3 (.slice sa sn sc) j (row3 x1 y1 z1 j) := row_keep HROW.out.1 hb3
            have hr3 : RepX (w2.alloc (.cells #[.int .i64 k2, .string s2, .slice l2 n2 m2] 24)) (fun b => S b ∨ (wr.heap.size ≤ b ∧ b < (w2.alloc (.cells #[.int .i64 k2, .string s2, .slice l2 n2 m2] 24)).heap.size)) (putE y t u) (.agg #[.int .i64 k2, .string s2, .slice l2 n2 m2]) := hr2.move fun b hb => by
              have hs1 : wA.drew.heap.size = wr.heap.size + 1 := hsz
              have hs2 : (w2.alloc (.cells #[.int .i64 k2, .string s2, .slice l2 n2 m2] 24)).heap.size = w2.heap.size + 1 := by simp
              rcases hb with hb | ⟨h1, h2⟩
              · exact ⟨.inl hb, heap_alloc_old w2 _ (by have := HS.out b hb; omega)⟩
              · exact ⟨.inr ⟨by omega, by omega⟩, heap_alloc_old w2 _ h2⟩
            have HR3 := Lib.hid (And.intro hr3 (And.intro hrow3 hb3))
            have HK2 := Lib.hid hK2
            have HZ2 := Lib.hid hz2'
            have hk4 : j < 20000 := by have := HLEN.out; omega
            clear hr3 hrow3 hb3 hK2 hr2 hb2 hB2
            refine Mix.eff_step (fun K hK => ?_)
            refine step_append_lies _ rfl _ _ 22 rfl (W.heap.size + 3) 24 i0 _ 3 48 Tryz.underlying22 hi0 hz0 hz1 hz2 rfl (by decide) (.slice sa sn sc) j _ rfl HR3.out.2.1 ⟨w2.heap.size, 0, none⟩ 1 1 [.int .i64 k2, .string s2, .slice l2 n2 m2] rfl rfl (World.news_of_block (heap_alloc_new w2 _)) (by intro u hu; simp at hu; rcases hu with rfl | rfl | rfl <;> rfl) (by decide) ?d3 ?d4 ?d5 (w2.heap.size + 1) (by simp) ?_
            case d3 => unfold maxLen; omega
            case d4 => have := HLEN.out; omega
            case d5 => have := HPP.out.1.below.size; have := HZ2.out; simp; omega
            intro G c w4 hown2 hgr hat hlt2
            have hPn := pw_push HS.out HPP.out.1 HROW.out.1 HROW.out.2 HR3.out.2.2 HKG.out HR3.out.1 hown2 hgr (by simpa using hat)
            refine hK _ _ (Kp.of fun k hk => (hgr.block k (by have := HZ2.out; simp; rcases hk with rfl | rfl <;> omega) (fun e => by have := HROW.out.1.lt k e.symm; rcases hk with rfl | rfl <;> omega)).trans ((heap_alloc_old w2 _ (by have := HZ2.out; rcases hk with rfl | rfl <;> omega)).trans (HK2.out k hk))) ?_
            clear hK K
            obtain ⟨a0, a1, a2, a3, a4, a5⟩ := obj3 (pw_obj4 HPP.out.1 HR3.out.2.2 HROW.out.1 hgr)
            have HPN := Lib.hid hPn
            clear hPn hown2 hgr hat hlt2
            refine Mix.eff_nil (Mix.parts_n ?_)
            go_wp2_with fail
            refine ⟨⟨j + 1, _, hlt, by push_cast; rfl, HPN.out⟩, ?_⟩
            simp only [RowKit.intOf]
            omega
        · have i1 : (s.toList == y.toList) = false := by rw [seq_iff]; exact decide_eq_false hsy
          rw [if_neg (fun e => hsy e.1.2)] at hkg
          have HKG := Lib.hid hkg
          clear hkg hsy
          have hA := (Below.refl wr.heap.size wr).alloc (Nat.le_refl _) (.cells #[.int .i64 kd, .string σ, .slice sl' m' cap'] 24)
          have hX := heap_alloc_new wr (.cells #[.int .i64 kd, .string σ, .slice sl' m' cap'] 24)
          have hsz : (wr.alloc (.cells #[.int .i64 kd, .string σ, .slice sl' m' cap'] 24)).heap.size = wr.heap.size + 1 := by simp
          have hcall := Lib.hid (fun (w : World) (hb : Below wr.heap.size wr w) => HIH.out u (List.mem_of_getElem? HU.out) w S _ (fun b hb' => by have := HS.out b hb'; have := hb.size; have := HPP.out.1.below.size; omega) (HPP.out.2.move (S' := S) fun b hb' => ⟨hb', (HPP.out.1.below.trans (hb.mono HPP.out.1.below.size)).block b (HS.out b hb')⟩))
          go_wp2_with fail
          clear c0 c1 c2 g0 g1 g2
          have hO1 := (heap_alloc_old wr (.cells #[.int .i64 kd, .string σ, .slice sl' m' cap'] 24) (show W.heap.size + 2 < wr.heap.size by omega)).trans HPP.out.1.obj
          generalize wr.alloc (.cells #[.int .i64 kd, .string σ, .slice sl' m' cap'] 24) = wA at *
          obtain ⟨o0, o1, o2, -, -, -⟩ := obj3 hO1
          obtain ⟨x0', x1', x2', -, -, -⟩ := obj3 hX
          have e0 := Kp.cell (w := wA) (K := fun k => k = W.heap.size + 2 ∨ k = wr.heap.size) (a := ⟨W.heap.size + 2, 2, none⟩) (.inl rfl) o2
          have e1 := Kp.cell (w := wA) (K := fun k => k = W.heap.size + 2 ∨ k = wr.heap.size) (a := ⟨wr.heap.size, 0, none⟩) (.inr rfl) x0'
          have e2 := Kp.cell (w := wA) (K := fun k => k = W.heap.size + 2 ∨ k = wr.heap.size) (a := ⟨wr.heap.size, 1, none⟩) (.inr rfl) x1'
          have e3 := Kp.cell (w := wA) (K := fun k => k = W.heap.size + 2 ∨ k = wr.heap.size) (a := ⟨wr.heap.size, 2, none⟩) (.inr rfl) x2'
          clear o0 o1 o2 x0' x1' x2'
          refine Mix.region (fun w' => ∃ Y, w' = Kp.kp wA (fun k => k = W.heap.size + 2 ∨ k = wr.heap.size) Y) 8 [0, 0, 0, 0, 0, 1, 1, 1, 9, 9] [true, false] (by kernel_rfl) (fun _ _ d _ _ h => by cases d <;> exact h) (by rfl) (by kernel_rfl) (Kp.of fun _ _ => rfl) ?_
          simp only [Mix.selP_cons, Mix.selP_nil, Mix.sel_cons, Mix.sel_nil, Nat.reduceBEq, Nat.reduceAdd, cond_true, cond_false, List.drop_succ_cons, List.drop_zero]
          refine Mix.parts_q ?_
          repeat (go_big_quiet_step (fail))
          refine wpQuiet_nil ?_
          refine Mix.parts_e ?_
          refine Mix.eff_step (fun K hK => ?_)
          go_simp
          refine (hcall.out _ hA.drew).mono ?_
          rintro e w2 ⟨v2, rfl, hr2, hB2⟩
          obtain ⟨k2, s2, l2, n2, m2, hv2⟩ := hr2.vals
          subst hv2
          have hb2 : Below wr.heap.size wr w2 := hA.drew.trans (hB2.mono hA.drew.size)
          have hz2' : wr.heap.size < w2.heap.size := by have := hB2.size; have : wA.drew.heap.size = wr.heap.size + 1 := hsz; omega
          have hK2 : ∀ k, k = W.heap.size + 2 ∨ k = wr.heap.size → w2.heap[k]? = wA.heap[k]? := fun k hk => hB2.block k (by have : wA.drew.heap.size = wr.heap.size + 1 := hsz; rcases hk with rfl | rfl <;> omega)
          refine hK _ _ (Kp.of hK2) ?_
          clear hK K e0 e1 e2 e3
          refine Mix.eff_step (fun K hK => ?_)
          go_simp
          refine hK _ _ (Kp.of fun k hk => (heap_alloc_old w2 _ (by rcases hk with rfl | rfl <;> omega)).trans (hK2 k hk)) ?_
          clear hK K
          have hb3 := hb2.alloc hb2.size (.cells #[.int .i64 k2, .string s2, .slice l2 n2 m2] 24)
          have hrow3 : (w2.alloc (.cells #[.int .i64 k2, .string s2, .slice l2 n2 m2] 24)).ownsRow (W.heap.size + 3) 24 3 (.slice sa sn sc) j (row3 x1 y1 z1 j) := row_keep HROW.out.1 hb3
          have hr3 : RepX (w2.alloc (.cells #[.int .i64 k2, .string s2, .slice l2 n2 m2] 24)) (fun b => S b ∨ (wr.heap.size ≤ b ∧ b < (w2.alloc (.cells #[.int .i64 k2, .string s2, .slice l2 n2 m2] 24)).heap.size)) (putE y t u) (.agg #[.int .i64 k2, .string s2, .slice l2 n2 m2]) := hr2.move fun b hb => by
            have hs1 : wA.drew.heap.size = wr.heap.size + 1 := hsz
            have hs2 : (w2.alloc (.cells #[.int .i64 k2, .string s2, .slice l2 n2 m2] 24)).heap.size = w2.heap.size + 1 := by simp
            rcases hb with hb | ⟨h1, h2⟩
            · exact ⟨.inl hb, heap_alloc_old w2 _ (by have := HS.out b hb; omega)⟩
            · exact ⟨.inr ⟨by omega, by omega⟩, heap_alloc_old w2 _ h2⟩
          have HR3 := Lib.hid (And.intro hr3 (And.intro hrow3 hb3))
          have HK2 := Lib.hid hK2
          have HZ2 := Lib.hid hz2'
          have hk4 : j < 20000 := by have := HLEN.out; omega
          clear hr3 hrow3 hb3 hK2 hr2 hb2 hB2
          refine Mix.eff_step (fun K hK => ?_)
          refine step_append_lies _ rfl _ _ 22 rfl (W.heap.size + 3) 24 i0 _ 3 48 Tryz.underlying22 hi0 hz0 hz1 hz2 rfl (by decide) (.slice sa sn sc) j _ rfl HR3.out.2.1 ⟨w2.heap.size, 0, none⟩ 1 1 [.int .i64 k2, .string s2, .slice l2 n2 m2] rfl rfl (World.news_of_block (heap_alloc_new w2 _)) (by intro u hu; simp at hu; rcases hu with rfl | rfl | rfl <;> rfl) (by decide) ?d3 ?d4 ?d5 (w2.heap.size + 1) (by simp) ?_
          case d3 => unfold maxLen; omega
          case d4 => have := HLEN.out; omega
          case d5 => have := HPP.out.1.below.size; have := HZ2.out; simp; omega
          intro G c w4 hown2 hgr hat hlt2
          have hPn := pw_push HS.out HPP.out.1 HROW.out.1 HROW.out.2 HR3.out.2.2 HKG.out HR3.out.1 hown2 hgr (by simpa using hat)
          refine hK _ _ (Kp.of fun k hk => (hgr.block k (by have := HZ2.out; simp; rcases hk with rfl | rfl <;> omega) (fun e => by have := HROW.out.1.lt k e.symm; rcases hk with rfl | rfl <;> omega)).trans ((heap_alloc_old w2 _ (by have := HZ2.out; rcases hk with rfl | rfl <;> omega)).trans (HK2.out k hk))) ?_
          clear hK K
          obtain ⟨a0, a1, a2, a3, a4, a5⟩ := obj3 (pw_obj4 HPP.out.1 HR3.out.2.2 HROW.out.1 hgr)
          have HPN := Lib.hid hPn
          clear hPn hown2 hgr hat hlt2
          refine Mix.eff_nil (Mix.parts_n ?_)
          go_wp2_with fail
          refine ⟨⟨j + 1, _, hlt, by push_cast; rfl, HPN.out⟩, ?_⟩
          simp only [RowKit.intOf]
          omega
      · have j5 : (k == 5) = false := beq_eq_false_iff_ne.2 hk5
        rw [if_neg (fun e => hk5 e.1.1)] at hkg
        have HKG := Lib.hid hkg
        clear hkg hk5
        have hA := (Below.refl wr.heap.size wr).alloc (Nat.le_refl _) (.cells #[.int .i64 kd, .string σ, .slice sl' m' cap'] 24)
        have hX := heap_alloc_new wr (.cells #[.int .i64 kd, .string σ, .slice sl' m' cap'] 24)
        have hsz : (wr.alloc (.cells #[.int .i64 kd, .string σ, .slice sl' m' cap'] 24)).heap.size = wr.heap.size + 1 := by simp
        have hcall := Lib.hid (fun (w : World) (hb : Below wr.heap.size wr w) => HIH.out u (List.mem_of_getElem? HU.out) w S _ (fun b hb' => by have := HS.out b hb'; have := hb.size; have := HPP.out.1.below.size; omega) (HPP.out.2.move (S' := S) fun b hb' => ⟨hb', (HPP.out.1.below.trans (hb.mono HPP.out.1.below.size)).block b (HS.out b hb')⟩))
        go_wp2_with fail
        clear c0 c1 c2 g0 g1 g2
        have hO1 := (heap_alloc_old wr (.cells #[.int .i64 kd, .string σ, .slice sl' m' cap'] 24) (show W.heap.size + 2 < wr.heap.size by omega)).trans HPP.out.1.obj
        generalize wr.alloc (.cells #[.int .i64 kd, .string σ, .slice sl' m' cap'] 24) = wA at *
        obtain ⟨o0, o1, o2, -, -, -⟩ := obj3 hO1
        obtain ⟨x0', x1', x2', -, -, -⟩ := obj3 hX
        have e0 := Kp.cell (w := wA) (K := fun k => k = W.heap.size + 2 ∨ k = wr.heap.size) (a := ⟨W.heap.size + 2, 2, none⟩) (.inl rfl) o2
        have e1 := Kp.cell (w := wA) (K := fun k => k = W.heap.size + 2 ∨ k = wr.heap.size) (a := ⟨wr.heap.size, 0, none⟩) (.inr rfl) x0'
        have e2 := Kp.cell (w := wA) (K := fun k => k = W.heap.size + 2 ∨ k = wr.heap.size) (a := ⟨wr.heap.size, 1, none⟩) (.inr rfl) x1'
        have e3 := Kp.cell (w := wA) (K := fun k => k = W.heap.size + 2 ∨ k = wr.heap.size) (a := ⟨wr.heap.size, 2, none⟩) (.inr rfl) x2'
        clear o0 o1 o2 x0' x1' x2'
        refine Mix.region (fun w' => ∃ Y, w' = Kp.kp wA (fun k => k = W.heap.size + 2 ∨ k = wr.heap.size) Y) 8 [0, 0, 0, 0, 0, 1, 1, 1, 9, 9] [true, false] (by kernel_rfl) (fun _ _ d _ _ h => by cases d <;> exact h) (by rfl) (by kernel_rfl) (Kp.of fun _ _ => rfl) ?_
        simp only [Mix.selP_cons, Mix.selP_nil, Mix.sel_cons, Mix.sel_nil, Nat.reduceBEq, Nat.reduceAdd, cond_true, cond_false, List.drop_succ_cons, List.drop_zero]
        refine Mix.parts_q ?_
        repeat (go_big_quiet_step (fail))
        refine wpQuiet_nil ?_
        refine Mix.parts_e ?_
        refine Mix.eff_step (fun K hK => ?_)
        go_simp
        refine (hcall.out _ hA.drew).mono ?_
        rintro e w2 ⟨v2, rfl, hr2, hB2⟩
        obtain ⟨k2, s2, l2, n2, m2, hv2⟩ := hr2.vals
        subst hv2
        have hb2 : Below wr.heap.size wr w2 := hA.drew.trans (hB2.mono hA.drew.size)
        have hz2' : wr.heap.size < w2.heap.size := by have := hB2.size; have : wA.drew.heap.size = wr.heap.size + 1 := hsz; omega
        have hK2 : ∀ k, k = W.heap.size + 2 ∨ k = wr.heap.size → w2.heap[k]? = wA.heap[k]? := fun k hk => hB2.block k (by have : wA.drew.heap.size = wr.heap.size + 1 := hsz; rcases hk with rfl | rfl <;> omega)
        refine hK _ _ (Kp.of hK2) ?_
        clear hK K e0 e1 e2 e3
        refine Mix.eff_step (fun K hK => ?_)
        go_simp
        refine hK _ _ (Kp.of fun k hk => (heap_alloc_old w2 _ (by rcases hk with rfl | rfl <;> omega)).trans (hK2 k hk)) ?_
        clear hK K
        have hb3 := hb2.alloc hb2.size (.cells #[.int .i64 k2, .string s2, .slice l2 n2 m2] 24)
        have hrow3 : (w2.alloc (.cells #[.int .i64 k2, .string s2, .slice l2 n2 m2] 24)).ownsRow (W.heap.size + 3) 24 3 (.slice sa sn sc) j (row3 x1 y1 z1 j) := row_keep HROW.out.1 hb3
        have hr3 : RepX (w2.alloc (.cells #[.int .i64 k2, .string s2, .slice l2 n2 m2] 24)) (fun b => S b ∨ (wr.heap.size ≤ b ∧ b < (w2.alloc (.cells #[.int .i64 k2, .string s2, .slice l2 n2 m2] 24)).heap.size)) (putE y t u) (.agg #[.int .i64 k2, .string s2, .slice l2 n2 m2]) := hr2.move fun b hb => by
          have hs1 : wA.drew.heap.size = wr.heap.size + 1 := hsz
          have hs2 : (w2.alloc (.cells #[.int .i64 k2, .string s2, .slice l2 n2 m2] 24)).heap.size = w2.heap.size + 1 := by simp
          rcases hb with hb | ⟨h1, h2⟩
          · exact ⟨.inl hb, heap_alloc_old w2 _ (by have := HS.out b hb; omega)⟩
          · exact ⟨.inr ⟨by omega, by omega⟩, heap_alloc_old w2 _ h2⟩
        have HR3 := Lib.hid (And.intro hr3 (And.intro hrow3 hb3))
        have HK2 := Lib.hid hK2
        have HZ2 := Lib.hid hz2'
        have hk4 : j < 20000 := by have := HLEN.out; omega
        clear hr3 hrow3 hb3 hK2 hr2 hb2 hB2
        refine Mix.eff_step (fun K hK => ?_)
        refine step_append_lies _ rfl _ _ 22 rfl (W.heap.size + 3) 24 i0 _ 3 48 Tryz.underlying22 hi0 hz0 hz1 hz2 rfl (by decide) (.slice sa sn sc) j _ rfl HR3.out.2.1 ⟨w2.heap.size, 0, none⟩ 1 1 [.int .i64 k2, .string s2, .slice l2 n2 m2] rfl rfl (World.news_of_block (heap_alloc_new w2 _)) (by intro u hu; simp at hu; rcases hu with rfl | rfl | rfl <;> rfl) (by decide) ?d3 ?d4 ?d5 (w2.heap.size + 1) (by simp) ?_
        case d3 => unfold maxLen; omega
        case d4 => have := HLEN.out; omega
        case d5 => have := HPP.out.1.below.size; have := HZ2.out; simp; omega
        intro G c w4 hown2 hgr hat hlt2
        have hPn := pw_push HS.out HPP.out.1 HROW.out.1 HROW.out.2 HR3.out.2.2 HKG.out HR3.out.1 hown2 hgr (by simpa using hat)
        refine hK _ _ (Kp.of fun k hk => (hgr.block k (by have := HZ2.out; simp; rcases hk with rfl | rfl <;> omega) (fun e => by have := HROW.out.1.lt k e.symm; rcases hk with rfl | rfl <;> omega)).trans ((heap_alloc_old w2 _ (by have := HZ2.out; rcases hk with rfl | rfl <;> omega)).trans (HK2.out k hk))) ?_
        clear hK K
        obtain ⟨a0, a1, a2, a3, a4, a5⟩ := obj3 (pw_obj4 HPP.out.1 HR3.out.2.2 HROW.out.1 hgr)
        have HPN := Lib.hid hPn
        clear hPn hown2 hgr hat hlt2
        refine Mix.eff_nil (Mix.parts_n ?_)
        go_wp2_with fail
        refine ⟨⟨j + 1, _, hlt, by push_cast; rfl, HPN.out⟩, ?_⟩
        simp only [RowKit.intOf]
        omega
    · obtain rfl : j = ks.length := by omega
      obtain ⟨u0, u1, u2, hR⟩ := hP.res
      obtain ⟨c0, c1, c2, -, -, -⟩ := obj3 hP.obj
      obtain ⟨d0, d1, d2, f0, f1, f2⟩ := obj3 hR
      have hrep := pw_rep hP
      obtain ⟨a1, n1, m1, rfl⟩ : ∃ a n m, sv = .slice a n m := by
        obtain ⟨_, _, _, _, _, e⟩ := hrep.vals
        have e1 := congrArg (fun v => match v with | .agg a => a.toList | _ => []) e
        simp at e1
        exact ⟨_, _, _, e1.2.2⟩
      have HR := Lib.hid (And.intro hrep (And.intro hP.below hR))
      clear hrep hP hR hlt hj
      go_wp2_with fail
      change bodyPost _ _ _ _ _ (put3 wr (W.heap.size + 1) (.int .i64 k) (.string s) (.slice a1 n1 m1))
      obtain ⟨r0, r1, r2, -, -, -⟩ := obj3 (put3_same (.int .i64 k) (.string s) (.slice a1 n1 m1) HR.out.2.2)
      refine bodyPost_ret (put_results rfl r0 r1 r2) rfl ?_
      refine ⟨_, rfl, ?_, put3_below HR.out.2.1 (by omega) _ _ _⟩
      rw [putE_kids HK.out]
      refine HR.out.1.move fun b hb => ⟨?_, put3_old _ _ _ ?_⟩
      · rcases hb with hb | ⟨h1, h2⟩
        · exact .inl hb
        · exact .inr ⟨by omega, by rw [put3_size]; exact h2⟩
      · rcases hb with hb | ⟨h1, h2⟩
        · have := HS.out b hb
          omega
        · omega
set_option maxHeartbeats 8000000 in
set_option maxRecDepth 100000 in
theorem put_2 {s y : ByteArray} {ks : List E} (hk : ¬ s = y) (hlen : ks.length ≤ 20000) (W : World) (S : Nat → Prop) (hS : ∀ b, S b → b < W.heap.size) (t : ByteArray) (sl : Option Addr) (cap : Nat) (x0 y0 z0 : Nat → Value)
    (hc : ∀ i u, ks[i]? = some u → ∃ b o, sl = some ⟨b, o, none⟩ ∧ S b ∧ W.cell? ⟨b, o + i * 3, none⟩ = some (x0 i) ∧ W.cell? ⟨b, o + i * 3 + 1, none⟩ = some (y0 i) ∧ W.cell? ⟨b, o + i * 3 + 2, none⟩ = some (z0 i)) (hr : ∀ i u, ks[i]? = some u → RepX W S u (.agg #[x0 i, y0 i, z0 i]))
    (ih : ∀ u ∈ ks, ∀ (W : World) (S : Nat → Prop) (v : Value), (∀ b, S b → b < W.heap.size) → RepX W S u v → Calls Tryz.prog 19 #[v, .string y, .string t] W (PutA W S u y t)) :
    Calls Tryz.prog 19 #[.agg #[.int .i64 2, .string s, .slice sl ks.length cap], .string y, .string t] W (PutA W S (.mk 2 s ks) y t) := by
  obtain ⟨i0, hi0, hz0, hz1, hz2⟩ := info_ps info_expr
  have i1 : (s.toList == y.toList) = false := by rw [seq_iff]; exact decide_eq_false hk
  have hp := pw_new W S y t 2 s ks sl cap (.int .i64 0) (.string ⟨#[]⟩) (.slice none 0 0)
  have HP := Lib.hid hp
  have HK := Lib.hid (show ¬ ((2 : Int) = 2 ∧ s = y) from fun e => hk e.2)
  have HS := Lib.hid hS
  have HC := Lib.hid hc
  have HRK := Lib.hid hr
  have HIH := Lib.hid ih
  have HLEN := Lib.hid hlen
  clear hp hS hc hr ih hlen hk
  go_enter Tryz.func19, Tryz.ntmps19
  go_wp2_with fail
  go_loopw [29] (fun i wr => ∃ (j : Nat) (sv : Value), j ≤ ks.length ∧ i = .int .i64 (j : Int) ∧ PW W wr S y t 2 s ks j sv) (fun i _ => ks.length - (RowKit.intOf i).toNat)
  case atStart => exact ⟨0, _, Nat.zero_le _, rfl, HP.out⟩
  case round =>
    obtain ⟨j, sv, hj, rfl, hP⟩ := hrel
    by_cases hlt : j < ks.length
    · obtain ⟨u, hu⟩ : ∃ u, ks[j]? = some u := ⟨ks[j], List.getElem?_eq_getElem hlt⟩
      obtain ⟨b, o, e1, hSb, a0, a1, a2⟩ := HC.out j u hu
      subst e1
      have hru := HRK.out j u hu
      obtain ⟨kd, σ, sl', m', cap', hv⟩ := hru.vals
      have hv1 := congrArg (fun v => match v with | .agg a => a.toList | _ => []) hv
      simp at hv1
      obtain ⟨hx1, hy1, hz1'⟩ := hv1
      rw [hv] at hru
      rw [hx1] at a0
      rw [hy1] at a1
      rw [hz1'] at a2
      have hbl : b < W.heap.size := HS.out b hSb
      have g0 := (hP.below.cell (p := ⟨b, o + j * 3, none⟩) hbl).trans a0
      have g1 := (hP.below.cell (p := ⟨b, o + j * 3 + 1, none⟩) hbl).trans a1
      have g2 := (hP.below.cell (p := ⟨b, o + j * 3 + 2, none⟩) hbl).trans a2
      obtain ⟨slb, capb, hbox⟩ := hP.box
      obtain ⟨x1, y1, z1, hrow, hrr⟩ := hP.row
      obtain ⟨sa, sn, sc, rfl⟩ : ∃ sa sn sc, sv = .slice sa sn sc := by
        rcases hrow.2 with ⟨rfl, _⟩ | ⟨g, cap, cur, rfl, _⟩ <;> exact ⟨_, _, _, rfl⟩
      have hlb : W.heap.size + 2 < wr.heap.size := (Array.getElem?_eq_some_iff.1 hP.obj).1
      have HPP := Lib.hid (And.intro hP hru)
      have HROW := Lib.hid (And.intro hrow hrr)
      have HU := Lib.hid hu
      have hkg := kidsP_get y t 2 s ks j
      rw [hu, Option.map_some] at hkg
      have hbox2 := (heap_alloc_old wr (.cells #[.int .i64 kd, .string σ, .slice sl' m' cap'] 24) (show W.heap.size < wr.heap.size by omega)).trans hbox
      obtain ⟨c0, c1, c2, -, -, -⟩ := obj3 hbox2
      clear hru hv hx1 hy1 hz1' a0 a1 a2 hP hrow hrr hu hbox hbox2 hSb
      rw [if_neg (fun e => absurd e.1.1 (by decide))] at hkg
      have HKG := Lib.hid hkg
      clear hkg
      have hA := (Below.refl wr.heap.size wr).alloc (Nat.le_refl _) (.cells #[.int .i64 kd, .string σ, .slice sl' m' cap'] 24)
      have hX := heap_alloc_new wr (.cells #[.int .i64 kd, .string σ, .slice sl' m' cap'] 24)
      have hsz : (wr.alloc (.cells #[.int .i64 kd, .string σ, .slice sl' m' cap'] 24)).heap.size = wr.heap.size + 1 := by simp
      have hcall := Lib.hid (fun (w : World) (hb : Below wr.heap.size wr w) => HIH.out u (List.mem_of_getElem? HU.out) w S _ (fun b hb' => by have := HS.out b hb'; have := hb.size; have := HPP.out.1.below.size; omega) (HPP.out.2.move (S' := S) fun b hb' => ⟨hb', (HPP.out.1.below.trans (hb.mono HPP.out.1.below.size)).block b (HS.out b hb')⟩))
      go_wp2_with fail
      clear c0 c1 c2 g0 g1 g2
      have hO1 := (heap_alloc_old wr (.cells #[.int .i64 kd, .string σ, .slice sl' m' cap'] 24) (show W.heap.size + 2 < wr.heap.size by omega)).trans HPP.out.1.obj
      generalize wr.alloc (.cells #[.int .i64 kd, .string σ, .slice sl' m' cap'] 24) = wA at *
      obtain ⟨o0, o1, o2, -, -, -⟩ := obj3 hO1
      obtain ⟨x0', x1', x2', -, -, -⟩ := obj3 hX
      have e0 := Kp.cell (w := wA) (K := fun k => k = W.heap.size + 2 ∨ k = wr.heap.size) (a := ⟨W.heap.size + 2, 2, none⟩) (.inl rfl) o2
      have e1 := Kp.cell (w := wA) (K := fun k => k = W.heap.size + 2 ∨ k = wr.heap.size) (a := ⟨wr.heap.size, 0, none⟩) (.inr rfl) x0'
      have e2 := Kp.cell (w := wA) (K := fun k => k = W.heap.size + 2 ∨ k = wr.heap.size) (a := ⟨wr.heap.size, 1, none⟩) (.inr rfl) x1'
      have e3 := Kp.cell (w := wA) (K := fun k => k = W.heap.size + 2 ∨ k = wr.heap.size) (a := ⟨wr.heap.size, 2, none⟩) (.inr rfl) x2'
      clear o0 o1 o2 x0' x1' x2'
      refine Mix.region (fun w' => ∃ Y, w' = Kp.kp wA (fun k => k = W.heap.size + 2 ∨ k = wr.heap.size) Y) 8 [0, 0, 0, 0, 0, 1, 1, 1, 9, 9] [true, false] (by kernel_rfl) (fun _ _ d _ _ h => by cases d <;> exact h) (by rfl) (by kernel_rfl) (Kp.of fun _ _ => rfl) ?_
      simp only [Mix.selP_cons, Mix.selP_nil, Mix.sel_cons, Mix.sel_nil, Nat.reduceBEq, Nat.reduceAdd, cond_true, cond_false, List.drop_succ_cons, List.drop_zero]
      refine Mix.parts_q ?_
      repeat (go_big_quiet_step (fail))
      refine wpQuiet_nil ?_
      refine Mix.parts_e ?_
      refine Mix.eff_step (fun K hK => ?_)
      go_simp
      refine (hcall.out _ hA.drew).mono ?_
      rintro e w2 ⟨v2, rfl, hr2, hB2⟩
      obtain ⟨k2, s2, l2, n2, m2, hv2⟩ := hr2.vals
      subst hv2
      have hb2 : Below wr.heap.size wr w2 := hA.drew.trans (hB2.mono hA.drew.size)
      have hz2' : wr.heap.size < w2.heap.size := by have := hB2.size; have : wA.drew.heap.size = wr.heap.size + 1 := hsz; omega
      have hK2 : ∀ k, k = W.heap.size + 2 ∨ k = wr.heap.size → w2.heap[k]? = wA.heap[k]? := fun k hk => hB2.block k (by have : wA.drew.heap.size = wr.heap.size + 1 := hsz; rcases hk with rfl | rfl <;> omega)
      refine hK _ _ (Kp.of hK2) ?_
      clear hK K e0 e1 e2 e3
      refine Mix.eff_step (fun K hK => ?_)
      go_simp
      refine hK _ _ (Kp.of fun k hk => (heap_alloc_old w2 _ (by rcases hk with rfl | rfl <;> omega)).trans (hK2 k hk)) ?_
      clear hK K
      have hb3 := hb2.alloc hb2.size (.cells #[.int .i64 k2, .string s2, .slice l2 n2 m2] 24)
      have hrow3 : (w2.alloc (.cells #[.int .i64 k2, .string s2, .slice l2 n2 m2] 24)).ownsRow (W.heap.size + 3) 24 3 (.slice sa sn sc) j (row3 x1 y1 z1 j) := row_keep HROW.out.1 hb3
      have hr3 : RepX (w2.alloc (.cells #[.int .i64 k2, .string s2, .slice l2 n2 m2] 24)) (fun b => S b ∨ (wr.heap.size ≤ b ∧ b < (w2.alloc (.cells #[.int .i64 k2, .string s2, .slice l2 n2 m2] 24)).heap.size)) (putE y t u) (.agg #[.int .i64 k2, .string s2, .slice l2 n2 m2]) := hr2.move fun b hb => by
        have hs1 : wA.drew.heap.size = wr.heap.size + 1 := hsz
        have hs2 : (w2.alloc (.cells #[.int .i64 k2, .string s2, .slice l2 n2 m2] 24)).heap.size = w2.heap.size + 1 := by simp
        rcases hb with hb | ⟨h1, h2⟩
        · exact ⟨.inl hb, heap_alloc_old w2 _ (by have := HS.out b hb; omega)⟩
        · exact ⟨.inr ⟨by omega, by omega⟩, heap_alloc_old w2 _ h2⟩
      have HR3 := Lib.hid (And.intro hr3 (And.intro hrow3 hb3))
      have HK2 := Lib.hid hK2
      have HZ2 := Lib.hid hz2'
      have hk4 : j < 20000 := by have := HLEN.out; omega
      clear hr3 hrow3 hb3 hK2 hr2 hb2 hB2
      refine Mix.eff_step (fun K hK => ?_)
      refine step_append_lies _ rfl _ _ 22 rfl (W.heap.size + 3) 24 i0 _ 3 48 Tryz.underlying22 hi0 hz0 hz1 hz2 rfl (by decide) (.slice sa sn sc) j _ rfl HR3.out.2.1 ⟨w2.heap.size, 0, none⟩ 1 1 [.int .i64 k2, .string s2, .slice l2 n2 m2] rfl rfl (World.news_of_block (heap_alloc_new w2 _)) (by intro u hu; simp at hu; rcases hu with rfl | rfl | rfl <;> rfl) (by decide) ?d3 ?d4 ?d5 (w2.heap.size + 1) (by simp) ?_
      case d3 => unfold maxLen; omega
      case d4 => have := HLEN.out; omega
      case d5 => have := HPP.out.1.below.size; have := HZ2.out; simp; omega
      intro G c w4 hown2 hgr hat hlt2
      have hPn := pw_push HS.out HPP.out.1 HROW.out.1 HROW.out.2 HR3.out.2.2 HKG.out HR3.out.1 hown2 hgr (by simpa using hat)
      refine hK _ _ (Kp.of fun k hk => (hgr.block k (by have := HZ2.out; simp; rcases hk with rfl | rfl <;> omega) (fun e => by have := HROW.out.1.lt k e.symm; rcases hk with rfl | rfl <;> omega)).trans ((heap_alloc_old w2 _ (by have := HZ2.out; rcases hk with rfl | rfl <;> omega)).trans (HK2.out k hk))) ?_
      clear hK K
      obtain ⟨a0, a1, a2, a3, a4, a5⟩ := obj3 (pw_obj4 HPP.out.1 HR3.out.2.2 HROW.out.1 hgr)
      have HPN := Lib.hid hPn
      clear hPn hown2 hgr hat hlt2
      refine Mix.eff_nil (Mix.parts_n ?_)
      go_wp2_with fail
      refine ⟨⟨j + 1, _, hlt, by push_cast; rfl, HPN.out⟩, ?_⟩
      simp only [RowKit.intOf]
      omega
    · obtain rfl : j = ks.length := by omega
      obtain ⟨u0, u1, u2, hR⟩ := hP.res
      obtain ⟨c0, c1, c2, -, -, -⟩ := obj3 hP.obj
      obtain ⟨d0, d1, d2, f0, f1, f2⟩ := obj3 hR
      have hrep := pw_rep hP
      obtain ⟨a1, n1, m1, rfl⟩ : ∃ a n m, sv = .slice a n m := by
        obtain ⟨_, _, _, _, _, e⟩ := hrep.vals
        have e1 := congrArg (fun v => match v with | .agg a => a.toList | _ => []) e
        simp at e1
        exact ⟨_, _, _, e1.2.2⟩
      have HR := Lib.hid (And.intro hrep (And.intro hP.below hR))
      clear hrep hP hR hlt hj
      go_wp2_with fail
      change bodyPost _ _ _ _ _ (put3 wr (W.heap.size + 1) (.int .i64 2) (.string s) (.slice a1 n1 m1))
      obtain ⟨r0, r1, r2, -, -, -⟩ := obj3 (put3_same (.int .i64 2) (.string s) (.slice a1 n1 m1) HR.out.2.2)
      refine bodyPost_ret (put_results rfl r0 r1 r2) rfl ?_
      refine ⟨_, rfl, ?_, put3_below HR.out.2.1 (by omega) _ _ _⟩
      rw [putE_kids (k := 2) (s := s) (y := y) (fun e => HK.out ⟨trivial, e.2⟩)]
      refine HR.out.1.move fun b hb => ⟨?_, put3_old _ _ _ ?_⟩
      · rcases hb with hb | ⟨h1, h2⟩
        · exact .inl hb
        · exact .inr ⟨by omega, by rw [put3_size]; exact h2⟩
      · rcases hb with hb | ⟨h1, h2⟩
        · have := HS.out b hb
          omega
        · omega
end Ev
end Go.Proofs.YtflhmoelenmomaaGreatDoor
