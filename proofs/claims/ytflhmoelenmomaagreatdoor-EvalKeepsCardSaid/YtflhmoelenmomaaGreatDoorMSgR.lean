/-
  The reference's Range.
-/
import Derived.Test.YtflhmoelenmomaaGreatDoorMSgX
namespace Go.Proofs.YtflhmoelenmomaaGreatDoor
open Go.RowKit Go.Shelf Go.Lib
namespace Sg

theorem info_bool : (Tryz.prog.info? 4).map (fun i => (i.zero, i.size, i.bytes)) = some (some (.bool false), 1, 1) := by kernel_rfl
/-- a slice of flags that is its holder's own -/
def BO (W : World) (B : Nat) (v : Value) (l : List Bool) : Prop := W.ownsRow B 4 1 v l.length (l.map Value.bool)
theorem BO.isl {W : World} {B : Nat} {v : Value} {l : List Bool} (h : BO W B v l) : ∃ sl cap, v = .slice sl l.length cap := by
  rcases h.2 with ⟨rfl, hn⟩ | ⟨g, cap, cur, rfl, _⟩
  · exact ⟨none, 0, by rw [hn]⟩
  · exact ⟨_, _, rfl⟩
theorem BO.at {W : World} {B : Nat} {sl : Option Addr} {n cap : Nat} {l : List Bool} (h : BO W B (.slice sl n cap) l) {k : Nat} {x : Bool} (ha : l[k]? = some x) :
    ∃ g, sl = some ⟨g, 0, none⟩ ∧ g < W.heap.size ∧ W.cell? ⟨g, k, none⟩ = some (.bool x) := by
  have hk := (List.getElem?_eq_some_iff.1 ha).1
  have h0 := h
  rcases h.2 with ⟨_, hn⟩ | ⟨g, cap', cur, e, hb, hg, _⟩
  · omega
  · cases e
    have h1 := World.ownsRow.cells h0 (g := g) rfl k (.bool x) (by rw [List.getElem?_map, ha]; rfl)
    rw [add_at, Nat.zero_add] at h1
    exact ⟨g, rfl, (Array.getElem?_eq_some_iff.1 hg).1, h1⟩
theorem stepR_len (out : List G) (a b : Int) (is : Bool) : (stepR out a b is).length ≤ out.length + 1 := by
  unfold stepR
  split
  · rcases snoc_cases out with rfl | ⟨c, l, rfl⟩
    · simp
    · rw [List.getLast?_concat, List.dropLast_concat]
      dsimp only
      split <;> simp
  · omega
theorem range_step {S : Int → Bool} {l : List Int} {k : Nat} {a b : Int} (ha : l[k]? = some a) (hb : l[k + 1]? = some b) (out : List G) : rangeF S (l.drop k) out = rangeF S (l.drop (k + 1)) (stepR out a b (S a)) := by
  obtain ⟨h1, h2⟩ := List.getElem?_eq_some_iff.1 ha
  obtain ⟨h3, h4⟩ := List.getElem?_eq_some_iff.1 hb
  rw [List.drop_eq_getElem_cons h1, List.drop_eq_getElem_cons h3, h2, h4, rangeF]
theorem range_end {S : Int → Bool} {l : List Int} {k : Nat} (h : ¬ k + 1 < l.length) (out : List G) : rangeF S (l.drop k) out = out := by
  have : (l.drop k).length ≤ 1 := by simp; omega
  match hd : l.drop k, this with
  | [], _ => rfl
  | [a], _ => rfl
theorem row_set0 (a : List G) (l : G) : (row (a ++ [l])).set (a.length * 2) (.int .i64 l.1) = row (a ++ [l]) := by
  rw [row_app, List.set_append_right _ _ (by rw [row_len]; omega), row_len, show a.length * 2 - a.length * 2 = 0 by omega]
  rfl
theorem GO.flat {w : World} {B gb co m : Nat} {a : List G} {z : G} (hO : GO w B (.slice (some ⟨gb, 0, none⟩) (m + 1) co) (a ++ [z])) (hm : m = a.length) : w.ownsRow B 55 2 (.slice (some ⟨gb, 0, none⟩) (m + 1) co) (m + 1) (row (a ++ [z])) := by
  unfold GO at hO
  rw [show (a ++ [z]).length = m + 1 by rw [hm]; simp] at hO
  exact hO
theorem GO.merge2 {w : World} {B gb co m : Nat} {a : List G} {z1 z2 : Int} (hO : GO w B (.slice (some ⟨gb, 0, none⟩) (m + 1) co) (a ++ [(z1, z2)])) (hm : m = a.length) (h : Int) :
    GO ((w.setCell ⟨gb, m * 2, none⟩ (.int .i64 z1)).setCell ⟨gb, m * 2 + 1, none⟩ (.int .i64 h)) B (.slice (some ⟨gb, 0, none⟩) (m + 1) co) (a ++ [(z1, h)]) := by
  have h4 := hO.flat hm
  have h5 := (World.ownsRow.stored h4 (m * 2) (.int .i64 z1)).1
  have h6 := (World.ownsRow.stored h5 (m * 2 + 1) (.int .i64 h)).1
  subst hm
  rw [show (row (a ++ [(z1, z2)])).set (a.length * 2) (.int .i64 z1) = row (a ++ [(z1, z2)]) from row_set0 a (z1, z2), row_set] at h6
  unfold GO
  rw [show (a ++ [(z1, h)]).length = a.length + 1 by simp]
  exact h6
set_option maxHeartbeats 4000000 in
set_option maxRecDepth 100000 in
theorem rrange_any (S : Int → Bool) (l : List Int) (B : Nat) (v vb : Value) (W : World) (hO : IO W B v l) (hF : BO W B vb (l.map S)) (hl : l.length ≤ 100000) :
    Calls Tryz.prog 83 #[v, vb] W fun e W' => ((16 < (rangeF S l []).length ∧ e = .returned (.tuple #[.slice none 0 0, .int .i64 13])) ∨ (¬ 16 < (rangeF S l []).length ∧ ∃ v', e = .returned (.tuple #[v', .int .i64 0]) ∧ GO W' W.heap.size v' (rangeF S l []))) ∧ Below W.heap.size W W' := by
  obtain ⟨sl, cap, rfl⟩ := hO.isl
  obtain ⟨sb, cab, rfl⟩ := hF.isl
  have hlb : (l.map S).length = l.length := by simp
  rw [hlb] at hF ⊢
  have HO := Lib.hid hO
  have HF := Lib.hid hF
  clear hO hF hlb
  go_enter Tryz.func83, Tryz.ntmps83
  go_wp2_with fail
  go_loopw [6, 7] (fun u i wr => ∃ (k : Nat) (out : List G), k ≤ l.length ∧ i = .int .i64 (k : Int) ∧ out.length ≤ k ∧ rangeF S (l.drop k) out = rangeF S l [] ∧ GO wr W.heap.size u out ∧ Below W.heap.size W wr) (fun _ i _ => l.length - (intOf i).toNat)
  case atStart => exact ⟨0, [], Nat.zero_le _, rfl, Nat.le_refl _, rfl, go_nil _ _, Below.refl _ _⟩
  case round =>
    obtain ⟨k, out, hk, rfl, hol, hr, hv, hb⟩ := hrel
    have HV := Lib.hid hv
    by_cases hlt : k + 1 < l.length
    · have HR := Lib.hid hr
      have j0 : (k : Int) + 1 < l.length := by omega
      obtain ⟨a, ha⟩ : ∃ a, l[k]? = some a := ⟨l[k], List.getElem?_eq_getElem (by omega)⟩
      obtain ⟨b, hbb⟩ : ∃ b, l[k + 1]? = some b := ⟨l[k + 1], List.getElem?_eq_getElem hlt⟩
      have hS : (l.map S)[k]? = some (S a) := by rw [List.getElem?_map, ha]; rfl
      obtain ⟨g, rfl, hg, hc⟩ := HO.out.at ha
      obtain ⟨g', e', _, hc'⟩ := HO.out.at hbb
      cases e'
      obtain ⟨gf, rfl, hgf, hcf⟩ := HF.out.at hS
      have c0 := (hb.cell (p := ⟨g, k, none⟩) hg).trans hc
      have c1 := (hb.cell (p := ⟨g, k + 1, none⟩) hg).trans hc'
      have c2 := (hb.cell (p := ⟨gf, k, none⟩) hgf).trans hcf
      have HT := Lib.hid (range_step (S := S) ha hbb out)
      clear ha hbb hS hc hc' hcf hr hv
      cases hs : S a with
      | false =>
        rw [hs] at c2
        have HE := Lib.hid (show stepR out a b (S a) = out by rw [hs]; rfl)
        clear hs
        obtain ⟨so, co, rfl⟩ := HV.out.isl
        go_wp2_with fail
        go_roundw
        case rel => exact ⟨k + 1, out, by omega, by go_num, by omega, by rw [← HR.out, HT.out, HE.out], HV.out, hb⟩
        case measure => simp [intOf]; omega
      | true =>
        rw [hs] at c2
        rcases snoc_cases out with rfl | ⟨c, z, rfl⟩
        · have HE := Lib.hid (show stepR [] a b (S a) = [] ++ [(a, b)] by rw [hs]; rfl)
          have HOL := Lib.hid (show ([] ++ [(a, b)] : List G).length ≤ k + 1 by simp)
          have e0 := Sx.ext_cell c0
          have e1 := Sx.ext_cell c1
          clear hs
          obtain ⟨so, co, rfl⟩ := HV.out.isl
          go_wp2_with fail
          go_quiet (fail)
          go_wp2_with fail
          refine Mix.region (fun w' => ∃ Y, w' = Sx.ext wr Y) 12 [0, 0, 0, 0, 0, 0, 0, 0, 0, 0, 1, 1, 9, 9] [true, false] (by kernel_rfl) (fun _ _ d _ _ h => by cases d <;> exact h) (by rfl) (by kernel_rfl) ⟨_, Sx.ext_of (Sx.below_drewN (Below.refl _ _) (_ + 1))⟩ ?_
          simp only [Mix.selP_cons, Mix.selP_nil, Mix.sel_cons, Mix.sel_nil, Nat.reduceBEq, Nat.reduceAdd, cond_true, cond_false, List.drop_succ_cons, List.drop_zero]
          refine Mix.parts_q ?_
          repeat (go_big_quiet_step (fail))
          refine wpQuiet_nil ?_
          refine Mix.parts_e ?_
          refine Mix.eff_step (fun K0 hK0 => ?_)
          go_simp
          refine hK0 _ _ ⟨_, Sx.ext_of (Sx.below_drewN (Below.refl _ _) (_ + 1))⟩ ?_
          clear hK0 K0
          refine Mix.eff_step (fun K hK => ?_)
          go_simp
          refine hK _ _ ⟨_, Sx.ext_of ((Sx.below_drewN (Below.refl _ _) (_ + 1)).alloc (Nat.le_refl _) _)⟩ ?_
          clear hK K e0 e1
          refine Mix.eff_nil (Mix.parts_n ?_)
          go_wp2_with (first
            | (at_builtin; refine GO.push (l := []) (B := W.heap.size) ?hh (a, b) ?hl ?hk rfl _ _ rfl rfl rfl ?he ?_; (case hh => exact HV.out); (case hl => exact Nat.zero_le _); (case hk => exact hb.size); (case he => first | rfl | simp); intro v9 w9 hO9 hB9))
          have HO9 := Lib.hid hO9
          have hB8 := hB9 _ (Sx.below_drewN hb _)
          clear hO9 hB9
          go_wp2_with fail
          go_roundw
          case rel => exact ⟨k + 1, _, by omega, by go_num, HOL.out, by rw [← HR.out, HT.out, HE.out], HO9.out, hB8⟩
          case measure => simp [intOf]; omega
        · have hz : (c ++ [z])[c.length]? = some z := by simp
          have hlen : (c ++ [z]).length = c.length + 1 := by simp
          obtain ⟨so, co, hvv⟩ := HV.out.isl
          rw [hlen] at hvv
          subst hvv
          obtain ⟨gb, rfl, hgb, hgs, d2, d3⟩ := HV.out.at hz
          obtain ⟨z1, z2⟩ := z
          obtain ⟨m, hm⟩ : ∃ m, m = c.length := ⟨_, rfl⟩
          rw [hlen, ← hm] at hol
          rw [← hm] at d2 d3 ⊢
          have hml : m + 1 ≤ 1000000 := by omega
          have j1 : decide ((0 : Int) ≤ (m : Int)) = true := by simp
          have e0 := Sx.ext_cell c0
          have e1 := Sx.ext_cell c1
          have hv4 := HV.out
          rw [← hm] at hv4
          have HV4 := Lib.hid hv4
          by_cases g2 : z2 = a
          · have j2 : (z2 == a) = true := beq_iff_eq.2 g2
            have HE := Lib.hid (show stepR (c ++ [(z1, z2)]) a b (S a) = c ++ [(z1, b)] by rw [hs]; unfold stepR; rw [if_pos rfl, List.getLast?_concat, List.dropLast_concat]; dsimp only; rw [if_pos g2])
            have HM := Lib.hid hm
            clear hs hz hlen hm hv4 g2
            go_wp2_with fail
            go_quiet (fail)
            have hb1 := Sx.below_drewN hb nq
            have hV1 := HV4.out.below (Sx.below_drewN (Below.refl _ _) nq)
            have k1 : (wr.drewN nq).cell? ⟨g, k + 1, none⟩ = some (.int .i64 b) := c1
            generalize wr.drewN nq = w1 at hb1 hV1 k1 ⊢
            have hz1 : (c ++ [(z1, z2)])[m]? = some (z1, z2) := by rw [HM.out]; simp
            obtain ⟨gb', e', hgb1, hBg, y0, y1⟩ := hV1.at hz1
            cases e'
            have hne : ¬ gb = w1.heap.size := by omega
            have f0 := World.ownsRow.frozenAt (hV1.flat HM.out) (m * 2)
            have f1 := World.ownsRow.frozenAt (hV1.flat HM.out) (m * 2 + 1)
            have hB2 := (Below.refl w1.heap.size w1).alloc (Nat.le_refl _) (.cells #[.int .i64 z1, .int .i64 z2] 55)
            have k2 := (hB2.cell (p := ⟨g, k + 1, none⟩) (World.block_lt_of_cell? w1 _ k1)).trans k1
            have hB3 := (Below.refl w1.heap.size w1).alloc (Nat.le_refl _) (.cells #[.int .i64 z1, .int .i64 b] 55)
            have hV2 := hV1.below hB3
            obtain ⟨gb', e', -, hBg2, y2, y3⟩ := hV2.at hz1
            cases e'
            have f2 := World.ownsRow.frozenAt (hV2.flat HM.out) (m * 2)
            have f3 := World.ownsRow.frozenAt (hV2.flat HM.out) (m * 2 + 1)
            obtain ⟨n0, n1, nf0, nf1⟩ := obj_two (heap_alloc_new w1 (.cells #[.int .i64 z1, .int .i64 z2] 55))
            clear hB2 hB3 hV2 hBg2
            have HV1 := Lib.hid hV1
            have HBG := Lib.hid hgb1
            clear hV1 hz1 e0 e1 c0 c1 c2 d2 d3 hgb1 hBg
            go_wp2_with fail
            go_roundw
            case rel =>
              have h8 := GO.merge2 (HV1.out.below ((Below.refl _ _).alloc (Nat.le_refl _) (.cells #[.int .i64 z1, .int .i64 b] 55))) HM.out b
              refine ⟨k + 1, c ++ [(z1, b)], by omega, by go_num, by have := HM.out; simp; omega, by rw [← HR.out, HT.out, HE.out], h8, ?_⟩
              exact ((hb1.alloc hb1.size _).setCell (p := ⟨gb, m * 2, none⟩) HBG.out (.int .i64 z1)).setCell (p := ⟨gb, m * 2 + 1, none⟩) HBG.out (.int .i64 b)
            case measure => simp [intOf]; omega
          · have j2 : (z2 == a) = false := beq_eq_false_iff_ne.2 g2
            have HE := Lib.hid (show stepR (c ++ [(z1, z2)]) a b (S a) = (c ++ [(z1, z2)]) ++ [(a, b)] by rw [hs]; unfold stepR; rw [if_pos rfl, List.getLast?_concat]; dsimp only; rw [if_neg g2])
            have HOL := Lib.hid (show ((c ++ [(z1, z2)]) ++ [(a, b)] : List G).length ≤ k + 1 by simp; omega)
            have HM := Lib.hid hm
            clear hs hz hlen hm hv4
            go_wp2_with fail
            go_quiet (fail)
            go_wp2_with fail
            refine Mix.region (fun w' => ∃ Y, w' = Sx.ext wr Y) 12 [0, 0, 0, 0, 0, 0, 0, 0, 0, 0, 1, 1, 9, 9] [true, false] (by kernel_rfl) (fun _ _ d _ _ h => by cases d <;> exact h) (by rfl) (by kernel_rfl) ⟨_, Sx.ext_of (Sx.below_drewN (Below.refl _ _) (_ + 1))⟩ ?_
            simp only [Mix.selP_cons, Mix.selP_nil, Mix.sel_cons, Mix.sel_nil, Nat.reduceBEq, Nat.reduceAdd, cond_true, cond_false, List.drop_succ_cons, List.drop_zero]
            refine Mix.parts_q ?_
            repeat (go_big_quiet_step (fail))
            refine wpQuiet_nil ?_
            refine Mix.parts_e ?_
            refine Mix.eff_step (fun K0 hK0 => ?_)
            go_simp
            refine hK0 _ _ ⟨_, Sx.ext_of (Sx.below_drewN (Below.refl _ _) (_ + 1))⟩ ?_
            clear hK0 K0
            refine Mix.eff_step (fun K hK => ?_)
            go_simp
            refine hK _ _ ⟨_, Sx.ext_of ((Sx.below_drewN (Below.refl _ _) (_ + 1)).alloc (Nat.le_refl _) _)⟩ ?_
            clear hK K e0 e1
            refine Mix.eff_nil (Mix.parts_n ?_)
            go_wp2_with (first
              | (at_builtin; refine GO.push (l := c ++ [(z1, z2)]) (B := W.heap.size) ?hh (a, b) ?hl ?hk rfl _ _ rfl rfl rfl ?he ?_; (case hh => exact HV4.out); (case hl => rw [List.length_append, ← HM.out]; simpa using hml); (case hk => exact hb.size); (case he => first | rfl | simp); intro v9 w9 hO9 hB9))
            have HO9 := Lib.hid hO9
            have hB8 := hB9 _ (Sx.below_drewN hb _)
            clear hO9 hB9
            go_wp2_with fail
            go_roundw
            case rel => exact ⟨k + 1, _, by omega, by go_num, HOL.out, by rw [← HR.out, HT.out, HE.out], HO9.out, hB8⟩
            case measure => simp [intOf]; omega
    · have j0 : ¬ (k : Int) + 1 < l.length := by omega
      have HE := Lib.hid (show rangeF S l [] = out by rw [← hr]; exact range_end hlt out)
      clear hr hv hlt
      obtain ⟨so, co, rfl⟩ := HV.out.isl
      by_cases h16 : 16 < out.length
      · have j1 : (16 : Int) < out.length := by omega
        have H16 := Lib.hid h16
        clear h16
        go_wp2_with fail
        go_ret2
        rw [HE.out]
        exact ⟨.inl ⟨H16.out, rfl⟩, hb⟩
      · have j1 : ¬ (16 : Int) < out.length := by omega
        have H16 := Lib.hid h16
        clear h16
        go_wp2_with fail
        go_ret2
        rw [HE.out]
        exact ⟨.inr ⟨by have := H16.out; omega, _, rfl, HV.out⟩, hb⟩
end Sg
end Go.Proofs.YtflhmoelenmomaaGreatDoor
