/-
  The reference's texts: what they are, plain; the walks of Quoted and Text. (printed by gen_RpI.py)
-/
import Derived.Test.YtcigggffaofkhaaRpF
import Derived.Laws.OwnMore
namespace Go.Proofs.Ytcigggffaofkhaa
open Go.RowKit
namespace Rc

/-- a sum's text, cut -/
def catR : List (List UInt8) → Nat → List UInt8 → List UInt8
  | [], _, out => out
  | t :: l, i, out => catR l (i + 1) (if out.length < 5000 then out ++ (if 0 < i then [32, 43, 32] ++ t else t) else out)
mutual
/-- the reference's text -/
def rtx : E → List UInt8
  | .mk k s ks =>
    if k = 1 then quoteL (s.data.toList.take 5000) else if k = 2 then s.data.toList else if k = 3 then catR (rbs ks) 0 []
    else if k = 4 then (match rtxs ks with | [a, b, c, d] => wIf ++ (a ++ (wEq ++ (b ++ (wThen ++ (c ++ (wElse ++ d)))))) | _ => [])
    else if k = 5 then (match rtxs ks with | [a, b] => wLet ++ (s.data.toList ++ (wEq ++ (a ++ (wIn ++ b)))) | _ => [])
    else []
def rtxs : List E → List (List UInt8)
  | [] => []
  | x :: l => rtx x :: rtxs l
def rbs : List E → List (List UInt8)
  | [] => []
  | x :: l => brL x.kind (rtx x) :: rbs l
end
theorem rbs_map : ∀ l : List E, rbs l = l.map fun x => brL x.kind (rtx x)
  | [] => by rw [rbs]; rfl
  | x :: l => by rw [rbs, rbs_map l]; rfl
theorem rtxs_map : ∀ l : List E, rtxs l = l.map rtx
  | [] => by rw [rtxs]; rfl
  | x :: l => by rw [rtxs, rtxs_map l]; rfl
theorem quote_cut (s : List UInt8) : Cut (quoteL (s.take 5000)) (quoteL s) := by
  by_cases h : s.length ≤ 5000
  · rw [List.take_of_length_le h]; exact Cut.refl _
  · have h1 : ∀ l : List UInt8, l.length ≤ (l.flatMap escB).length := fun l => by
      induction l with
      | nil => simp
      | cons c l ih => rw [List.flatMap_cons, List.length_append, List.length_cons]; have : 1 ≤ (escB c).length := by unfold escB; split <;> simp
                       omega
    refine .inr ⟨?_, ?_⟩
    · have := h1 (s.take 5000)
      rw [List.length_take] at this
      simp only [quoteL, List.length_cons, List.length_append, List.length_nil]
      omega
    · have := h1 s
      simp only [quoteL, List.length_cons, List.length_append, List.length_nil]
      omega
theorem Cut.more {a b c : List UInt8} (h : Cut a b) (hl : 4096 < a.length) : Cut a (b ++ c) := by
  refine .inr ⟨hl, ?_⟩
  have := h.len.1.1 hl
  rw [List.length_append]
  omega
theorem brL_cut {k : Int} {a b : List UInt8} (h : Cut a b) : Cut (brL k a) (brL k b) := by
  unfold brL
  split
  · exact (Cut.refl _).app (h.app (Cut.refl _))
  · exact h
theorem cat_cut : ∀ (l : List (List UInt8 × List UInt8)), (∀ q ∈ l, Cut q.1 q.2) → ∀ (i : Nat) (o o' : List UInt8), Cut o o' → 0 < i → Cut (catR (l.map (·.1)) i o) (o' ++ tailJ (l.map (·.2)))
  | [], _, i, o, o', h, _ => by simpa [catR, tailJ] using h
  | (a, b) :: l, hl, i, o, o', h, hi => by
    have h0 := hl (a, b) (List.mem_cons_self ..)
    have ih := cat_cut l (fun q hq => hl q (List.mem_cons_of_mem _ hq)) (i + 1)
    rw [List.map_cons, catR]
    have e : o' ++ tailJ (((a, b) :: l).map (·.2)) = (o' ++ ([32, 43, 32] ++ b)) ++ tailJ (l.map (·.2)) := by simp [tailJ]
    rw [e]
    refine ih _ _ ?_ (Nat.succ_pos _)
    rw [if_pos hi]
    split
    · exact h.app ((Cut.refl _).app h0)
    · exact h.more (by omega)
theorem rtx_cut (x : E) : Wf x → Cut (rtx x) (textE x) := by
  refine Eind (P := fun x => Wf x → Cut (rtx x) (textE x)) (fun k s ks ih hw => ?_) x
  obtain ⟨hp, hk⟩ := wf_mk hw
  have ih' : ∀ y ∈ ks, Cut (rtx y) (textE y) := fun y hy => ih y hy (hk y hy)
  have hkd := part_kind hp
  rw [rtx, textE]
  obtain rfl | rfl | rfl | rfl | rfl : k = 1 ∨ k = 2 ∨ k = 3 ∨ k = 4 ∨ k = 5 := by omega
  · rw [if_pos rfl, if_pos rfl]
    exact quote_cut _
  · rw [if_neg (by decide), if_pos rfl, if_neg (by decide), if_pos rfl]
    exact Cut.refl _
  · rw [if_neg (by decide), if_neg (by decide), if_pos rfl, if_neg (by decide), if_neg (by decide), if_pos rfl]
    match ks, part_3 hp, ih' with
    | y :: l, _, ih' =>
      rw [rbs_map, bts_map, List.map_cons, List.map_cons, join_tail, catR, if_pos (by decide), if_neg (by decide), List.nil_append]
      have := cat_cut (l.map fun x => (brL x.kind (rtx x), brL x.kind (textE x))) (fun q hq => by
        obtain ⟨u, hu, rfl⟩ := List.mem_map.1 hq
        exact brL_cut (ih' u (List.mem_cons_of_mem _ hu))) 1 _ _ (brL_cut (k := y.kind) (ih' y (List.mem_cons_self ..))) (by decide)
      simpa [Function.comp_def] using this
  · match ks, (part_4 hp).1, ih' with
    | [a, b, c, d], _, ih' =>
      rw [if_neg (by decide), if_neg (by decide), if_neg (by decide), if_pos rfl, if_neg (by decide), if_neg (by decide), if_neg (by decide), if_pos rfl, rtxs_map, texts_map]
      exact (Cut.refl _).app ((ih' a (by simp)).app ((Cut.refl _).app ((ih' b (by simp)).app ((Cut.refl _).app ((ih' c (by simp)).app ((Cut.refl _).app (ih' d (by simp))))))))
  · match ks, (part_5 hp).1, ih' with
    | [a, b], _, ih' =>
      rw [if_neg (by decide), if_neg (by decide), if_neg (by decide), if_neg (by decide), if_pos rfl, if_neg (by decide), if_neg (by decide), if_neg (by decide), if_neg (by decide), if_pos rfl, rtxs_map, texts_map]
      exact (Cut.refl _).app ((Cut.refl _).app ((Cut.refl _).app ((ih' a (by simp)).app ((Cut.refl _).app (ih' b (by simp))))))
theorem esc_le (l : List UInt8) : (l.flatMap escB).length ≤ 3 * l.length := by
  induction l with
  | nil => simp
  | cons c l ih => rw [List.flatMap_cons, List.length_append, List.length_cons]; have := esc_size c; omega
theorem brL_le (k : Int) (t : List UInt8) : (brL k t).length ≤ t.length + 2 := by
  unfold brL
  split <;> simp
theorem catR_le : ∀ (l : List (List UInt8)) (i : Nat) (o : List UInt8), (catR l i o).length ≤ o.length + (l.map fun t => t.length + 3).sum
  | [], i, o => by simp [catR]
  | t :: l, i, o => by
    rw [catR]
    refine Nat.le_trans (catR_le l _ _) ?_
    rw [List.map_cons, List.sum_cons]
    split
    · rw [List.length_append]
      split
      · simp; omega
      · omega
    · omega
theorem rtx_le (x : E) : Wf x → (rtx x).length + 5 ≤ 7 * sizeW x := by
  refine Eind (P := fun x => Wf x → (rtx x).length + 5 ≤ 7 * sizeW x) (fun k s ks ih hw => ?_) x
  obtain ⟨hp, hk⟩ := wf_mk hw
  have ih' : ∀ y ∈ ks, (rtx y).length + 5 ≤ 7 * sizeW y := fun y hy => ih y hy (hk y hy)
  have hkd := part_kind hp
  have hz := Lib.size_eq s
  rw [rtx, sizeW]
  obtain rfl | rfl | rfl | rfl | rfl : k = 1 ∨ k = 2 ∨ k = 3 ∨ k = 4 ∨ k = 5 := by omega
  · rw [if_pos rfl]
    have := esc_le (s.data.toList.take 5000)
    rw [List.length_take] at this
    simp only [quoteL, List.length_cons, List.length_append, List.length_nil]
    omega
  · rw [if_neg (by decide), if_pos rfl]
    omega
  · rw [if_neg (by decide), if_neg (by decide), if_pos rfl, rbs_map]
    have h1 := catR_le (ks.map fun x => brL x.kind (rtx x)) 0 []
    have h2 : ∀ l : List E, (∀ y ∈ l, (rtx y).length + 5 ≤ 7 * sizeW y) → ((l.map fun x => brL x.kind (rtx x)).map fun t => t.length + 3).sum ≤ 7 * sizeWs l := fun l => by
      induction l with
      | nil => intro _; simp
      | cons y l ihl =>
        intro hl
        rw [List.map_cons, List.map_cons, List.sum_cons, sizeWs]
        have := ihl fun z hz => hl z (List.mem_cons_of_mem _ hz)
        have := hl y (List.mem_cons_self ..)
        have := brL_le y.kind (rtx y)
        omega
    have := h2 ks ih'
    simp only [List.length_nil] at h1
    omega
  · match ks, (part_4 hp).1, ih' with
    | [a, b, c, d], _, ih' =>
      rw [if_neg (by decide), if_neg (by decide), if_neg (by decide), if_pos rfl, rtxs_map]
      have := ih' a (by simp)
      have := ih' b (by simp)
      have := ih' c (by simp)
      have := ih' d (by simp)
      simp only [List.map_cons, List.map_nil, sizeWs, wIf, wEq, wThen, wElse, List.length_append, List.length_cons, List.length_nil]
      omega
  · match ks, (part_5 hp).1, ih' with
    | [a, b], _, ih' =>
      rw [if_neg (by decide), if_neg (by decide), if_neg (by decide), if_neg (by decide), if_pos rfl, rtxs_map]
      have := ih' a (by simp)
      have := ih' b (by simp)
      simp only [List.map_cons, List.map_nil, sizeWs, wLet, wEq, wIn, List.length_append, List.length_cons, List.length_nil]
      omega
theorem catR_succ : ∀ (l : List (List UInt8)) (k i : Nat) (t : List UInt8) (o : List UInt8), l[k]? = some t → catR (l.take (k + 1)) i o = (if (catR (l.take k) i o).length < 5000 then catR (l.take k) i o ++ (if 0 < k + i then [32, 43, 32] ++ t else t) else catR (l.take k) i o)
  | [], k, i, t, o, h => by simp at h
  | u :: l, 0, i, t, o, h => by simp at h; subst h; simp [catR]
  | u :: l, k + 1, i, t, o, h => by
    rw [List.take_succ_cons, List.take_succ_cons, catR, catR, catR_succ l k (i + 1) t _ (by simpa using h)]
    rw [show k + (i + 1) = k + 1 + i by omega]
theorem esc_take {l : List UInt8} {k : Nat} (c : UInt8) (h : l[k]? = some c) : (l.take (k + 1)).flatMap escB = (l.take k).flatMap escB ++ escB c := by
  obtain ⟨hk, e⟩ := List.getElem?_eq_some_iff.1 h
  rw [List.take_succ_eq_append_getElem hk, e, List.flatMap_append]
  simp
set_option maxHeartbeats 4000000 in
set_option maxRecDepth 100000 in
theorem rquoted_any (s : ByteArray) (W : World) : Calls Try.prog 53 #[.string s] W fun e W' => e = .returned (.string ⟨(quoteL (s.data.toList.take 5000)).toArray⟩) ∧ Below W.heap.size W W' := by
  obtain ⟨i0, hi0, hz0, hz1, hz2⟩ := info_parts info_u8
  have HZ := Lib.hid (Lib.size_eq s)
  have hO0 : (W.alloc (.cells #[.int .u8 34] 5)).ownsRow W.heap.size 5 1 (.slice (some ⟨W.heap.size, 0, none⟩) 1 1) 1 [.int .u8 34] := World.ownsRow_lit W #[.int .u8 34] 1 (Nat.le_refl _) (by unfold maxLen; omega) rfl
  have hA : Below W.heap.size W (W.alloc (.cells #[.int .u8 34] 5)) := (Below.refl _ _).alloc (Nat.le_refl _) _
  go_enter Try.func53, Try.ntmps53
  go_wp2_with fail
  go_loopw [4, 5, 6] (fun kv i _ wr => ∃ (k : Nat) (acc : List UInt8) (v : Value), v = kv ∧ i = .int .i64 k ∧ k ≤ s.size ∧ k ≤ 5000 ∧ acc = 34 :: (s.data.toList.take k).flatMap escB ∧ wr.ownsRow W.heap.size 5 1 v acc.length (u8s acc) ∧ Below W.heap.size W wr) (fun _ i _ _ => 5000 - (intOf i).toNat)
  case atStart => exact ⟨0, [34], _, rfl, rfl, Nat.zero_le _, Nat.zero_le _, rfl, hO0, hA⟩
  case round =>
    obtain ⟨k, acc, v, rfl, rfl, hk1, hk2, hacc, hO, hB⟩ := hrel
    have HA := Lib.hid hacc
    clear hacc
    have HO := Lib.hid hO
    clear hO hO0 hA
    have HOL := Lib.hid (show acc.length ≤ 20000 by rw [HA.out]; have := esc_le (s.data.toList.take k); rw [List.length_take] at this; simp only [List.length_cons]; omega)
    by_cases hlt : k < s.size
    · have j0 : decide ((k : Int) < (s.size : Int)) = true := by simp; omega
      by_cases hlt2 : k < 5000
      · have j9 : decide ((k : Int) < 5000) = true := by simp; omega
        have HT := Lib.hid (take_esc (s := s) hlt)
        by_cases g1 : s[k].toNat < 32
        · have j1 : decide ((s[k].toNat : Int) < 32) = true := by simp; omega
          have x1 := hexD_div s[k]
          have x2 := hexD_and s[k]
          have y1 : (s[k].toNat : Int) / 16 < 16 := by have := s[k].toNat_lt; omega
          have HS1 := Lib.hid (esc_hex (c := s[k]) (.inl g1))
          clear g1
          go_wp2_with fail
          refine Mix.region (fun w' => ∃ Y, w' = Sx.ext wr Y) 10 [0, 0, 0, 0, 0, 0, 0, 0, 0, 1, 9, 9] [true, false] (by kernel_rfl) (fun _ _ d _ _ h => by cases d <;> exact h) (by rfl) (by kernel_rfl) ⟨wr.drew, Sx.ext_of (Below.refl _ _).drew⟩ ?_
          simp only [Mix.selP_cons, Mix.selP_nil, Mix.sel_cons, Mix.sel_nil, Nat.reduceBEq, Nat.reduceAdd, cond_true, cond_false, List.drop_succ_cons, List.drop_zero]
          refine Mix.parts_q ?_
          repeat (go_big_quiet_step (fail))
          refine wpQuiet_nil ?_
          refine Mix.parts_e ?_
          refine Mix.eff_step (fun K hK => ?_)
          go_simp
          have hB7 := (Below.refl wr.heap.size wr).drew.alloc (Nat.le_refl _) (.cells #[.int .u8 92, .int .u8 ((hexDig (s[k].toNat / 16)).toNat : Int), .int .u8 ((hexDig (s[k].toNat % 16)).toNat : Int)] 5)
          refine hK _ _ ⟨_, Sx.ext_of hB7⟩ ?_
          clear hK K x1 x2 y1
          refine Mix.eff_nil (Mix.parts_n ?_)
          have HO8 := Lib.hid (own_block HO.out (fun j hj => hB7.block j (HO.out.lt j hj).2))
          go_wp2_with (first
            | (at_builtin; refine wpList_append_own _ rfl _ _ 72 rfl W.heap.size 5 i0 _ 1 1 Try.underlying72 hi0 hz0 hz1 hz2 rfl (by decide) v acc.length _ rfl HO8.out ⟨wr.heap.size, 0, none⟩ 3 3 [.int .u8 92, .int .u8 ((hexDig (s[k].toNat / 16)).toNat : Int), .int .u8 ((hexDig (s[k].toNat % 16)).toNat : Int)] rfl rfl ?d1 ?d2 ?d3 ?d4 ?d5 ?_))
          case d1 =>
            intro j q hj
            match j, hj with
            | 0, hj => simp at hj; subst hj; simp [Addr.add]
            | 1, hj => simp at hj; subst hj; simp [Addr.add]
            | 2, hj => simp at hj; subst hj; simp [Addr.add]
          case d2 => intro q hq; simp at hq; rcases hq with rfl | rfl | rfl <;> rfl
          case d3 => unfold maxLen; have := HOL.out; omega
          case d4 => have := HOL.out; omega
          case d5 => simp; have := hB.size; omega
          intro v' w9 hown9 hg9 _
          have hU : u8s acc ++ [.int .u8 92, .int .u8 ((hexDig (s[k].toNat / 16)).toNat : Int), .int .u8 ((hexDig (s[k].toNat % 16)).toNat : Int)] = u8s (acc ++ escB s[k]) := by rw [HS1.out, u8s_app]; rfl
          rw [hU, show acc.length + 3 = (acc ++ escB s[k]).length by rw [HS1.out, List.length_append]; rfl] at hown9
          have HO9 := Lib.hid hown9
          have hB9 := (hB.trans (hB7.mono hB.size)).grown hg9 (by have := hB.size; simp; omega) (fun g hg => (HO.out.lt g hg).1)
          clear hU hown9 hg9 hB7
          go_wp2_with fail
          go_roundw
          case rel => exact ⟨k + 1, acc ++ escB s[k], _, rfl, by go_num, hlt, by omega, by rw [HT.out, HA.out]; rfl, HO9.out, hB9⟩
          case measure => simp [intOf]; omega
        · have j1 : decide ((s[k].toNat : Int) < 32) = false := by simp; omega
          by_cases g2 : 126 < s[k].toNat
          · have j2 : decide ((126 : Int) < (s[k].toNat : Int)) = true := by simp; omega
            have x1 := hexD_div s[k]
            have x2 := hexD_and s[k]
            have y1 : (s[k].toNat : Int) / 16 < 16 := by have := s[k].toNat_lt; omega
            have HS1 := Lib.hid (esc_hex (c := s[k]) (.inr (.inl g2)))
            clear g1 g2
            go_wp2_with fail
            refine Mix.region (fun w' => ∃ Y, w' = Sx.ext wr Y) 10 [0, 0, 0, 0, 0, 0, 0, 0, 0, 1, 9, 9] [true, false] (by kernel_rfl) (fun _ _ d _ _ h => by cases d <;> exact h) (by rfl) (by kernel_rfl) ⟨wr.drew, Sx.ext_of (Below.refl _ _).drew⟩ ?_
            simp only [Mix.selP_cons, Mix.selP_nil, Mix.sel_cons, Mix.sel_nil, Nat.reduceBEq, Nat.reduceAdd, cond_true, cond_false, List.drop_succ_cons, List.drop_zero]
            refine Mix.parts_q ?_
            repeat (go_big_quiet_step (fail))
            refine wpQuiet_nil ?_
            refine Mix.parts_e ?_
            refine Mix.eff_step (fun K hK => ?_)
            go_simp
            have hB7 := (Below.refl wr.heap.size wr).drew.alloc (Nat.le_refl _) (.cells #[.int .u8 92, .int .u8 ((hexDig (s[k].toNat / 16)).toNat : Int), .int .u8 ((hexDig (s[k].toNat % 16)).toNat : Int)] 5)
            refine hK _ _ ⟨_, Sx.ext_of hB7⟩ ?_
            clear hK K x1 x2 y1
            refine Mix.eff_nil (Mix.parts_n ?_)
            have HO8 := Lib.hid (own_block HO.out (fun j hj => hB7.block j (HO.out.lt j hj).2))
            go_wp2_with (first
              | (at_builtin; refine wpList_append_own _ rfl _ _ 72 rfl W.heap.size 5 i0 _ 1 1 Try.underlying72 hi0 hz0 hz1 hz2 rfl (by decide) v acc.length _ rfl HO8.out ⟨wr.heap.size, 0, none⟩ 3 3 [.int .u8 92, .int .u8 ((hexDig (s[k].toNat / 16)).toNat : Int), .int .u8 ((hexDig (s[k].toNat % 16)).toNat : Int)] rfl rfl ?d1 ?d2 ?d3 ?d4 ?d5 ?_))
            case d1 =>
              intro j q hj
              match j, hj with
              | 0, hj => simp at hj; subst hj; simp [Addr.add]
              | 1, hj => simp at hj; subst hj; simp [Addr.add]
              | 2, hj => simp at hj; subst hj; simp [Addr.add]
            case d2 => intro q hq; simp at hq; rcases hq with rfl | rfl | rfl <;> rfl
            case d3 => unfold maxLen; have := HOL.out; omega
            case d4 => have := HOL.out; omega
            case d5 => simp; have := hB.size; omega
            intro v' w9 hown9 hg9 _
            have hU : u8s acc ++ [.int .u8 92, .int .u8 ((hexDig (s[k].toNat / 16)).toNat : Int), .int .u8 ((hexDig (s[k].toNat % 16)).toNat : Int)] = u8s (acc ++ escB s[k]) := by rw [HS1.out, u8s_app]; rfl
            rw [hU, show acc.length + 3 = (acc ++ escB s[k]).length by rw [HS1.out, List.length_append]; rfl] at hown9
            have HO9 := Lib.hid hown9
            have hB9 := (hB.trans (hB7.mono hB.size)).grown hg9 (by have := hB.size; simp; omega) (fun g hg => (HO.out.lt g hg).1)
            clear hU hown9 hg9 hB7
            go_wp2_with fail
            go_roundw
            case rel => exact ⟨k + 1, acc ++ escB s[k], _, rfl, by go_num, hlt, by omega, by rw [HT.out, HA.out]; rfl, HO9.out, hB9⟩
            case measure => simp [intOf]; omega
          · have j2 : decide ((126 : Int) < (s[k].toNat : Int)) = false := by simp; omega
            by_cases g3 : s[k] = 34
            · have j3 : ((s[k].toNat : Int) == 34) = true := by rw [g3]; rfl
              have x1 := hexD_div s[k]
              have x2 := hexD_and s[k]
              have y1 : (s[k].toNat : Int) / 16 < 16 := by have := s[k].toNat_lt; omega
              have HS1 := Lib.hid (esc_hex (c := s[k]) (.inr (.inr (.inl g3))))
              clear g1 g2 g3
              go_wp2_with fail
              refine Mix.region (fun w' => ∃ Y, w' = Sx.ext wr Y) 10 [0, 0, 0, 0, 0, 0, 0, 0, 0, 1, 9, 9] [true, false] (by kernel_rfl) (fun _ _ d _ _ h => by cases d <;> exact h) (by rfl) (by kernel_rfl) ⟨wr.drew, Sx.ext_of (Below.refl _ _).drew⟩ ?_
              simp only [Mix.selP_cons, Mix.selP_nil, Mix.sel_cons, Mix.sel_nil, Nat.reduceBEq, Nat.reduceAdd, cond_true, cond_false, List.drop_succ_cons, List.drop_zero]
              refine Mix.parts_q ?_
              repeat (go_big_quiet_step (fail))
              refine wpQuiet_nil ?_
              refine Mix.parts_e ?_
              refine Mix.eff_step (fun K hK => ?_)
              go_simp
              have hB7 := (Below.refl wr.heap.size wr).drew.alloc (Nat.le_refl _) (.cells #[.int .u8 92, .int .u8 ((hexDig (s[k].toNat / 16)).toNat : Int), .int .u8 ((hexDig (s[k].toNat % 16)).toNat : Int)] 5)
              refine hK _ _ ⟨_, Sx.ext_of hB7⟩ ?_
              clear hK K x1 x2 y1
              refine Mix.eff_nil (Mix.parts_n ?_)
              have HO8 := Lib.hid (own_block HO.out (fun j hj => hB7.block j (HO.out.lt j hj).2))
              go_wp2_with (first
                | (at_builtin; refine wpList_append_own _ rfl _ _ 72 rfl W.heap.size 5 i0 _ 1 1 Try.underlying72 hi0 hz0 hz1 hz2 rfl (by decide) v acc.length _ rfl HO8.out ⟨wr.heap.size, 0, none⟩ 3 3 [.int .u8 92, .int .u8 ((hexDig (s[k].toNat / 16)).toNat : Int), .int .u8 ((hexDig (s[k].toNat % 16)).toNat : Int)] rfl rfl ?d1 ?d2 ?d3 ?d4 ?d5 ?_))
              case d1 =>
                intro j q hj
                match j, hj with
                | 0, hj => simp at hj; subst hj; simp [Addr.add]
                | 1, hj => simp at hj; subst hj; simp [Addr.add]
                | 2, hj => simp at hj; subst hj; simp [Addr.add]
              case d2 => intro q hq; simp at hq; rcases hq with rfl | rfl | rfl <;> rfl
              case d3 => unfold maxLen; have := HOL.out; omega
              case d4 => have := HOL.out; omega
              case d5 => simp; have := hB.size; omega
              intro v' w9 hown9 hg9 _
              have hU : u8s acc ++ [.int .u8 92, .int .u8 ((hexDig (s[k].toNat / 16)).toNat : Int), .int .u8 ((hexDig (s[k].toNat % 16)).toNat : Int)] = u8s (acc ++ escB s[k]) := by rw [HS1.out, u8s_app]; rfl
              rw [hU, show acc.length + 3 = (acc ++ escB s[k]).length by rw [HS1.out, List.length_append]; rfl] at hown9
              have HO9 := Lib.hid hown9
              have hB9 := (hB.trans (hB7.mono hB.size)).grown hg9 (by have := hB.size; simp; omega) (fun g hg => (HO.out.lt g hg).1)
              clear hU hown9 hg9 hB7
              go_wp2_with fail
              go_roundw
              case rel => exact ⟨k + 1, acc ++ escB s[k], _, rfl, by go_num, hlt, by omega, by rw [HT.out, HA.out]; rfl, HO9.out, hB9⟩
              case measure => simp [intOf]; omega
            · have j3 : ((s[k].toNat : Int) == 34) = false := by
                rw [beq_eq_false_iff_ne]
                intro e
                exact g3 (u8_eq (n := 34) (by omega) (by decide))
              by_cases g4 : s[k] = 92
              · have j4 : ((s[k].toNat : Int) == 92) = true := by rw [g4]; rfl
                have x1 := hexD_div s[k]
                have x2 := hexD_and s[k]
                have y1 : (s[k].toNat : Int) / 16 < 16 := by have := s[k].toNat_lt; omega
                have HS1 := Lib.hid (esc_hex (c := s[k]) (.inr (.inr (.inr g4))))
                clear g1 g2 g3 g4
                go_wp2_with fail
                refine Mix.region (fun w' => ∃ Y, w' = Sx.ext wr Y) 10 [0, 0, 0, 0, 0, 0, 0, 0, 0, 1, 9, 9] [true, false] (by kernel_rfl) (fun _ _ d _ _ h => by cases d <;> exact h) (by rfl) (by kernel_rfl) ⟨wr.drew, Sx.ext_of (Below.refl _ _).drew⟩ ?_
                simp only [Mix.selP_cons, Mix.selP_nil, Mix.sel_cons, Mix.sel_nil, Nat.reduceBEq, Nat.reduceAdd, cond_true, cond_false, List.drop_succ_cons, List.drop_zero]
                refine Mix.parts_q ?_
                repeat (go_big_quiet_step (fail))
                refine wpQuiet_nil ?_
                refine Mix.parts_e ?_
                refine Mix.eff_step (fun K hK => ?_)
                go_simp
                have hB7 := (Below.refl wr.heap.size wr).drew.alloc (Nat.le_refl _) (.cells #[.int .u8 92, .int .u8 ((hexDig (s[k].toNat / 16)).toNat : Int), .int .u8 ((hexDig (s[k].toNat % 16)).toNat : Int)] 5)
                refine hK _ _ ⟨_, Sx.ext_of hB7⟩ ?_
                clear hK K x1 x2 y1
                refine Mix.eff_nil (Mix.parts_n ?_)
                have HO8 := Lib.hid (own_block HO.out (fun j hj => hB7.block j (HO.out.lt j hj).2))
                go_wp2_with (first
                  | (at_builtin; refine wpList_append_own _ rfl _ _ 72 rfl W.heap.size 5 i0 _ 1 1 Try.underlying72 hi0 hz0 hz1 hz2 rfl (by decide) v acc.length _ rfl HO8.out ⟨wr.heap.size, 0, none⟩ 3 3 [.int .u8 92, .int .u8 ((hexDig (s[k].toNat / 16)).toNat : Int), .int .u8 ((hexDig (s[k].toNat % 16)).toNat : Int)] rfl rfl ?d1 ?d2 ?d3 ?d4 ?d5 ?_))
                case d1 =>
                  intro j q hj
                  match j, hj with
                  | 0, hj => simp at hj; subst hj; simp [Addr.add]
                  | 1, hj => simp at hj; subst hj; simp [Addr.add]
                  | 2, hj => simp at hj; subst hj; simp [Addr.add]
                case d2 => intro q hq; simp at hq; rcases hq with rfl | rfl | rfl <;> rfl
                case d3 => unfold maxLen; have := HOL.out; omega
                case d4 => have := HOL.out; omega
                case d5 => simp; have := hB.size; omega
                intro v' w9 hown9 hg9 _
                have hU : u8s acc ++ [.int .u8 92, .int .u8 ((hexDig (s[k].toNat / 16)).toNat : Int), .int .u8 ((hexDig (s[k].toNat % 16)).toNat : Int)] = u8s (acc ++ escB s[k]) := by rw [HS1.out, u8s_app]; rfl
                rw [hU, show acc.length + 3 = (acc ++ escB s[k]).length by rw [HS1.out, List.length_append]; rfl] at hown9
                have HO9 := Lib.hid hown9
                have hB9 := (hB.trans (hB7.mono hB.size)).grown hg9 (by have := hB.size; simp; omega) (fun g hg => (HO.out.lt g hg).1)
                clear hU hown9 hg9 hB7
                go_wp2_with fail
                go_roundw
                case rel => exact ⟨k + 1, acc ++ escB s[k], _, rfl, by go_num, hlt, by omega, by rw [HT.out, HA.out]; rfl, HO9.out, hB9⟩
                case measure => simp [intOf]; omega
              · have j4 : ((s[k].toNat : Int) == 92) = false := by
                  rw [beq_eq_false_iff_ne]
                  intro e
                  exact g4 (u8_eq (n := 92) (by omega) (by decide))
                have HS1 := Lib.hid (esc_one (c := s[k]) (fun e => e.elim g1 fun e => e.elim g2 fun e => e.elim g3 g4))
                clear g1 g2 g3 g4
                have hB7 := (Below.refl wr.heap.size wr).alloc (Nat.le_refl _) (.cells #[.int .u8 (s[k].toNat : Int)] 5)
                have HO8 := Lib.hid (own_block HO.out (fun j hj => hB7.block j (HO.out.lt j hj).2))
                go_wp2_with (first
                  | (at_builtin; refine wpList_append_own _ rfl _ _ 72 rfl W.heap.size 5 i0 _ 1 1 Try.underlying72 hi0 hz0 hz1 hz2 rfl (by decide) v acc.length _ rfl HO8.out ⟨wr.heap.size, 0, none⟩ 1 1 [.int .u8 (s[k].toNat : Int)] rfl rfl ?d1 ?d2 ?d3 ?d4 ?d5 ?_))
                case d1 =>
                  intro j q hj
                  match j, hj with
                  | 0, hj => simp at hj; subst hj; simp [Addr.add]
                case d2 => intro q hq; simp at hq; subst hq; rfl
                case d3 => unfold maxLen; have := HOL.out; omega
                case d4 => have := HOL.out; omega
                case d5 => simp; have := hB.size; omega
                intro v' w9 hown9 hg9 _
                have hU : u8s acc ++ [.int .u8 (s[k].toNat : Int)] = u8s (acc ++ escB s[k]) := by rw [HS1.out, u8s_app]; rfl
                rw [hU, show acc.length + 1 = (acc ++ escB s[k]).length by rw [HS1.out, List.length_append]; rfl] at hown9
                have HO9 := Lib.hid hown9
                have hB9 := (hB.trans (hB7.mono hB.size)).grown hg9 (by have := hB.size; simp; omega) (fun g hg => (HO.out.lt g hg).1)
                clear hU hown9 hg9 hB7
                go_wp2_with fail
                go_roundw
                case rel => exact ⟨k + 1, acc ++ escB s[k], _, rfl, by go_num, hlt, by omega, by rw [HT.out, HA.out]; rfl, HO9.out, hB9⟩
                case measure => simp [intOf]; omega
      · have j9 : decide ((k : Int) < 5000) = false := by simp; omega
        have HQ := Lib.hid (show quoteL (s.data.toList.take 5000) = acc ++ [34] by rw [HA.out]; rw [show k = 5000 by omega]; rfl)
        have hB7 := (Below.refl wr.heap.size wr).alloc (Nat.le_refl _) (.cells #[.int .u8 34] 5)
        have HO8 := Lib.hid (own_block HO.out (fun j hj => hB7.block j (HO.out.lt j hj).2))
        go_wp2_with (first
          | (at_builtin; refine wpList_append_own _ rfl _ _ 72 rfl W.heap.size 5 i0 _ 1 1 Try.underlying72 hi0 hz0 hz1 hz2 rfl (by decide) v acc.length _ rfl HO8.out ⟨wr.heap.size, 0, none⟩ 1 1 [.int .u8 34] rfl rfl ?d1 ?d2 ?d3 ?d4 ?d5 ?_))
        case d1 =>
          intro j q hj
          match j, hj with
          | 0, hj => simp at hj; subst hj; simp [Addr.add]
        case d2 => intro q hq; simp at hq; subst hq; rfl
        case d3 => unfold maxLen; have := HOL.out; omega
        case d4 => have := HOL.out; omega
        case d5 => simp; have := hB.size; omega
        intro v' w9 hown9 hg9 _
        have hB9 := (hB.trans (hB7.mono hB.size)).grown hg9 (by have := hB.size; simp; omega) (fun g hg => (HO.out.lt g hg).1)
        have hU : u8s acc ++ [.int .u8 34] = u8s (acc ++ [34]) := (u8s_app acc [34]).symm
        rw [hU, show acc.length + 1 = (acc ++ [34]).length by rw [List.length_append]; rfl] at hown9
        have hcv := conv_any hown9
        clear hU hown9 hg9 hB7
        go_wp2_with fail
        go_ret
        rw [HQ.out]
        exact ⟨rfl, hB9⟩
    · have j0 : decide ((k : Int) < (s.size : Int)) = false := by simp; omega
      have HQ := Lib.hid (show quoteL (s.data.toList.take 5000) = acc ++ [34] by rw [HA.out]; rw [List.take_of_length_le (by rw [← HZ.out]; omega), List.take_of_length_le (by rw [← HZ.out]; omega)]; rfl)
      have hB7 := (Below.refl wr.heap.size wr).alloc (Nat.le_refl _) (.cells #[.int .u8 34] 5)
      have HO8 := Lib.hid (own_block HO.out (fun j hj => hB7.block j (HO.out.lt j hj).2))
      go_wp2_with (first
        | (at_builtin; refine wpList_append_own _ rfl _ _ 72 rfl W.heap.size 5 i0 _ 1 1 Try.underlying72 hi0 hz0 hz1 hz2 rfl (by decide) v acc.length _ rfl HO8.out ⟨wr.heap.size, 0, none⟩ 1 1 [.int .u8 34] rfl rfl ?d1 ?d2 ?d3 ?d4 ?d5 ?_))
      case d1 =>
        intro j q hj
        match j, hj with
        | 0, hj => simp at hj; subst hj; simp [Addr.add]
      case d2 => intro q hq; simp at hq; subst hq; rfl
      case d3 => unfold maxLen; have := HOL.out; omega
      case d4 => have := HOL.out; omega
      case d5 => simp; have := hB.size; omega
      intro v' w9 hown9 hg9 _
      have hB9 := (hB.trans (hB7.mono hB.size)).grown hg9 (by have := hB.size; simp; omega) (fun g hg => (HO.out.lt g hg).1)
      have hU : u8s acc ++ [.int .u8 34] = u8s (acc ++ [34]) := (u8s_app acc [34]).symm
      rw [hU, show acc.length + 1 = (acc ++ [34]).length by rw [List.length_append]; rfl] at hown9
      have hcv := conv_any hown9
      clear hU hown9 hg9 hB7
      go_wp2_with fail
      go_ret
      rw [HQ.out]
      exact ⟨rfl, hB9⟩
end Rc
end Go.Proofs.Ytcigggffaofkhaa

/-
  Walk: the reference's Text. (printed by gen_RpJ.py)
-/
namespace Go.Proofs.Ytcigggffaofkhaa
open Go.RowKit
namespace Rc

theorem repX_kind {W : World} {S : Nat → Prop} {x : E} {k' : Int} {s' : ByteArray} {sl : Option Addr} {n c : Nat} (h : RepX W S x (.agg #[.int .i64 k', .string s', .slice sl n c])) : x.kind = k' := by
  cases h
  rfl
theorem rbs_sum : ∀ l : List E, (∀ y ∈ l, Wf y) → ((l.map fun x => brL x.kind (rtx x)).map fun t => t.length + 3).sum ≤ 7 * sizeWs l
  | [], _ => by simp
  | y :: l, hl => by
    rw [List.map_cons, List.map_cons, List.sum_cons, sizeWs]
    have := rbs_sum l fun z hz => hl z (List.mem_cons_of_mem _ hz)
    have := rtx_le y (hl y (List.mem_cons_self ..))
    have := brL_le y.kind (rtx y)
    omega
theorem sizeWs_take : ∀ (l : List E) (k : Nat), sizeWs (l.take k) ≤ sizeWs l
  | [], k => by simp
  | x :: l, 0 => by rw [List.take_zero, sizeWs]; omega
  | x :: l, k + 1 => by rw [List.take_succ_cons, sizeWs, sizeWs]; have := sizeWs_take l k; omega
theorem catR_small {ks : List E} (hw : ∀ y ∈ ks, Wf y) (hs : sizeWs ks ≤ 20000) (k : Nat) : (catR ((rbs ks).take k) 0 []).length ≤ 140000 := by
  have h1 := catR_le ((rbs ks).take k) 0 []
  have h2 := rbs_sum (ks.take k) fun y hy => hw y (List.mem_of_mem_take hy)
  have h3 := sizeWs_take ks k
  rw [rbs_map, ← List.map_take] at h1
  rw [rbs_map, ← List.map_take]
  simp only [List.length_nil] at h1
  omega
def TextR (h : Nat) : Prop := ∀ x : E, SizeOf.sizeOf x < h → Wf x → sizeW x ≤ 20000 → ∀ (W : World) (S : Nat → Prop) (v : Value), (∀ k, S k → k < W.heap.size) → RepX W S x v →
  Calls Try.prog 41 #[v] W fun e W' => e = .returned (.string ⟨(rtx x).toArray⟩) ∧ Below W.heap.size W W'
theorem ba_list (s : ByteArray) : (⟨s.data.toList.toArray⟩ : ByteArray) = s := by simp
set_option maxHeartbeats 4000000 in
set_option maxRecDepth 100000 in
theorem rtext_1 (h : Nat) (_ih : TextR h) (s : ByteArray) (ks : List E) (hx : SizeOf.sizeOf (E.mk 1 s ks) < h + 1) (hw : Wf (.mk 1 s ks)) (hs : sizeW (.mk 1 s ks) ≤ 20000) (W : World) (S : Nat → Prop) (v : Value) (hS : ∀ k, S k → k < W.heap.size) (hr : RepX W S (.mk 1 s ks) v) :
    Calls Try.prog 41 #[v] W fun e W' => e = .returned (.string ⟨(rtx (.mk 1 s ks)).toArray⟩) ∧ Below W.heap.size W W' := by
  obtain ⟨hpo, hwk⟩ := wf_mk hw
  replace hpo := part_1 hpo
  rw [sizeW] at hs
  cases hr with
  | mk _ _ _ sl cap x1 y1 z1 hcap hc hrk =>
    have hA : Below W.heap.size W (W.alloc (.cells #[.int .i64 1, .string s, .slice sl ks.length cap] 26)) := (Below.refl _ _).alloc (Nat.le_refl _) _
    have hX : (W.alloc (.cells #[.int .i64 1, .string s, .slice sl ks.length cap] 26)).heap[W.heap.size]? = some (.cells #[.int .i64 1, .string s, .slice sl ks.length cap] 26 (0, 0)) := heap_alloc_new W _
    have c0 := obj_cell (i := 0) hX rfl
    have c1 := obj_cell (i := 1) hX rfl
    have c2 := obj_cell (i := 2) hX rfl
    have HC := Lib.hid hc
    have HR := Lib.hid hrk
    have HS := Lib.hid hS
    have HW := Lib.hid hwk
    have HX := Lib.hid hx
    have HZ := Lib.hid hs
    have HO := Lib.hid hpo
    clear hc hrk hS hwk hx hs hpo hw hcap
    have hsz : s.size ≤ 20000 := by have := HZ.out; omega
    have hkl : ks.length ≤ 20000 := by have := HZ.out; have := sizeWs_len ks; omega
    have HT := Lib.hid (show rtx (.mk 1 s ks) = quoteL (s.data.toList.take 5000) by rw [rtx, if_pos rfl])
    have h1 := rquoted_any s (W.alloc (.cells #[.int .i64 1, .string s, .slice sl ks.length cap] 26))
    go_enter Try.func41, Try.ntmps41
    go_wp2_with fail
    refine h1.mono ?_
    rintro e w9 ⟨rfl, hB⟩
    clear h1
    go_wp2_with fail
    go_ret
    rw [HT.out]
    exact ⟨rfl, hA.trans (hB.mono hA.size)⟩
set_option maxHeartbeats 4000000 in
set_option maxRecDepth 100000 in
theorem rtext_2 (h : Nat) (_ih : TextR h) (s : ByteArray) (ks : List E) (hx : SizeOf.sizeOf (E.mk 2 s ks) < h + 1) (hw : Wf (.mk 2 s ks)) (hs : sizeW (.mk 2 s ks) ≤ 20000) (W : World) (S : Nat → Prop) (v : Value) (hS : ∀ k, S k → k < W.heap.size) (hr : RepX W S (.mk 2 s ks) v) :
    Calls Try.prog 41 #[v] W fun e W' => e = .returned (.string ⟨(rtx (.mk 2 s ks)).toArray⟩) ∧ Below W.heap.size W W' := by
  obtain ⟨hpo, hwk⟩ := wf_mk hw
  replace hpo := part_2 hpo
  rw [sizeW] at hs
  cases hr with
  | mk _ _ _ sl cap x1 y1 z1 hcap hc hrk =>
    have hA : Below W.heap.size W (W.alloc (.cells #[.int .i64 2, .string s, .slice sl ks.length cap] 26)) := (Below.refl _ _).alloc (Nat.le_refl _) _
    have hX : (W.alloc (.cells #[.int .i64 2, .string s, .slice sl ks.length cap] 26)).heap[W.heap.size]? = some (.cells #[.int .i64 2, .string s, .slice sl ks.length cap] 26 (0, 0)) := heap_alloc_new W _
    have c0 := obj_cell (i := 0) hX rfl
    have c1 := obj_cell (i := 1) hX rfl
    have c2 := obj_cell (i := 2) hX rfl
    have HC := Lib.hid hc
    have HR := Lib.hid hrk
    have HS := Lib.hid hS
    have HW := Lib.hid hwk
    have HX := Lib.hid hx
    have HZ := Lib.hid hs
    have HO := Lib.hid hpo
    clear hc hrk hS hwk hx hs hpo hw hcap
    have hsz : s.size ≤ 20000 := by have := HZ.out; omega
    have hkl : ks.length ≤ 20000 := by have := HZ.out; have := sizeWs_len ks; omega
    have HT := Lib.hid (show rtx (.mk 2 s ks) = s.data.toList by rw [rtx, if_neg (by decide), if_pos rfl])
    go_enter Try.func41, Try.ntmps41
    go_wp2_with fail
    go_ret
    rw [HT.out, ba_list]
    exact ⟨rfl, hA⟩
set_option maxHeartbeats 4000000 in
set_option maxRecDepth 100000 in
theorem rtext_4 (h : Nat) (ih : TextR h) (s : ByteArray) (ks : List E) (hx : SizeOf.sizeOf (E.mk 4 s ks) < h + 1) (hw : Wf (.mk 4 s ks)) (hs : sizeW (.mk 4 s ks) ≤ 20000) (W : World) (S : Nat → Prop) (v : Value) (hS : ∀ k, S k → k < W.heap.size) (hr : RepX W S (.mk 4 s ks) v) :
    Calls Try.prog 41 #[v] W fun e W' => e = .returned (.string ⟨(rtx (.mk 4 s ks)).toArray⟩) ∧ Below W.heap.size W W' := by
  obtain ⟨hpo, hwk⟩ := wf_mk hw
  replace hpo := part_4 hpo
  rw [sizeW] at hs
  cases hr with
  | mk _ _ _ sl cap x1 y1 z1 hcap hc hrk =>
    have hA : Below W.heap.size W (W.alloc (.cells #[.int .i64 4, .string s, .slice sl ks.length cap] 26)) := (Below.refl _ _).alloc (Nat.le_refl _) _
    have hX : (W.alloc (.cells #[.int .i64 4, .string s, .slice sl ks.length cap] 26)).heap[W.heap.size]? = some (.cells #[.int .i64 4, .string s, .slice sl ks.length cap] 26 (0, 0)) := heap_alloc_new W _
    have c0 := obj_cell (i := 0) hX rfl
    have c1 := obj_cell (i := 1) hX rfl
    have c2 := obj_cell (i := 2) hX rfl
    have HC := Lib.hid hc
    have HR := Lib.hid hrk
    have HS := Lib.hid hS
    have HW := Lib.hid hwk
    have HX := Lib.hid hx
    have HZ := Lib.hid hs
    have HO := Lib.hid hpo
    clear hc hrk hS hwk hx hs hpo hw hcap
    have hsz : s.size ≤ 20000 := by have := HZ.out; omega
    have hkl : ks.length ≤ 20000 := by have := HZ.out; have := sizeWs_len ks; omega
    obtain ⟨a, b, c, d, rfl⟩ : ∃ a b c d, ks = [a, b, c, d] := by
      match ks, HO.out.1 with
      | [a, b, c, d], _ => exact ⟨_, _, _, _, rfl⟩
    change Below W.heap.size W (W.alloc (.cells #[.int .i64 4, .string s, .slice sl 4 cap] 26)) at hA
    obtain ⟨X, hXe⟩ : ∃ X, X = W.alloc (.cells #[.int .i64 4, .string s, .slice sl 4 cap] 26) := ⟨_, rfl⟩
    have HAX := Lib.hid (show Below W.heap.size W X by rw [hXe]; exact hA)
    have HSX := Lib.hid (show ∀ k, S k → k < X.heap.size from fun k hk => Nat.lt_of_lt_of_le (HS.out k hk) HAX.out.size)
    obtain ⟨bk0, o0, e0, hbl0, h1, h2, h3⟩ := HC.out 0 a rfl
    have hk0 : ∀ Y, Calls Try.prog 41 #[.agg #[x1 0, y1 0, z1 0]] (Sx.ext X Y) fun e W' => e = .returned (.string ⟨(rtx a).toArray⟩) ∧ Below (Sx.ext X Y).heap.size (Sx.ext X Y) W' := fun Y =>
      ih a (by have := kid_lt (k := 4) (s := s) (ks := [a, b, c, d]) (i := 0) (x := a) rfl; have := HX.out; omega) (HW.out a (by simp)) (by have := HZ.out; simp only [sizeWs] at this; omega) _ S _ (fun k hk => Nat.lt_of_lt_of_le (HSX.out k hk) (Sx.ext_below X Y).size) ((HR.out 0 a rfl).move fun b hb => ⟨hb, ((Sx.ext_below X Y).block b (HSX.out b hb)).trans (HAX.out.block b (HS.out b hb))⟩)
    have r0 := rtx_le a (HW.out a (by simp))
    subst e0
    have g0a : X.cell? ⟨bk0, o0, none⟩ = some (x1 0) := (HAX.out.cell (p := ⟨bk0, _, none⟩) (HS.out bk0 hbl0)).trans h1
    have g0b : X.cell? ⟨bk0, o0 + 1, none⟩ = some (y1 0) := (HAX.out.cell (p := ⟨bk0, _, none⟩) (HS.out bk0 hbl0)).trans h2
    have g0c : X.cell? ⟨bk0, o0 + 2, none⟩ = some (z1 0) := (HAX.out.cell (p := ⟨bk0, _, none⟩) (HS.out bk0 hbl0)).trans h3
    have q0a := Sx.ext_cell g0a
    have q0b := Sx.ext_cell g0b
    have q0c := Sx.ext_cell g0c
    clear h1 h2 h3 g0a g0b g0c
    obtain ⟨bk1, o1, e1, hbl1, h1, h2, h3⟩ := HC.out 1 b rfl
    have hk1 : ∀ Y, Calls Try.prog 41 #[.agg #[x1 1, y1 1, z1 1]] (Sx.ext X Y) fun e W' => e = .returned (.string ⟨(rtx b).toArray⟩) ∧ Below (Sx.ext X Y).heap.size (Sx.ext X Y) W' := fun Y =>
      ih b (by have := kid_lt (k := 4) (s := s) (ks := [a, b, c, d]) (i := 1) (x := b) rfl; have := HX.out; omega) (HW.out b (by simp)) (by have := HZ.out; simp only [sizeWs] at this; omega) _ S _ (fun k hk => Nat.lt_of_lt_of_le (HSX.out k hk) (Sx.ext_below X Y).size) ((HR.out 1 b rfl).move fun b hb => ⟨hb, ((Sx.ext_below X Y).block b (HSX.out b hb)).trans (HAX.out.block b (HS.out b hb))⟩)
    have r1 := rtx_le b (HW.out b (by simp))
    simp only [Option.some.injEq, Addr.mk.injEq, and_true] at e1
    obtain ⟨rfl, rfl⟩ := e1
    have g1a : X.cell? ⟨bk0, o0 + 3, none⟩ = some (x1 1) := (HAX.out.cell (p := ⟨bk0, _, none⟩) (HS.out bk0 hbl1)).trans h1
    have g1b : X.cell? ⟨bk0, o0 + 3 + 1, none⟩ = some (y1 1) := (HAX.out.cell (p := ⟨bk0, _, none⟩) (HS.out bk0 hbl1)).trans h2
    have g1c : X.cell? ⟨bk0, o0 + 3 + 2, none⟩ = some (z1 1) := (HAX.out.cell (p := ⟨bk0, _, none⟩) (HS.out bk0 hbl1)).trans h3
    have q1a := Sx.ext_cell g1a
    have q1b := Sx.ext_cell g1b
    have q1c := Sx.ext_cell g1c
    clear h1 h2 h3 g1a g1b g1c
    obtain ⟨bk2, o2, e2, hbl2, h1, h2, h3⟩ := HC.out 2 c rfl
    have hk2 : ∀ Y, Calls Try.prog 41 #[.agg #[x1 2, y1 2, z1 2]] (Sx.ext X Y) fun e W' => e = .returned (.string ⟨(rtx c).toArray⟩) ∧ Below (Sx.ext X Y).heap.size (Sx.ext X Y) W' := fun Y =>
      ih c (by have := kid_lt (k := 4) (s := s) (ks := [a, b, c, d]) (i := 2) (x := c) rfl; have := HX.out; omega) (HW.out c (by simp)) (by have := HZ.out; simp only [sizeWs] at this; omega) _ S _ (fun k hk => Nat.lt_of_lt_of_le (HSX.out k hk) (Sx.ext_below X Y).size) ((HR.out 2 c rfl).move fun b hb => ⟨hb, ((Sx.ext_below X Y).block b (HSX.out b hb)).trans (HAX.out.block b (HS.out b hb))⟩)
    have r2 := rtx_le c (HW.out c (by simp))
    simp only [Option.some.injEq, Addr.mk.injEq, and_true] at e2
    obtain ⟨rfl, rfl⟩ := e2
    have g2a : X.cell? ⟨bk0, o0 + 6, none⟩ = some (x1 2) := (HAX.out.cell (p := ⟨bk0, _, none⟩) (HS.out bk0 hbl2)).trans h1
    have g2b : X.cell? ⟨bk0, o0 + 6 + 1, none⟩ = some (y1 2) := (HAX.out.cell (p := ⟨bk0, _, none⟩) (HS.out bk0 hbl2)).trans h2
    have g2c : X.cell? ⟨bk0, o0 + 6 + 2, none⟩ = some (z1 2) := (HAX.out.cell (p := ⟨bk0, _, none⟩) (HS.out bk0 hbl2)).trans h3
    have q2a := Sx.ext_cell g2a
    have q2b := Sx.ext_cell g2b
    have q2c := Sx.ext_cell g2c
    clear h1 h2 h3 g2a g2b g2c
    obtain ⟨bk3, o3, e3, hbl3, h1, h2, h3⟩ := HC.out 3 d rfl
    have hk3 : ∀ Y, Calls Try.prog 41 #[.agg #[x1 3, y1 3, z1 3]] (Sx.ext X Y) fun e W' => e = .returned (.string ⟨(rtx d).toArray⟩) ∧ Below (Sx.ext X Y).heap.size (Sx.ext X Y) W' := fun Y =>
      ih d (by have := kid_lt (k := 4) (s := s) (ks := [a, b, c, d]) (i := 3) (x := d) rfl; have := HX.out; omega) (HW.out d (by simp)) (by have := HZ.out; simp only [sizeWs] at this; omega) _ S _ (fun k hk => Nat.lt_of_lt_of_le (HSX.out k hk) (Sx.ext_below X Y).size) ((HR.out 3 d rfl).move fun b hb => ⟨hb, ((Sx.ext_below X Y).block b (HSX.out b hb)).trans (HAX.out.block b (HS.out b hb))⟩)
    have r3 := rtx_le d (HW.out d (by simp))
    simp only [Option.some.injEq, Addr.mk.injEq, and_true] at e3
    obtain ⟨rfl, rfl⟩ := e3
    have g3a : X.cell? ⟨bk0, o0 + 9, none⟩ = some (x1 3) := (HAX.out.cell (p := ⟨bk0, _, none⟩) (HS.out bk0 hbl3)).trans h1
    have g3b : X.cell? ⟨bk0, o0 + 9 + 1, none⟩ = some (y1 3) := (HAX.out.cell (p := ⟨bk0, _, none⟩) (HS.out bk0 hbl3)).trans h2
    have g3c : X.cell? ⟨bk0, o0 + 9 + 2, none⟩ = some (z1 3) := (HAX.out.cell (p := ⟨bk0, _, none⟩) (HS.out bk0 hbl3)).trans h3
    have q3a := Sx.ext_cell g3a
    have q3b := Sx.ext_cell g3b
    have q3c := Sx.ext_cell g3c
    clear h1 h2 h3 g3a g3b g3c
    have hsum : sizeW a + sizeW b + sizeW c + sizeW d + s.size ≤ 20000 := by have := HZ.out; simp only [sizeWs] at this; omega
    have hzs := Lib.size_eq s
    have b0 : (rtx a).length ≤ 140000 := by omega
    have b1 : (rtx b).length ≤ 140000 := by omega
    have b2 : (rtx c).length ≤ 140000 := by omega
    have b3 : (rtx d).length ≤ 140000 := by omega
    clear hzs r0 r1 r2 r3 hsum
    have HT := Lib.hid (show rtx (.mk 4 s [a, b, c, d]) = wIf ++ (rtx a ++ (wEq ++ (rtx b ++ (wThen ++ (rtx c ++ (wElse ++ rtx d)))))) by
      have e : rtx (.mk 4 s [a, b, c, d]) = wIf ++ (rtx a ++ (wEq ++ (rtx b ++ (wThen ++ (rtx c ++ (wElse ++ rtx d)))))) := by rw [rtx, if_neg (by decide), if_neg (by decide), if_neg (by decide), if_pos rfl, rtxs_map]; rfl
      exact e)
    go_enter Try.func41, Try.ntmps41
    go_wp2_with fail
    have t0 := Sx.ext_cell (X := X) (by rw [hXe]; exact c0)
    have t1 := Sx.ext_cell (X := X) (by rw [hXe]; exact c1)
    have t2 := Sx.ext_cell (X := X) (by rw [hXe]; exact c2)
    simp only [List.getElem_toArray, List.getElem_cons_zero, List.getElem_cons_succ] at t0 t1 t2 
    change Code.wp _ _ _ _ (W.alloc (.cells #[.int .i64 4, .string s, .slice (some ⟨bk0, o0, none⟩) 4 cap] 26))
    rw [← hXe]
    clear c0 c1 c2 hX hA hXe
    refine Sx.wp_region_ext (X := X) (by kernel_rfl) (by kernel_rfl) ?_
    repeat (go_big_quiet_step ((go_at_call 41; first | with_reducible exact Sx.calls_ext (hk0 _) | with_reducible exact Sx.calls_ext (hk1 _) | with_reducible exact Sx.calls_ext (hk2 _) | with_reducible exact Sx.calls_ext (hk3 _))))
    refine wpQuiet_nil ?_
    intro _ hw'
    obtain ⟨Y, hw''⟩ := hw'
    subst hw''
    go_wp2_with fail
    go_ret
    rw [HT.out]
    exact ⟨Sx.ret_str (by apply ByteArray.ext; simp [ByteArray.data_append, wIf, wEq, wThen, wElse]), HAX.out.trans ((Sx.ext_below X Y).mono HAX.out.size)⟩
set_option maxHeartbeats 4000000 in
set_option maxRecDepth 100000 in
theorem rtext_5 (h : Nat) (ih : TextR h) (s : ByteArray) (ks : List E) (hx : SizeOf.sizeOf (E.mk 5 s ks) < h + 1) (hw : Wf (.mk 5 s ks)) (hs : sizeW (.mk 5 s ks) ≤ 20000) (W : World) (S : Nat → Prop) (v : Value) (hS : ∀ k, S k → k < W.heap.size) (hr : RepX W S (.mk 5 s ks) v) :
    Calls Try.prog 41 #[v] W fun e W' => e = .returned (.string ⟨(rtx (.mk 5 s ks)).toArray⟩) ∧ Below W.heap.size W W' := by
  obtain ⟨hpo, hwk⟩ := wf_mk hw
  replace hpo := part_5 hpo
  rw [sizeW] at hs
  cases hr with
  | mk _ _ _ sl cap x1 y1 z1 hcap hc hrk =>
    have hA : Below W.heap.size W (W.alloc (.cells #[.int .i64 5, .string s, .slice sl ks.length cap] 26)) := (Below.refl _ _).alloc (Nat.le_refl _) _
    have hX : (W.alloc (.cells #[.int .i64 5, .string s, .slice sl ks.length cap] 26)).heap[W.heap.size]? = some (.cells #[.int .i64 5, .string s, .slice sl ks.length cap] 26 (0, 0)) := heap_alloc_new W _
    have c0 := obj_cell (i := 0) hX rfl
    have c1 := obj_cell (i := 1) hX rfl
    have c2 := obj_cell (i := 2) hX rfl
    have HC := Lib.hid hc
    have HR := Lib.hid hrk
    have HS := Lib.hid hS
    have HW := Lib.hid hwk
    have HX := Lib.hid hx
    have HZ := Lib.hid hs
    have HO := Lib.hid hpo
    clear hc hrk hS hwk hx hs hpo hw hcap
    have hsz : s.size ≤ 20000 := by have := HZ.out; omega
    have hkl : ks.length ≤ 20000 := by have := HZ.out; have := sizeWs_len ks; omega
    obtain ⟨a, b, rfl⟩ : ∃ a b, ks = [a, b] := by
      match ks, HO.out.1 with
      | [a, b], _ => exact ⟨_, _, rfl⟩
    change Below W.heap.size W (W.alloc (.cells #[.int .i64 5, .string s, .slice sl 2 cap] 26)) at hA
    obtain ⟨X, hXe⟩ : ∃ X, X = W.alloc (.cells #[.int .i64 5, .string s, .slice sl 2 cap] 26) := ⟨_, rfl⟩
    have HAX := Lib.hid (show Below W.heap.size W X by rw [hXe]; exact hA)
    have HSX := Lib.hid (show ∀ k, S k → k < X.heap.size from fun k hk => Nat.lt_of_lt_of_le (HS.out k hk) HAX.out.size)
    obtain ⟨bk0, o0, e0, hbl0, h1, h2, h3⟩ := HC.out 0 a rfl
    have hk0 : ∀ Y, Calls Try.prog 41 #[.agg #[x1 0, y1 0, z1 0]] (Sx.ext X Y) fun e W' => e = .returned (.string ⟨(rtx a).toArray⟩) ∧ Below (Sx.ext X Y).heap.size (Sx.ext X Y) W' := fun Y =>
      ih a (by have := kid_lt (k := 5) (s := s) (ks := [a, b]) (i := 0) (x := a) rfl; have := HX.out; omega) (HW.out a (by simp)) (by have := HZ.out; simp only [sizeWs] at this; omega) _ S _ (fun k hk => Nat.lt_of_lt_of_le (HSX.out k hk) (Sx.ext_below X Y).size) ((HR.out 0 a rfl).move fun b hb => ⟨hb, ((Sx.ext_below X Y).block b (HSX.out b hb)).trans (HAX.out.block b (HS.out b hb))⟩)
    have r0 := rtx_le a (HW.out a (by simp))
    subst e0
    have g0a : X.cell? ⟨bk0, o0, none⟩ = some (x1 0) := (HAX.out.cell (p := ⟨bk0, _, none⟩) (HS.out bk0 hbl0)).trans h1
    have g0b : X.cell? ⟨bk0, o0 + 1, none⟩ = some (y1 0) := (HAX.out.cell (p := ⟨bk0, _, none⟩) (HS.out bk0 hbl0)).trans h2
    have g0c : X.cell? ⟨bk0, o0 + 2, none⟩ = some (z1 0) := (HAX.out.cell (p := ⟨bk0, _, none⟩) (HS.out bk0 hbl0)).trans h3
    have q0a := Sx.ext_cell g0a
    have q0b := Sx.ext_cell g0b
    have q0c := Sx.ext_cell g0c
    clear h1 h2 h3 g0a g0b g0c
    obtain ⟨bk1, o1, e1, hbl1, h1, h2, h3⟩ := HC.out 1 b rfl
    have hk1 : ∀ Y, Calls Try.prog 41 #[.agg #[x1 1, y1 1, z1 1]] (Sx.ext X Y) fun e W' => e = .returned (.string ⟨(rtx b).toArray⟩) ∧ Below (Sx.ext X Y).heap.size (Sx.ext X Y) W' := fun Y =>
      ih b (by have := kid_lt (k := 5) (s := s) (ks := [a, b]) (i := 1) (x := b) rfl; have := HX.out; omega) (HW.out b (by simp)) (by have := HZ.out; simp only [sizeWs] at this; omega) _ S _ (fun k hk => Nat.lt_of_lt_of_le (HSX.out k hk) (Sx.ext_below X Y).size) ((HR.out 1 b rfl).move fun b hb => ⟨hb, ((Sx.ext_below X Y).block b (HSX.out b hb)).trans (HAX.out.block b (HS.out b hb))⟩)
    have r1 := rtx_le b (HW.out b (by simp))
    simp only [Option.some.injEq, Addr.mk.injEq, and_true] at e1
    obtain ⟨rfl, rfl⟩ := e1
    have g1a : X.cell? ⟨bk0, o0 + 3, none⟩ = some (x1 1) := (HAX.out.cell (p := ⟨bk0, _, none⟩) (HS.out bk0 hbl1)).trans h1
    have g1b : X.cell? ⟨bk0, o0 + 3 + 1, none⟩ = some (y1 1) := (HAX.out.cell (p := ⟨bk0, _, none⟩) (HS.out bk0 hbl1)).trans h2
    have g1c : X.cell? ⟨bk0, o0 + 3 + 2, none⟩ = some (z1 1) := (HAX.out.cell (p := ⟨bk0, _, none⟩) (HS.out bk0 hbl1)).trans h3
    have q1a := Sx.ext_cell g1a
    have q1b := Sx.ext_cell g1b
    have q1c := Sx.ext_cell g1c
    clear h1 h2 h3 g1a g1b g1c
    have hsum : sizeW a + sizeW b + s.size ≤ 20000 := by have := HZ.out; simp only [sizeWs] at this; omega
    have hzs := Lib.size_eq s
    have b0 : (rtx a).length ≤ 140000 := by omega
    have b1 : (rtx b).length ≤ 140000 := by omega
    clear hzs r0 r1 hsum
    have HT := Lib.hid (show rtx (.mk 5 s [a, b]) = wLet ++ (s.data.toList ++ (wEq ++ (rtx a ++ (wIn ++ rtx b)))) by
      have e : rtx (.mk 5 s [a, b]) = wLet ++ (s.data.toList ++ (wEq ++ (rtx a ++ (wIn ++ rtx b)))) := by rw [rtx, if_neg (by decide), if_neg (by decide), if_neg (by decide), if_neg (by decide), if_pos rfl, rtxs_map]; rfl
      exact e)
    go_enter Try.func41, Try.ntmps41
    go_wp2_with fail
    have t0 := Sx.ext_cell (X := X) (by rw [hXe]; exact c0)
    have t1 := Sx.ext_cell (X := X) (by rw [hXe]; exact c1)
    have t2 := Sx.ext_cell (X := X) (by rw [hXe]; exact c2)
    simp only [List.getElem_toArray, List.getElem_cons_zero, List.getElem_cons_succ] at t0 t1 t2 
    change Code.wp _ _ _ _ (W.alloc (.cells #[.int .i64 5, .string s, .slice (some ⟨bk0, o0, none⟩) 2 cap] 26))
    rw [← hXe]
    clear c0 c1 c2 hX hA hXe
    refine Sx.wp_region_ext (X := X) (by kernel_rfl) (by kernel_rfl) ?_
    repeat (go_big_quiet_step ((go_at_call 41; first | with_reducible exact Sx.calls_ext (hk0 _) | with_reducible exact Sx.calls_ext (hk1 _))))
    refine wpQuiet_nil ?_
    intro _ hw'
    obtain ⟨Y, hw''⟩ := hw'
    subst hw''
    go_wp2_with fail
    go_ret
    rw [HT.out]
    exact ⟨Sx.ret_str (by apply ByteArray.ext; simp [ByteArray.data_append, wLet, wEq, wIn]), HAX.out.trans ((Sx.ext_below X Y).mono HAX.out.size)⟩
set_option maxHeartbeats 4000000 in
set_option maxRecDepth 100000 in
theorem rtext_3 (h : Nat) (ih : TextR h) (s : ByteArray) (ks : List E) (hx : SizeOf.sizeOf (E.mk 3 s ks) < h + 1) (hw : Wf (.mk 3 s ks)) (hs : sizeW (.mk 3 s ks) ≤ 20000) (W : World) (S : Nat → Prop) (v : Value) (hS : ∀ k, S k → k < W.heap.size) (hr : RepX W S (.mk 3 s ks) v) :
    Calls Try.prog 41 #[v] W fun e W' => e = .returned (.string ⟨(rtx (.mk 3 s ks)).toArray⟩) ∧ Below W.heap.size W W' := by
  obtain ⟨hpo, hwk⟩ := wf_mk hw
  replace hpo := part_3 hpo
  rw [sizeW] at hs
  cases hr with
  | mk _ _ _ sl cap x1 y1 z1 hcap hc hrk =>
    have hA : Below W.heap.size W (W.alloc (.cells #[.int .i64 3, .string s, .slice sl ks.length cap] 26)) := (Below.refl _ _).alloc (Nat.le_refl _) _
    have hX : (W.alloc (.cells #[.int .i64 3, .string s, .slice sl ks.length cap] 26)).heap[W.heap.size]? = some (.cells #[.int .i64 3, .string s, .slice sl ks.length cap] 26 (0, 0)) := heap_alloc_new W _
    have c0 := obj_cell (i := 0) hX rfl
    have c1 := obj_cell (i := 1) hX rfl
    have c2 := obj_cell (i := 2) hX rfl
    have HC := Lib.hid hc
    have HR := Lib.hid hrk
    have HS := Lib.hid hS
    have HW := Lib.hid hwk
    have HX := Lib.hid hx
    have HZ := Lib.hid hs
    have HO := Lib.hid hpo
    clear hc hrk hS hwk hx hs hpo hw hcap
    have hsz : s.size ≤ 20000 := by have := HZ.out; omega
    have hkl : ks.length ≤ 20000 := by have := HZ.out; have := sizeWs_len ks; omega
    have HT := Lib.hid (show rtx (.mk 3 s ks) = catR (rbs ks) 0 [] by rw [rtx, if_neg (by decide), if_neg (by decide), if_pos rfl])
    go_enter Try.func41, Try.ntmps41
    go_wp2_with fail
    have HAX := Lib.hid hA
    clear c0 c1 c2 hX hA
    obtain ⟨wo, hwo⟩ : ∃ wo : World, wo = W.alloc (.cells #[.int .i64 3, .string s, .slice sl ks.length cap] 26) := ⟨_, rfl⟩
    rw [← hwo] at HAX
    change Code.wp _ _ _ _ (W.alloc (.cells #[.int .i64 3, .string s, .slice sl ks.length cap] 26))
    rw [← hwo]
    clear hwo
    go_loopw [3, 4, 5, 6, 71] (fun o _ _ _ i wr => ∃ (k : Nat) (l : List UInt8), k ≤ ks.length ∧ i = .int .i64 k ∧ o = .string ⟨l.toArray⟩ ∧ l = catR ((rbs ks).take k) 0 [] ∧ Below W.heap.size W wr) (fun _ _ _ _ i _ => ks.length - (intOf i).toNat)
    case atStart => exact ⟨0, [], Nat.zero_le _, rfl, rfl, rfl, HAX.out⟩
    case round =>
      obtain ⟨k, l, hk, rfl, rfl, hl, hB⟩ := hrel
      have HL := Lib.hid hl
      clear hl HAX
      have hll : l.length ≤ 140000 := by rw [HL.out]; exact catR_small HW.out (by have := HZ.out; omega) k
      by_cases hlt : k < ks.length
      · skip
        obtain ⟨u, hu⟩ : ∃ u, ks[k]? = some u := ⟨ks[k], List.getElem?_eq_getElem hlt⟩
        obtain ⟨bk, o, rfl, hbl, h1, h2, h3⟩ := HC.out k u hu
        have hkr := HR.out k u hu
        obtain ⟨kk, sk, slk, nk, ck, ev⟩ := hkr.vals
        rw [ev] at hkr
        have hkd := repX_kind hkr
        obtain ⟨ev1, ev2, ev3⟩ : x1 k = .int .i64 kk ∧ y1 k = .string sk ∧ z1 k = .slice slk nk ck := by simpa using ev
        rw [ev1] at h1
        rw [ev2] at h2
        rw [ev3] at h3
        clear ev ev1 ev2 ev3
        have g1 := (hB.cell (p := ⟨bk, _, none⟩) (HS.out bk hbl)).trans h1
        have g2 := (hB.cell (p := ⟨bk, _, none⟩) (HS.out bk hbl)).trans h2
        have g3 := (hB.cell (p := ⟨bk, _, none⟩) (HS.out bk hbl)).trans h3
        have hbt : (rbs ks)[k]? = some (brL kk (rtx u)) := by rw [rbs_map, List.getElem?_map, hu, ← hkd]; rfl
        have HSU := Lib.hid (catR_succ (rbs ks) k 0 _ [] hbt)
        rw [← HL.out] at HSU
        have hA2 : Below wr.heap.size wr (wr.alloc (.cells #[.int .i64 kk, .string sk, .slice slk nk ck] 26)) := (Below.refl _ _).alloc (Nat.le_refl _) _
        have hY : (wr.alloc (.cells #[.int .i64 kk, .string sk, .slice slk nk ck] 26)).heap[wr.heap.size]? = some (.cells #[.int .i64 kk, .string sk, .slice slk nk ck] 26 (0, 0)) := heap_alloc_new wr _
        have HB2 := Lib.hid (hB.trans (hA2.mono hB.size))
        have hkid := ih u (by have := kid_lt (k := 3) (s := s) hu; have := HX.out; omega) (HW.out u (List.mem_of_getElem? hu)) (by have := HZ.out; have := sizeWs_kid (List.mem_of_getElem? hu); omega) _ S _ (fun b hb => Nat.lt_of_lt_of_le (HS.out b hb) HB2.out.size) (hkr.move fun b hb => ⟨hb, HB2.out.block b (HS.out b hb)⟩)
        have hru : (rtx u).length ≤ 140000 := by have := rtx_le u (HW.out u (List.mem_of_getElem? hu)); have := HZ.out; have := sizeWs_kid (List.mem_of_getElem? hu); omega
        have d0 := obj_cell (i := 0) hY rfl
        have d1 := obj_cell (i := 1) hY rfl
        have d2 := obj_cell (i := 2) hY rfl
        clear h1 h2 h3 hu hbt hA2 hkr hkd hB
        by_cases hk0 : k = 0
        · skip
          subst hk0
          simp only [Nat.zero_mul, Nat.add_zero] at g1 g2 g3
          have hl0 : l = [] := by rw [HL.out]; rfl
          subst hl0
          go_wp2_with fail
          refine hkid.mono ?_
          rintro e w9 ⟨rfl, hB9⟩
          clear hkid
          replace hY := (hB9.block _ (by simp)).trans hY
          replace d0 := obj_cell (i := 0) hY rfl
          clear d1 d2
          have HB9 := Lib.hid (HB2.out.trans (hB9.mono HB2.out.size))
          clear hB9 g1 g2 g3
          by_cases h3 : 3 ≤ kk
          · skip
            have e3 : decide ((3 : Int) ≤ kk) = true := decide_eq_true h3
            have HE := Lib.hid (show catR ((rbs ks).take (0 + 1)) 0 [] = [] ++ ([40] ++ (rtx u ++ [41])) by rw [HSU.out, if_pos (by rw [List.length_nil]; decide), if_neg (by decide)]; (try unfold brL); (try rw [if_pos h3]))
            clear h3 
            go_wp2_with fail
            go_roundw
            case rel => exact ⟨0 + 1, catR ((rbs ks).take (0 + 1)) 0 [], by omega, by go_num, by rw [HE.out] <;> (congr 1 <;> (apply ByteArray.ext <;> simp [ByteArray.data_append])), rfl, HB9.out⟩
            case measure => simp [intOf]; omega
          · skip
            have e3 : decide ((3 : Int) ≤ kk) = false := decide_eq_false h3
            have HE := Lib.hid (show catR ((rbs ks).take (0 + 1)) 0 [] = [] ++ (rtx u) by rw [HSU.out, if_pos (by rw [List.length_nil]; decide), if_neg (by decide)]; (try unfold brL); (try rw [if_neg h3]))
            clear h3 
            go_wp2_with fail
            go_roundw
            case rel => exact ⟨0 + 1, catR ((rbs ks).take (0 + 1)) 0 [], by omega, by go_num, by rw [HE.out] <;> (congr 1 <;> (apply ByteArray.ext <;> simp [ByteArray.data_append])), rfl, HB9.out⟩
            case measure => simp [intOf]; omega
        · skip
          have hk2 : decide ((0 : Int) < (k : Int)) = true := by simp; omega
          go_wp2_with fail
          refine hkid.mono ?_
          rintro e w9 ⟨rfl, hB9⟩
          clear hkid
          replace hY := (hB9.block _ (by simp)).trans hY
          replace d0 := obj_cell (i := 0) hY rfl
          clear d1 d2
          have HB9 := Lib.hid (HB2.out.trans (hB9.mono HB2.out.size))
          clear hB9 g1 g2 g3
          by_cases h3 : 3 ≤ kk
          · skip
            have e3 : decide ((3 : Int) ≤ kk) = true := decide_eq_true h3
            by_cases h5 : l.length < 5000
            · have e5 : decide ((l.length : Int) < 5000) = true := by simp; omega
              have HE := Lib.hid (show catR ((rbs ks).take (k + 1)) 0 [] = l ++ ([32, 43, 32] ++ ([40] ++ (rtx u ++ [41]))) by rw [HSU.out, if_pos h5, if_pos (by omega)]; (try unfold brL); (try rw [if_pos h3]))
              clear h3 h5
              go_wp2_with fail
              go_roundw
              case rel => exact ⟨k + 1, catR ((rbs ks).take (k + 1)) 0 [], by omega, by go_num, by rw [HE.out] <;> (congr 1 <;> (apply ByteArray.ext <;> simp [ByteArray.data_append])), rfl, HB9.out⟩
              case measure => simp [intOf]; omega
            · have e5 : decide ((l.length : Int) < 5000) = false := by simp; omega
              have HE := Lib.hid (show catR ((rbs ks).take (k + 1)) 0 [] = l by rw [HSU.out, if_neg h5])
              clear h3 h5
              go_wp2_with fail
              go_roundw
              case rel => exact ⟨k + 1, catR ((rbs ks).take (k + 1)) 0 [], by omega, by go_num, by rw [HE.out] <;> (congr 1 <;> (apply ByteArray.ext <;> simp [ByteArray.data_append])), rfl, HB9.out⟩
              case measure => simp [intOf]; omega
          · skip
            have e3 : decide ((3 : Int) ≤ kk) = false := decide_eq_false h3
            by_cases h5 : l.length < 5000
            · have e5 : decide ((l.length : Int) < 5000) = true := by simp; omega
              have HE := Lib.hid (show catR ((rbs ks).take (k + 1)) 0 [] = l ++ ([32, 43, 32] ++ (rtx u)) by rw [HSU.out, if_pos h5, if_pos (by omega)]; (try unfold brL); (try rw [if_neg h3]))
              clear h3 h5
              go_wp2_with fail
              go_roundw
              case rel => exact ⟨k + 1, catR ((rbs ks).take (k + 1)) 0 [], by omega, by go_num, by rw [HE.out] <;> (congr 1 <;> (apply ByteArray.ext <;> simp [ByteArray.data_append])), rfl, HB9.out⟩
              case measure => simp [intOf]; omega
            · have e5 : decide ((l.length : Int) < 5000) = false := by simp; omega
              have HE := Lib.hid (show catR ((rbs ks).take (k + 1)) 0 [] = l by rw [HSU.out, if_neg h5])
              clear h3 h5
              go_wp2_with fail
              go_roundw
              case rel => exact ⟨k + 1, catR ((rbs ks).take (k + 1)) 0 [], by omega, by go_num, by rw [HE.out] <;> (congr 1 <;> (apply ByteArray.ext <;> simp [ByteArray.data_append])), rfl, HB9.out⟩
              case measure => simp [intOf]; omega
      · obtain rfl : k = ks.length := by omega
        have HQ := Lib.hid (show catR (rbs ks) 0 [] = l by rw [HL.out, List.take_of_length_le (by rw [rbs_map, List.length_map]; exact Nat.le_refl _)])
        go_wp2_with fail
        go_ret
        rw [HT.out, HQ.out]
        exact ⟨rfl, hB⟩
theorem text_r : ∀ h, TextR h := by
  intro h
  induction h with
  | zero => intro x hx; omega
  | succ h ih =>
    intro x hx hw hs W S v hS hr
    cases x with
    | mk k s ks =>
      have hp := part_kind (wf_mk hw).1
      obtain rfl | rfl | rfl | rfl | rfl : k = 1 ∨ k = 2 ∨ k = 3 ∨ k = 4 ∨ k = 5 := by omega
      · exact rtext_1 h ih s ks hx hw hs W S v hS hr
      · exact rtext_2 h ih s ks hx hw hs W S v hS hr
      · exact rtext_3 h ih s ks hx hw hs W S v hS hr
      · exact rtext_4 h ih s ks hx hw hs W S v hS hr
      · exact rtext_5 h ih s ks hx hw hs W S v hS hr
theorem rtext_all {x : E} (hw : Wf x) (hs : sizeW x ≤ 20000) (W : World) (S : Nat → Prop) (v : Value) (hS : ∀ k, S k → k < W.heap.size) (hr : RepX W S x v) : Calls Try.prog 41 #[v] W fun e W' => e = .returned (.string ⟨(rtx x).toArray⟩) ∧ Below W.heap.size W W' :=
  text_r _ x (Nat.lt_succ_self _) hw hs W S v hS hr
end Rc
end Go.Proofs.Ytcigggffaofkhaa
