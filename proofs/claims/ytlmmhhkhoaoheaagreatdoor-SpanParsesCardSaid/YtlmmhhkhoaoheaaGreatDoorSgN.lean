/-
  Not: what lies between the gaps.
-/
import Derived.Test.YtlmmhhkhoaoheaaGreatDoorSgO
namespace Go.Proofs.YtlmmhhkhoaoheaaGreatDoor
open Go.RowKit Go.Shelf Go.Lib
namespace Sg

theorem GO.push2 {w : World} {B : Nat} {v : Value} {l : List G} (h : GO w B v l) (g : G) (hn : l.length ≤ 1000000) (hBw : B ≤ w.heap.size) {ops : Array Oper} {rest : List Oper} {o : Oper} {a : Act} {Q : Exit → Act → World → Prop} (hgd : o.guard = none) (sl xo : Operand)
    (ho : o.op = .call { callee := .builtin .append, args := #[sl, xo], argTypes := #[23, 23] }) (hv : a.eval sl = v) {A : Nat} (hx : a.eval xo = .slice (some ⟨A, 0, none⟩) 1 1) (hA : A = w.heap.size)
    (hK : ∀ v' w', GO w' B v' (l ++ [g]) → (∀ w0, Below B w0 w → Below B w0 w') → (∀ k, k < w.heap.size → v.ownBlock ≠ some k → w'.heap[k]? = w.heap[k]?) → wpList Tryz.prog ops Q rest (a.put o.dst v') w') : wpList Tryz.prog ops Q (o :: rest) a (w.alloc (.cells #[.int .i64 g.1, .int .i64 g.2] 42)) := by
  subst hA
  obtain ⟨i0, hi0, hz⟩ := Option.map_eq_some_iff.1 info_gap
  obtain ⟨z1, z2⟩ := Prod.mk.inj hz
  obtain ⟨z2, z3⟩ := Prod.mk.inj z2
  have h1 : GO (w.alloc (.cells #[.int .i64 g.1, .int .i64 g.2] 42)) B v l := h.below ((Below.refl _ _).alloc (Nat.le_refl _) _)
  refine wpList_append_own _ hgd sl xo 23 ho B 42 i0 _ 2 16 Tryz.underlying23 hi0 z1 z2 z3 rfl (by decide) v l.length _ hv h1 ⟨w.heap.size, 0, none⟩ 1 1 [.int .i64 g.1, .int .i64 g.2] hx rfl (World.news_of_block (cs := #[.int .i64 g.1, .int .i64 g.2]) (heap_alloc_new w _)) ?_ (by unfold maxLen; omega) (by omega) (by simp; omega) ?_
  · intro q hq
    simp only [List.mem_cons, List.not_mem_nil, or_false] at hq
    rcases hq with rfl | rfl <;> rfl
  intro v' w2 hown2 hg2 _
  refine hK v' w2 ?_ (fun w0 h0 => (h0.alloc hBw _).grown hg2 (by simp; omega) (fun k hk => (h.lt k hk).1)) (fun k hk hne => (hg2.block k (by simp; omega) (fun e => hne e.symm)).trans (heap_alloc_old w _ hk))
  unfold GO
  rw [List.length_append, row_app]
  exact hown2
def notL : Int → List G → List G
  | la, [] => [(la, 1000000000)]
  | la, g :: r => (la, g.1) :: notL g.2 r
theorem not_len : ∀ (r : List G) (la : Int), (notL la r).length = r.length + 1
  | [], _ => rfl
  | g :: r, la => by simp [notL, not_len r]
theorem not_bd : ∀ (r : List G) (la : Int), (∀ g ∈ r, Bd g) → (0 ≤ la ∧ la ≤ 1000000000) → ∀ g ∈ notL la r, Bd g
  | [], la, _, h, g, hg => by
    rw [List.mem_singleton.1 hg]
    exact ⟨h, by simp only; omega, by simp only; omega⟩
  | x :: r, la, hb, h, g, hg => by
    have hx := hb x (.head _)
    rcases List.mem_cons.1 hg with rfl | hg
    · exact ⟨h, hx.1⟩
    · exact not_bd r x.2 (fun g hg => hb g (.tail _ hg)) hx.2 g hg
theorem not_in : ∀ (r : List G) (la : Int), Nm r → (∀ g ∈ r, la ≤ g.1 ∧ g.2 ≤ 1000000000) → ∀ n, inR (notL la r) n ↔ (la ≤ n ∧ n < 1000000000 ∧ ¬ inR r n)
  | [], la, _, _, n => by
    rw [notL, in_one]
    exact ⟨fun h => ⟨h.1, h.2, in_nil n⟩, fun h => ⟨h.1, h.2.1⟩⟩
  | g :: r, la, hN, hb, n => by
    have hg := hb g (.head _)
    have hp := hN.pos g (.head _)
    rw [notL, in_cons, not_in r g.2 hN.tail (fun x hx => ⟨by have := (List.pairwise_cons.1 hN.sep).1 x hx; omega, (hb x (.tail _ hx)).2⟩) n, in_cons]
    simp only
    constructor
    · rintro (h | h)
      · refine ⟨h.1, by omega, ?_⟩
        rintro (h1 | h1)
        · omega
        · have := hN.gap h1; omega
      · refine ⟨by omega, h.2.1, ?_⟩
        rintro (h1 | h1)
        · omega
        · exact h.2.2 h1
    · rintro ⟨h1, h2, h3⟩
      by_cases h4 : n < g.1
      · exact .inl ⟨h1, h4⟩
      · refine .inr ⟨?_, h2, fun h5 => h3 (.inr h5)⟩
        by_cases h5 : n < g.2
        · exact absurd (.inl ⟨by omega, h5⟩) h3
        · omega
theorem not_bad (p : List G) (x : Value) (W : World) (hx : GS W x p) (hb : goodB p = false) :
    Calls Tryz.prog 20 #[x] W fun e W' => e = .returned (.tuple #[.slice none 0 0, .int .i64 1]) ∧ Below W.heap.size W W' := by
  have h1 := good_any p x W hx
  rw [hb] at h1
  clear hx
  go_enter Tryz.func20, Tryz.ntmps20
  go_wp2_with (go_at_call 12; refine h1.mono ?_; rintro e W1 ⟨rfl, hB1⟩)
  go_ret2
  exact ⟨rfl, hB1⟩
set_option maxHeartbeats 2000000 in
set_option maxRecDepth 100000 in
theorem not_ok (p : List G) (x : Value) (W : World) (hx : GS W x p) (ha : goodB p = true) :
    Calls Tryz.prog 20 #[x] W fun e W' => ∃ r, SetP W.heap.size (fun n => 0 ≤ n ∧ n < 1000000000 ∧ ¬ inR p n) r e W' ∧ Below W.heap.size W W' := by
  have h1 := good_any p x W hx
  rw [ha] at h1
  obtain ⟨hN, hp, hb⟩ := good_nm ha
  have HM := Lib.hid (not_in p 0 hN fun g hg => ⟨(hb g hg).1, (hb g hg).2.2⟩)
  have HBD := Lib.hid (not_bd p 0 (goodB_bd ha) (by omega))
  obtain ⟨sl, cap, rfl, -, hf⟩ := hx.form
  have HF := Lib.hid hf
  clear hx hf hN hb
  go_enter Tryz.func20, Tryz.ntmps20
  go_wp2_with (go_at_call 12; refine h1.mono ?_; rintro e W1 ⟨rfl, hB1⟩; clear h1)
  go_loopw [4, 5, 13] (fun v la i wr => ∃ (k : Nat) (acc : List G) (l : Int), k ≤ p.length ∧ i = .int .i64 (k : Int) ∧ la = .int .i64 l ∧ acc.length = k ∧ acc ++ notL l (p.drop k) = notL 0 p ∧ GO wr W.heap.size v acc ∧ Below W.heap.size W wr) (fun _ _ i _ => p.length - (intOf i).toNat)
  case atStart => exact ⟨0, [], 0, Nat.zero_le _, rfl, rfl, rfl, rfl, go_nil _ _, hB1⟩
  case round =>
    obtain ⟨k, acc, l, hk, rfl, rfl, hac, hu, hv, hb⟩ := hrel
    have hal : acc.length ≤ 1000000 := by omega
    have HA := Lib.hid hac
    have HV := Lib.hid hv
    clear hac hv
    by_cases hlt : k < p.length
    · obtain ⟨g, hg⟩ : ∃ g, p[k]? = some g := ⟨p[k], List.getElem?_eq_getElem hlt⟩
      obtain ⟨b, o, rfl, hba, h3⟩ := HF.out k g hg
      obtain ⟨c0, c1⟩ := h3.below hba hb
      rw [drop_g hg, notL] at hu
      obtain ⟨lo, hi⟩ := g
      have HU := Lib.hid (show (acc ++ [(l, lo)]) ++ notL hi (p.drop (k + 1)) = notL 0 p by rw [List.append_assoc]; exact hu)
      have hB := hb.alloc hb.size (.cells #[.int .i64 lo, .int .i64 hi] 42)
      have HV3 := Lib.hid (HV.out.below ((Below.refl _ _).alloc (Nat.le_refl _) (.cells #[.int .i64 lo, .int .i64 hi] 42)))
      clear hg h3 hu
      go_wp2_with (first
        | (at_builtin; refine GO.push2 (l := acc) (B := W.heap.size) ?hh (l, lo) hal ?hk rfl _ _ rfl rfl rfl ?he ?_; (case hh => exact HV3.out); (case hk => have := hb.size; simp; omega); (case he => simp); intro v9 w9 hO9 hB9 hF9; have hF8 := obj_two ((hF9 wr.heap.size (by simp) (fun e => Nat.lt_irrefl _ (HV.out.lt _ e).2)).trans (heap_alloc_new wr _)); obtain ⟨e0, e1, -, -⟩ := hF8; clear hF9))
      have HO9 := Lib.hid hO9
      have hB9 := hB9 _ hB
      clear hO9
      go_wp2_with fail
      go_roundw
      case rel => exact ⟨k + 1, _, _, by omega, by go_num, rfl, by rw [List.length_append, HA.out]; rfl, HU.out, HO9.out, hB9⟩
      case measure => simp [intOf]; omega
    · obtain rfl : k = p.length := by omega
      rw [List.drop_length, notL] at hu
      have HU := Lib.hid hu
      have hlen : (notL 0 p).length ≤ 1000000 := by rw [not_len]; omega
      clear hu
      have hj := fun v9 w9 (h : GO w9 W.heap.size v9 (notL 0 p)) => joined_any (notL 0 p) HBD.out _ v9 w9 h hlen
      go_wp2_with (first
        | (at_builtin; refine GO.push (l := acc) (B := W.heap.size) ?hh (l, 1000000000) hal ?hk rfl _ _ rfl rfl rfl ?he ?_; (case hh => exact HV.out); (case hk => exact hb.size); (case he => simp); intro v9 w9 hO9 hB9; rw [HU.out] at hO9; have hB5 := hB9 _ hb)
        | (go_at_call 27; refine (hj _ _ hO9).mono ?_; rintro e W6 ⟨v6, r, rfl, hO6, hN, hM, hR, -, hB6⟩; have hB7 := hB5.trans (hB6.mono hB5.size); have hO7 := hO6.le hB5.size; clear hB5 hB6 hj hO6))
      have hM2 := fun n => (hM n).trans (HM.out n)
      by_cases h16 : 16 < r.length
      · have hf := few_tt r v6 W6 (hO7.gs fun g hg => (hR g hg).n64) h16
        go_wp2_with (go_at_call 26; refine hf.mono ?_; rintro e W8 ⟨rfl, hB8⟩)
        go_ret2
        exact ⟨r, ⟨hN, hM2, hR, .inl ⟨h16, rfl⟩⟩, hB7.trans (hB8.mono hB7.size)⟩
      · have hf := few_ff r v6 W6 (hO7.gs fun g hg => (hR g hg).n64) h16
        go_wp2_with (go_at_call 26; refine hf.mono ?_; rintro e W8 ⟨rfl, hB8⟩)
        go_ret2
        exact ⟨r, ⟨hN, hM2, hR, .inr ⟨h16, v6, rfl, hO7.below hB8⟩⟩, hB7.trans (hB8.mono hB7.size)⟩
end Sg
end Go.Proofs.YtlmmhhkhoaoheaaGreatDoor
