/-
  And: the common part of each two gaps.
-/
import Derived.Test.YtlmmhhkhoaoheaaGreatDoorSgN
import Derived.Maps.AppendAt
namespace Go.Proofs.YtlmmhhkhoaoheaaGreatDoor
open Go.RowKit Go.Shelf Go.Lib
namespace Sg

def mm (x y : G) : G := (max x.1 y.1, min x.2 y.2)
def andL (p q : List G) : List G := p.flatMap fun x => q.map (mm x)
theorem and_in (p q : List G) (n : Int) : inR (andL p q) n ↔ inR p n ∧ inR q n := by
  unfold andL inR
  constructor
  · rintro ⟨g, hg, h1, h2⟩
    obtain ⟨x, hx, hg⟩ := List.mem_flatMap.1 hg
    obtain ⟨y, hy, rfl⟩ := List.mem_map.1 hg
    simp only [mm] at h1 h2
    exact ⟨⟨x, hx, by omega, by omega⟩, ⟨y, hy, by omega, by omega⟩⟩
  · rintro ⟨⟨x, hx, h1, h2⟩, ⟨y, hy, h3, h4⟩⟩
    refine ⟨mm x y, List.mem_flatMap.2 ⟨x, hx, List.mem_map.2 ⟨y, hy, rfl⟩⟩, ?_, ?_⟩ <;> (simp only [mm]; omega)
theorem and_bd (p q : List G) (hp : ∀ g ∈ p, Bd g) (hq : ∀ g ∈ q, Bd g) : ∀ g ∈ andL p q, Bd g := by
  intro g hg
  obtain ⟨x, hx, hg⟩ := List.mem_flatMap.1 hg
  obtain ⟨y, hy, rfl⟩ := List.mem_map.1 hg
  obtain ⟨⟨a1, a2⟩, a3, a4⟩ := hp x hx
  obtain ⟨⟨b1, b2⟩, b3, b4⟩ := hq y hy
  refine ⟨⟨?_, ?_⟩, ?_, ?_⟩ <;> (simp only [mm]; omega)
theorem and_len (p q : List G) : (andL p q).length = p.length * q.length := by
  unfold andL
  induction p with
  | nil => simp
  | cons x p ih => rw [List.flatMap_cons, List.length_append, ih, List.length_map, List.length_cons, Nat.succ_mul, Nat.add_comm]
theorem and_take {p q : List G} {k : Nat} {g : G} (h : p[k]? = some g) : andL (p.take (k + 1)) q = andL (p.take k) q ++ q.map (mm g) := by
  unfold andL
  rw [List.take_add_one, h, List.flatMap_append]
  simp
theorem map_take {q : List G} {f : G → G} {m : Nat} {y : G} (h : q[m]? = some y) : (q.take (m + 1)).map f = (q.take m).map f ++ [f y] := by
  rw [List.take_add_one, h, List.map_append]
  rfl
theorem GO.push3 {w : World} {B : Nat} {v : Value} {l : List G} (h : GO w B v l) (g : G) (hn : l.length ≤ 1000000) (hBw : B ≤ w.heap.size) {ops : Array Oper} {rest : List Oper} {o : Oper} {a : Act} {Q : Exit → Act → World → Prop} (hgd : o.guard = none) (sl xo : Operand)
    (ho : o.op = .call { callee := .builtin .append, args := #[sl, xo], argTypes := #[23, 23] }) (hv : a.eval sl = v) {A : Nat} (hx : a.eval xo = .slice (some ⟨A, 0, none⟩) 1 1) (hA : A = w.heap.size)
    (hK : ∀ v' w', GO w' B v' (l ++ [g]) → (∀ w0, Below B w0 w → Below B w0 w') → (∀ k, k < w.heap.size → v.ownBlock ≠ some k → w'.heap[k]? = w.heap[k]?) → (∀ k, k < w.heap.size → v.ownBlock ≠ some k → v'.ownBlock ≠ some k) → wpList Tryz.prog ops Q rest (a.put o.dst v') w') : wpList Tryz.prog ops Q (o :: rest) a (w.alloc (.cells #[.int .i64 g.1, .int .i64 g.2] 42)) := by
  subst hA
  obtain ⟨i0, hi0, hz⟩ := Option.map_eq_some_iff.1 info_gap
  obtain ⟨z1, z2⟩ := Prod.mk.inj hz
  obtain ⟨z2, z3⟩ := Prod.mk.inj z2
  have h1 : GO (w.alloc (.cells #[.int .i64 g.1, .int .i64 g.2] 42)) B v l := h.below ((Below.refl _ _).alloc (Nat.le_refl _) _)
  refine wpList_append_own_at _ hgd sl xo 23 ho B 42 i0 _ 2 16 Tryz.underlying23 hi0 z1 z2 z3 rfl (by decide) v l.length _ hv h1 ⟨w.heap.size, 0, none⟩ 1 1 [.int .i64 g.1, .int .i64 g.2] hx rfl (World.news_of_block (cs := #[.int .i64 g.1, .int .i64 g.2]) (heap_alloc_new w _)) ?_ (by unfold maxLen; omega) (by omega) (by simp; omega) ?_
  · intro q hq
    simp only [List.mem_cons, List.not_mem_nil, or_false] at hq
    rcases hq with rfl | rfl <;> rfl
  intro v' w2 hown2 hg2 _ hat
  refine hK v' w2 ?_ (fun w0 h0 => (h0.alloc hBw _).grown hg2 (by simp; omega) (fun k hk => (h.lt k hk).1)) (fun k hk hne => (hg2.block k (by simp; omega) (fun e => hne e.symm)).trans (heap_alloc_old w _ hk)) (fun k hk hne e => hat.elim (fun h => hne (h ▸ e)) (fun h => by rw [h] at e; have e := Option.some.inj e; simp at e; omega))
  unfold GO
  rw [List.length_append, row_app]
  exact hown2
theorem and_bad1 (p : List G) (x y : Value) (W : World) (hx : GS W x p) (hb : goodB p = false) :
    Calls Tryz.prog 18 #[x, y] W fun e W' => e = .returned (.tuple #[.slice none 0 0, .int .i64 1]) ∧ Below W.heap.size W W' := by
  have h1 := good_any p x W hx
  rw [hb] at h1
  clear hx
  go_enter Tryz.func18, Tryz.ntmps18
  go_wp2_with (go_at_call 12; refine h1.mono ?_; rintro e W1 ⟨rfl, hB1⟩)
  go_ret2
  exact ⟨rfl, hB1⟩
theorem and_bad2 (p q : List G) (x y : Value) (W : World) (hx : GS W x p) (hy : GS W y q) (ha : goodB p = true) (hb : goodB q = false) :
    Calls Tryz.prog 18 #[x, y] W fun e W' => e = .returned (.tuple #[.slice none 0 0, .int .i64 1]) ∧ Below W.heap.size W W' := by
  have h1 := good_any p x W hx
  rw [ha] at h1
  have h2 := fun W1 (hB : Below W.heap.size W W1) => good_any q y W1 (hy.below hB)
  rw [hb] at h2
  clear hx hy
  go_enter Tryz.func18, Tryz.ntmps18
  go_wp2_with (first
    | (go_at_call 12; refine h1.mono ?_; rintro e W1 ⟨rfl, hB1⟩; clear h1)
    | (go_at_call 12; refine (h2 _ hB1).mono ?_; rintro e W2 ⟨rfl, hB2⟩))
  go_ret2
  exact ⟨rfl, hB1.trans (hB2.mono hB1.size)⟩
set_option maxHeartbeats 4000000 in
set_option maxRecDepth 100000 in
theorem and_ok (p q : List G) (x y : Value) (W : World) (hx : GS W x p) (hy : GS W y q) (ha : goodB p = true) (hb : goodB q = true) :
    Calls Tryz.prog 18 #[x, y] W fun e W' => ∃ r, SetP W.heap.size (fun n => inR p n ∧ inR q n) r e W' ∧ Below W.heap.size W W' := by
  have h1 := good_any p x W hx
  rw [ha] at h1
  have h2 := fun W1 (hB : Below W.heap.size W W1) => good_any q y W1 (hy.below hB)
  rw [hb] at h2
  have hp := (good_nm ha).2.1
  have hq := (good_nm hb).2.1
  have HBD := Lib.hid (and_bd p q (goodB_bd ha) (goodB_bd hb))
  obtain ⟨s0, k0, rfl, -, hf⟩ := hx.form
  obtain ⟨s1, k1, rfl, -, hg⟩ := hy.form
  have HF := Lib.hid hf
  have HG := Lib.hid hg
  have HAL := Lib.hid (show ∀ k m : Nat, k < p.length → m ≤ q.length → ∀ f : G → G, (andL (p.take k) q ++ (q.take m).map f).length ≤ 1000000 from fun k m hk hm f => by
    rw [List.length_append, and_len, List.length_map]
    have e1 : (p.take k).length ≤ 16 := by simp; omega
    have e2 : (q.take m).length ≤ 16 := by simp; omega
    have := Nat.mul_le_mul e1 hq
    omega)
  clear hx hy hf hg
  go_enter Tryz.func18, Tryz.ntmps18
  go_wp2_with (first
    | (go_at_call 12; refine h1.mono ?_; rintro e W1 ⟨rfl, hB1⟩; clear h1)
    | (go_at_call 12; refine (h2 _ hB1).mono ?_; rintro e W2 ⟨rfl, hB2⟩; have hB3 := hB1.trans (hB2.mono hB1.size); clear hB1 hB2 h2))
  go_loopw [6, 21] (fun v i wr => ∃ k : Nat, k ≤ p.length ∧ i = .int .i64 (k : Int) ∧ GO wr W.heap.size v (andL (p.take k) q) ∧ Below W.heap.size W wr) (fun _ i _ => p.length - (intOf i).toNat)
  case atStart => exact ⟨0, Nat.zero_le _, rfl, go_nil _ _, hB3⟩
  case round =>
    obtain ⟨k, hk, rfl, hv, hb⟩ := hrel
    have HV := Lib.hid hv
    clear hv
    by_cases hlt : k < p.length
    · obtain ⟨g, hg⟩ : ∃ g, p[k]? = some g := ⟨p[k], List.getElem?_eq_getElem hlt⟩
      obtain ⟨b, o, rfl, hba, h3⟩ := HF.out k g hg
      obtain ⟨c0, c1⟩ := h3.below hba hb
      have HT := Lib.hid (and_take (q := q) hg)
      obtain ⟨lo, hi⟩ := g
      have hB := hb.alloc hb.size (.cells #[.int .i64 lo, .int .i64 hi] 42)
      have HV3 := Lib.hid (HV.out.below ((Below.refl _ _).alloc (Nat.le_refl _) (.cells #[.int .i64 lo, .int .i64 hi] 42)))
      have HN := Lib.hid (show _ ≠ some wr.heap.size from fun e => Nat.lt_irrefl _ (HV.out.lt _ e).2)
      clear hg h3
      go_wp2_with fail
      go_loopw [6, 27] (fun v j wz => ∃ m : Nat, m ≤ q.length ∧ j = .int .i64 (m : Int) ∧ GO wz W.heap.size v (andL (p.take k) q ++ (q.take m).map (mm (lo, hi))) ∧ Below W.heap.size W wz ∧ wr.heap.size < wz.heap.size ∧ wz.heap[wr.heap.size]? = some (.cells #[.int .i64 lo, .int .i64 hi] 42 (0, 0)) ∧ v.ownBlock ≠ some wr.heap.size) (fun _ j _ => q.length - (intOf j).toNat)
      case atStart => exact ⟨0, Nat.zero_le _, rfl, by rw [List.take_zero, List.map_nil, List.append_nil]; exact HV3.out, hB, by simp, heap_alloc_new wr _, HN.out⟩
      case round =>
        obtain ⟨m, hm, rfl, hz, hbz, hzs, hzb, hzn⟩ := hrel
        have HZ := Lib.hid hz
        have HZN := Lib.hid hzn
        clear hz hzn
        by_cases hlm : m < q.length
        · obtain ⟨h, hh⟩ : ∃ h, q[m]? = some h := ⟨q[m], List.getElem?_eq_getElem hlm⟩
          obtain ⟨b', o', rfl, hba', h3⟩ := HG.out m h hh
          obtain ⟨d0, d1⟩ := h3.below hba' hbz
          have HU := Lib.hid (map_take (f := mm (lo, hi)) hh)
          obtain ⟨lo2, hi2⟩ := h
          have hBz := hbz.alloc hbz.size (.cells #[.int .i64 lo2, .int .i64 hi2] 42)
          have HZ3 := Lib.hid (HZ.out.below ((Below.refl _ _).alloc (Nat.le_refl _) (.cells #[.int .i64 lo2, .int .i64 hi2] 42)))
          have hzb2 := (heap_alloc_old _ (.cells #[.int .i64 lo2, .int .i64 hi2] 42) hzs).trans hzb
          obtain ⟨e0, e1, -, -⟩ := obj_two hzb2
          have HZB := Lib.hid hzb2
          have HLL := Lib.hid (HAL.out k m hlt hm (mm (lo, hi)))
          clear hh h3 hzb hzb2
          go_wp2_with (first
            | (at_builtin; refine GO.push3 (l := andL (p.take k) q ++ (q.take m).map (mm (lo, hi))) (B := W.heap.size) ?hh (mm (lo, hi) (lo2, hi2)) HLL.out ?hk rfl _ _ rfl rfl rfl ?he ?_; (case hh => exact HZ3.out); (case hk => exact hBz.size); (case he => simp); intro v9 w9 hO9 hB9 hF9 hN9))
          have HO9 := Lib.hid hO9
          have hB8 := hB9 _ hBz
          have h9 := (hF9 _ (by simp; omega) HZN.out).trans HZB.out
          have H9 := Lib.hid (show _ ∧ _ from ⟨h9, hN9 _ (by simp; omega) HZN.out⟩)
          have hs9 := (Array.getElem?_eq_some_iff.1 h9).1
          clear hO9 hB9 hF9 hN9 h9
          go_wp2_with fail
          go_roundw
          case rel => exact ⟨m + 1, by omega, by go_num, by rw [HU.out, ← List.append_assoc]; exact HO9.out, hB8, hs9, H9.out.1, H9.out.2⟩
          case measure => simp [intOf]; omega
        · obtain rfl : m = q.length := by omega
          go_wp2_with fail
          go_roundw
          case rel => exact ⟨k + 1, by omega, by go_num, by rw [HT.out]; have := HZ.out; rw [List.take_length] at this; exact this, hbz⟩
          case measure => simp [intOf]; omega
    · obtain rfl : k = p.length := by omega
      have HV2 := HV.out
      rw [List.take_length] at HV2
      have hlen : (andL p q).length ≤ 1000000 := by
        rw [and_len]
        have := Nat.mul_le_mul hp hq
        omega
      have hj := joined_any (andL p q) HBD.out _ _ wr HV2 hlen
      go_wp2_with (go_at_call 27; refine hj.mono ?_; rintro e W6 ⟨v6, r, rfl, hO6, hN, hM, hR, -, hB6⟩; have hB7 := hb.trans (hB6.mono hb.size); have hO7 := hO6.le hb.size; clear hB6 hj hO6)
      have hM2 := fun n => (hM n).trans (and_in p q n)
      by_cases h16 : 16 < r.length
      · have hf := few_tt r v6 W6 (hO7.gs fun g hg => (hR g hg).n64) h16
        go_wp2_with (go_at_call 26; refine hf.mono ?_; rintro e W8 ⟨rfl, hB8⟩)
        go_ret2
        exact ⟨r, ⟨hN, hM2, hR, .inl ⟨h16, rfl⟩⟩, hB7.trans (hB8.mono hB7.size)⟩
      · have hf := few_ff r v6 W6 (hO7.gs fun g hg => (hR g hg).n64) h16
        go_wp2_with (go_at_call 26; refine hf.mono ?_; rintro e W8 ⟨rfl, hB8⟩)
        go_ret2
        exact ⟨r, ⟨hN, hM2, hR, .inr ⟨h16, v6, rfl, hO7.below hB8⟩⟩, hB7.trans (hB8.mono hB7.size)⟩
end Sg
end Go.Proofs.YtlmmhhkhoaoheaaGreatDoor
