/-
  Walk: the reference's Node.
-/
import Derived.Test.YtjfchdgdgbdeeaaDoorCodeS
namespace Go.Proofs.YtjfchdgdgbdeeaaDoor
open Go.RowKit
namespace Cd

theorem lit3_cells (w : World) (x y z : Value) (e : TypeId) : ∀ (j : Nat) (u : Value), [x, y, z][j]? = some u → (w.alloc (.cells #[x, y, z] e)).cell? ((⟨w.heap.size, 0, none⟩ : Addr).add j) = some u := by
  intro j u hj
  match j, hj with
  | 0, hj => simp at hj; subst hj; simp [Addr.add]
  | 1, hj => simp at hj; subst hj; simp [Addr.add]
  | 2, hj => simp at hj; subst hj; simp [Addr.add]
theorem leaf_one (s : ByteArray) : ∀ u ∈ [Value.bool true, .string s, .slice none 0 0], u.oneCell' = true := by
  intro u hu
  simp at hu
  rcases hu with rfl | rfl | rfl <;> rfl
theorem list_one (s : Option Addr) (n c : Nat) : ∀ u ∈ [Value.bool false, .string ⟨#[]⟩, .slice s n c], u.oneCell' = true := by
  intro u hu
  simp at hu
  rcases hu with rfl | rfl | rfl <;> rfl

set_option maxHeartbeats 4000000 in
set_option maxRecDepth 100000 in
theorem node8_any (p : List I) (v : Value) (W : World) (hP : PS W v p) (hE : Env W) (hp0 : 0 < p.length) (hp1 : p.length ≤ 256) :
    Calls Tryd.prog 31 #[v] W fun e W' => ∃ u, e = .returned u ∧ Rep W' W'.heap.size 2 (progT p) u ∧ Below W.heap.size W W' := by
  obtain ⟨i0, hi0, hz0, hz1, hz2⟩ := info_parts info_node
  have hnb := Lib.hid hP.nb
  obtain ⟨sl, cap, rfl, hf⟩ := hP.form
  have HF := Lib.hid hf
  clear hf
  have hN0 : NR W ((W.alloc (.cells #[.bool false, .string ⟨#[]⟩, .slice none 0 0] 46)).alloc (.cells #[.bool false, .string ⟨#[]⟩, .slice none 0 0] 46)) W.heap.size p 0 (.slice none 0 0) [] := by
    have ho := NB.new (W.alloc (.cells #[.bool false, .string ⟨#[]⟩, .slice none 0 0] 46)) (.slice none 0 0)
    have hr := (NB.new W (.slice none 0 0)).below ((Below.refl _ _).alloc (Nat.le_refl _) (.cells #[.bool false, .string ⟨#[]⟩, .slice none 0 0] 46))
    have hsz : (W.alloc (.cells #[.bool false, .string ⟨#[]⟩, .slice none 0 0] 46)).heap.size = W.heap.size + 1 := by simp
    rw [hsz] at ho
    exact ⟨⟨rfl, World.ownsRow_nil _ _ _ _, fun _ => rfl, fun i z x hz => by simp at hz⟩, ho, hr, ((Below.refl _ _).alloc (Nat.le_refl _) _).alloc (by simp) _, by simp⟩
  go_enter Tryd.func31, Tryd.ntmps31
  go_wp2_with fail
  go_loopw [11] (fun i wr => ∃ (k : Nat) (zs : List Value) (kv : Value), k ≤ p.length ∧ i = .int .i64 k ∧ NR W wr W.heap.size p k kv zs) (fun i _ => p.length - (intOf i).toNat)
  case atStart => exact ⟨0, [], _, Nat.zero_le _, rfl, hN0⟩
  case round =>
    obtain ⟨k, zs, kv, hk, rfl, hNr⟩ := hrel
    clear hN0
    by_cases hlt : k < p.length
    · obtain ⟨x, hpx⟩ : ∃ x, p[k]? = some x := ⟨p[k], List.getElem?_eq_getElem hlt⟩
      obtain ⟨b, o, rfl, ha, h3⟩ := HF.out k x hpx
      obtain ⟨c0, c1, c2⟩ := h3.below ha hNr.old
      obtain ⟨n0, n1⟩ := hnb.out x (List.mem_of_getElem? hpx)
      have HX := Lib.hid hpx
      have HK := Lib.hid hNr
      have hE0 := hE.below hNr.old
      have hsz := hNr.sz
      clear hpx h3 hNr
      have hC := CI.new wr x
      have hB0 := (Below.refl wr.heap.size wr).alloc (Nat.le_refl _) (.cells #[.int .i64 x.op, .int .i64 x.n, .string x.s] 31)
      go_wp2_with fail
      refine (wordr_any _ _).mono ?_
      rintro e w1 ⟨rfl, hb1⟩
      have hB1 := hB0.trans (hb1.mono hB0.size)
      have hB2 := hB1.alloc hB1.size (.cells #[.bool true, .string (wordB x.op), .slice none 0 0] 46)
      have hB3 := hB2.alloc hB2.size (.cells #[.bool false, .string ⟨#[]⟩, .slice (some ⟨w1.heap.size, 0, none⟩) 1 1] 46)
      have hBy := ((Below.refl _ w1).alloc (Nat.le_refl _) (.cells #[.bool true, .string (wordB x.op), .slice none 0 0] 46)).alloc (by simp) (.cells #[.bool false, .string ⟨#[]⟩, .slice (some ⟨w1.heap.size, 0, none⟩) 1 1] 46)
      have hC3 := (hC.below hb1).below hBy
      have hown3 := (nodes_own w1 (wordB x.op)).alloc (.cells #[.bool false, .string ⟨#[]⟩, .slice (some ⟨w1.heap.size, 0, none⟩) 1 1] 46)
      have hM3 := NB.new (w1.alloc (.cells #[.bool true, .string (wordB x.op), .slice none 0 0] 46)) (.slice (some ⟨w1.heap.size, 0, none⟩) 1 1)
      have hs3 : (w1.alloc (.cells #[.bool true, .string (wordB x.op), .slice none 0 0] 46)).heap.size = w1.heap.size + 1 := by simp
      rw [hs3] at hM3
      have hd0 := hC3.c0
      clear c0 c1 c2
      go_wp2_with fail
      refine (takesr_any _ _).mono ?_
      rintro e w4 ⟨rfl, hb4⟩
      have hB4 := hB3.trans (hb4.mono hB3.size)
      have hC4 := hC3.below hb4
      have hM4 := hM3.below hb4
      have hown4 := own_block hown3 (fun g hg => hb4.block g (hown3.lt g hg).2)
      have hs1 := hB1.size
      have hs4 : w1.heap.size + 2 ≤ w4.heap.size := Nat.le_trans (by simp) hb4.size
      clear hB0 hB1 hB2 hB3 hBy hb1 hb4 hC hC3 hd0 hown3 hM3 hs3
      by_cases ht0 : takes x.op = 0
      · have hat := Lib.hid (atoms_0 ht0)
        rw [ht0]
        have hKB : KB w4 (atoms x) (.slice (some ⟨w1.heap.size, 0, none⟩) 1 1) := by rw [hat.out]; exact KB.of_own (ts := [wordB x.op]) hown4 (by simp)
        have hM := hM4
        have hBB := hB4
        clear hown4 hC4 hM4 hB4
        have hlc := lit3_cells (w4) (.bool false) (.string ⟨#[]⟩) (.slice (some ⟨w1.heap.size, 0, none⟩) 1 1) 46
        have hN9 := (HK.out.below hBB).below ((Below.refl _ _).alloc (Nat.le_refl _) (.cells #[.bool false, .string ⟨#[]⟩, .slice (some ⟨w1.heap.size, 0, none⟩) 1 1] 46))
        have hkb9 := hKB.below ((Below.refl _ _).alloc (Nat.le_refl _) (.cells #[.bool false, .string ⟨#[]⟩, .slice (some ⟨w1.heap.size, 0, none⟩) 1 1] 46))
        have hO := (HK.out.below hBB).o
        have hso := hO.c2
        have hm0 := hM.c0
        have hm1 := hM.c1
        have hm2 := hM.c2
        have hws := hBB.size
        go_wp2_with (first
          | (at_builtin; refine wpList_append_own _ rfl _ _ 44 rfl (W.heap.size + 2) 46 i0 _ 3 48 Tryd.underlying44 hi0 hz0 hz1 hz2 rfl (by decide) kv k _ rfl hN9.ks.own ⟨(w4).heap.size, 0, none⟩ 1 1 [.bool false, .string ⟨#[]⟩, .slice (some ⟨w1.heap.size, 0, none⟩) 1 1] rfl rfl hlc (list_one _ _ _) (by unfold maxLen; omega) (by omega) (by first | (simp; omega) | (simp [World.setCell]; omega)) ?_))
        intro v' w9 hown9 hg9 _
        have hKn := hN9.snoc HX.out hkb9 hg9 hown9
        obtain ⟨s9, c9, rfl⟩ := own_form hown9
        have hO9 := hN9.o.grown hg9 (fun e => by have := (hN9.ks.own.lt _ e.symm).1; omega)
        have hp0' := hO9.c0
        have hp1' := hO9.c1
        have hp2' := hO9.c2
        have hpf := hO9.fz
        have hplt := hO9.lt
        clear hown9 hg9 hN9 hlc hkb9 hO hso hm0 hm1 hm2 hO9 hM hKB hBB
        go_wp2
        go_roundw
        case rel => exact ⟨k + 1, _, _, by omega, by go_num, hKn⟩
        case measure => simp [intOf]; omega
      · by_cases ht2 : takes x.op = 2
        · have hat := Lib.hid (atoms_2 ht2)
          rw [ht2]
          have he2 := hC4.c2
          have hq2 := hM4.c2
          have hB5 := hB4.alloc hB4.size (.cells #[.bool true, .string x.s, .slice none 0 0] 46)
          have hown5 := hown4.alloc (.cells #[.bool true, .string x.s, .slice none 0 0] 46)
          have hM5 := hM4.below ((Below.refl _ _).alloc (Nat.le_refl _) (.cells #[.bool true, .string x.s, .slice none 0 0] 46))
          clear hown4 hM4
          go_wp2_with (first
            | (at_builtin; refine wpList_append_lies _ rfl _ _ 44 rfl w1.heap.size 46 i0 _ 3 48 Tryd.underlying44 hi0 hz0 hz1 hz2 rfl (by decide) (.slice (some ⟨w1.heap.size, 0, none⟩) 1 1) 1 _ rfl hown5 ⟨w4.heap.size, 0, none⟩ 1 1 [.bool true, .string x.s, .slice none 0 0] rfl rfl (lit3_cells _ _ _ _ _) (leaf_one _) (by decide) (by decide) (by decide) (by simp; omega) (w4.heap.size + 1) (by simp) ?_))
          intro g6 c6 w6 hown6 hg6 hat6 hlt6
          have hne6 : w1.heap.size + 1 ≠ g6 := by
            rcases hat6 with e | e
            · simp [Value.ownBlock] at e; omega
            · omega
          have hM6 := hM5.grown hg6 (by simp [Value.ownBlock])
          have hB6 := hB5.grown hg6 (by simp; omega) (fun g hg => by simp [Value.ownBlock] at hg; omega)
          have hBB := hB6.setCell (p := ⟨w1.heap.size + 1, 2, none⟩) (by show wr.heap.size ≤ w1.heap.size + 1; omega) (.slice (some ⟨g6, 0, none⟩) 2 c6)
          have hM := hM6.set (.slice (some ⟨g6, 0, none⟩) 2 c6)
          have hKB : KB (w6.setCell ⟨w1.heap.size + 1, 2, none⟩ (.slice (some ⟨g6, 0, none⟩) 2 c6)) (atoms x) (.slice (some ⟨g6, 0, none⟩) 2 c6) := by
            rw [hat.out]
            have h := KB.of_own (ts := [wordB x.op, x.s]) hown6 (by simp)
            exact h.setO hM6.c0 _
          have hf6 := hM6.fz
          have hl6 := hM6.lt
          have hr6 := hM6.c2
          clear hown5 hown6 hg6 hM5 hM6 hB5 hB6 hC4 hB4 hq2 hat6
          have hlc := lit3_cells (w6.setCell ⟨w1.heap.size + 1, 2, none⟩ (.slice (some ⟨g6, 0, none⟩) 2 c6)) (.bool false) (.string ⟨#[]⟩) (.slice (some ⟨g6, 0, none⟩) 2 c6) 46
          have hszw : (w6.setCell ⟨w1.heap.size + 1, 2, none⟩ (.slice (some ⟨g6, 0, none⟩) 2 c6)).heap.size = w6.heap.size := by simp [World.setCell]
          rw [hszw] at hlc
          clear hszw
          have hN9 := (HK.out.below hBB).below ((Below.refl _ _).alloc (Nat.le_refl _) (.cells #[.bool false, .string ⟨#[]⟩, .slice (some ⟨g6, 0, none⟩) 2 c6] 46))
          have hkb9 := hKB.below ((Below.refl _ _).alloc (Nat.le_refl _) (.cells #[.bool false, .string ⟨#[]⟩, .slice (some ⟨g6, 0, none⟩) 2 c6] 46))
          have hO := (HK.out.below hBB).o
          have hso := hO.c2
          have hm0 := hM.c0
          have hm1 := hM.c1
          have hm2 := hM.c2
          have hws := hBB.size
          go_wp2_with (first
            | (at_builtin; refine wpList_append_own _ rfl _ _ 44 rfl (W.heap.size + 2) 46 i0 _ 3 48 Tryd.underlying44 hi0 hz0 hz1 hz2 rfl (by decide) kv k _ rfl hN9.ks.own ⟨w6.heap.size, 0, none⟩ 1 1 [.bool false, .string ⟨#[]⟩, .slice (some ⟨g6, 0, none⟩) 2 c6] rfl rfl hlc (list_one _ _ _) (by unfold maxLen; omega) (by omega) (by first | (simp; omega) | (simp [World.setCell]; omega)) ?_))
          intro v' w9 hown9 hg9 _
          have hKn := hN9.snoc HX.out hkb9 hg9 hown9
          obtain ⟨s9, c9, rfl⟩ := own_form hown9
          have hO9 := hN9.o.grown hg9 (fun e => by have := (hN9.ks.own.lt _ e.symm).1; omega)
          have hp0' := hO9.c0
          have hp1' := hO9.c1
          have hp2' := hO9.c2
          have hpf := hO9.fz
          have hplt := hO9.lt
          clear hown9 hg9 hN9 hlc hkb9 hO hso hm0 hm1 hm2 hO9 hM hKB hBB
          go_wp2
          go_roundw
          case rel => exact ⟨k + 1, _, _, by omega, by go_num, hKn⟩
          case measure => simp [intOf]; omega
        · have hat := Lib.hid (atoms_n ht0 ht2)
          have hgt : 0 < takes x.op := by rcases takes_5 x.op with h | h | h | h | h <;> omega
          have q2 : (takes x.op == 2) = false := by simpa using ht2
          have he1 := hC4.c1
          have hq2 := hM4.c2
          go_wp2_with fail
          have hE4 := hE0.below hB4.drew
          go_region_law (first
            | (go_simp; go_at_call 27; refine (itoa_any x.n n0 n1 _ hE4).mono ?_; rintro e wi ⟨rfl, hbi⟩; have hbj : Below w4.heap.size w4 wi := ⟨hbi.os, hbi.tape, hbi.output, hbi.size, hbi.block⟩; have hBi := hB4.trans (hbj.mono hB4.size); have hown5 := (own_block hown4 (fun g hg => hbj.block g (hown4.lt g hg).2)).alloc (.cells #[.bool true, .string ⟨(Lib.itoa x.n).toArray⟩, .slice none 0 0] 46); have hMi := hM4.below hbj; have hqi := hMi.c2; have hli := hMi.lt; have hM5 := hMi.below ((Below.refl _ _).alloc (Nat.le_refl _) (.cells #[.bool true, .string ⟨(Lib.itoa x.n).toArray⟩, .slice none 0 0] 46)); have hq5 := hM5.c2)
            | (refine step_append_lies _ (by rfl) _ _ _ (by rfl) w1.heap.size 46 i0 _ 3 48 Tryd.underlying44 hi0 hz0 hz1 hz2 rfl (by decide) (.slice (some ⟨w1.heap.size, 0, none⟩) 1 1) 1 _ (by rfl) hown5 ⟨wi.heap.size, 0, none⟩ 1 1 [.bool true, .string ⟨(Lib.itoa x.n).toArray⟩, .slice none 0 0] (by rfl) rfl (lit3_cells _ _ _ _ _) (leaf_one _) (by decide) (by decide) (by decide) (by have := hbj.size; simp; omega) (wi.heap.size + 1) (by simp) ?_; intro g6 c6 w6 hown6 hg6 hat6 hlt6; have hM6 := hM5.grown hg6 (by simp [Value.ownBlock]); have hf6 := hM6.fz; have hl6 := hM6.lt; have hr6 := hM6.c2))
          all_goals
            have hne6 : w1.heap.size + 1 ≠ g6 := by
              rcases hat6 with e | e
              · simp [Value.ownBlock] at e; omega
              · omega
            have hBB := (((hBi.alloc hBi.size (.cells #[.bool true, .string ⟨(Lib.itoa x.n).toArray⟩, .slice none 0 0] 46)).grown hg6 (by have := hbj.size; simp; omega) (fun g hg => by simp [Value.ownBlock] at hg; omega))).setCell (p := ⟨w1.heap.size + 1, 2, none⟩) (by show wr.heap.size ≤ w1.heap.size + 1; omega) (.slice (some ⟨g6, 0, none⟩) 2 c6)
            have hM := hM6.set (.slice (some ⟨g6, 0, none⟩) 2 c6)
            have hKB : KB (w6.setCell ⟨w1.heap.size + 1, 2, none⟩ (.slice (some ⟨g6, 0, none⟩) 2 c6)) (atoms x) (.slice (some ⟨g6, 0, none⟩) 2 c6) := by
              rw [hat.out]
              have h := KB.of_own (ts := [wordB x.op, ⟨(Lib.itoa x.n).toArray⟩]) hown6 (by simp)
              exact h.setO hM6.c0 _
            have hig := hbj.size
            clear hown4 hown5 hown6 hg6 hM4 hM5 hM6 hMi hqi hq2 hq5 hC4 hB4 hbi hbj hBi hat6 hE4
            have hlc := lit3_cells (w6.setCell ⟨w1.heap.size + 1, 2, none⟩ (.slice (some ⟨g6, 0, none⟩) 2 c6)) (.bool false) (.string ⟨#[]⟩) (.slice (some ⟨g6, 0, none⟩) 2 c6) 46
            have hszw : (w6.setCell ⟨w1.heap.size + 1, 2, none⟩ (.slice (some ⟨g6, 0, none⟩) 2 c6)).heap.size = w6.heap.size := by simp [World.setCell]
            rw [hszw] at hlc
            clear hszw
            have hN9 := (HK.out.below hBB).below ((Below.refl _ _).alloc (Nat.le_refl _) (.cells #[.bool false, .string ⟨#[]⟩, .slice (some ⟨g6, 0, none⟩) 2 c6] 46))
            have hkb9 := hKB.below ((Below.refl _ _).alloc (Nat.le_refl _) (.cells #[.bool false, .string ⟨#[]⟩, .slice (some ⟨g6, 0, none⟩) 2 c6] 46))
            have hO := (HK.out.below hBB).o
            have hso := hO.c2
            have hm0 := hM.c0
            have hm1 := hM.c1
            have hm2 := hM.c2
            have hws := hBB.size
            go_wp2_with (first
              | (at_builtin; refine wpList_append_own _ rfl _ _ 44 rfl (W.heap.size + 2) 46 i0 _ 3 48 Tryd.underlying44 hi0 hz0 hz1 hz2 rfl (by decide) kv k _ rfl hN9.ks.own ⟨w6.heap.size, 0, none⟩ 1 1 [.bool false, .string ⟨#[]⟩, .slice (some ⟨g6, 0, none⟩) 2 c6] rfl rfl hlc (list_one _ _ _) (by unfold maxLen; omega) (by omega) (by first | (simp; omega) | (simp [World.setCell]; omega)) ?_))
            intro v' w9 hown9 hg9 _
            have hKn := hN9.snoc HX.out hkb9 hg9 hown9
            obtain ⟨s9, c9, rfl⟩ := own_form hown9
            have hO9 := hN9.o.grown hg9 (fun e => by have := (hN9.ks.own.lt _ e.symm).1; omega)
            have hp0' := hO9.c0
            have hp1' := hO9.c1
            have hp2' := hO9.c2
            have hpf := hO9.fz
            have hplt := hO9.lt
            clear hown9 hg9 hN9 hlc hkb9 hO hso hm0 hm1 hm2 hO9 hM hKB hBB
            go_wp2
            go_roundw
            case rel => exact ⟨k + 1, _, _, by omega, by go_num, hKn⟩
            case measure => simp [intOf]; omega

    · obtain rfl : k = p.length := by omega
      have hO := hNr.o
      have hR := hNr.r
      obtain ⟨q0, q1, q2⟩ := (⟨hO.c0, hO.c1, hO.c2⟩ : _ ∧ _ ∧ _)
      obtain ⟨r0, r1, r2⟩ := (⟨hR.c0, hR.c1, hR.c2⟩ : _ ∧ _ ∧ _)
      have rf := hR.fz
      have hrl := hR.lt
      obtain ⟨s9, c9, rfl⟩ := own_form hNr.ks.own
      have hK := hNr.ks
      have hE : ∀ u1 u2 u3, Rep (((wr.setCell ⟨W.heap.size, 0, none⟩ u1).setCell ⟨W.heap.size, 1, none⟩ u2).setCell ⟨W.heap.size, 2, none⟩ u3) (((wr.setCell ⟨W.heap.size, 0, none⟩ u1).setCell ⟨W.heap.size, 1, none⟩ u2).setCell ⟨W.heap.size, 2, none⟩ u3).heap.size 2 (progT p) (.agg #[.bool false, .string ⟨#[]⟩, .slice s9 p.length c9]) := fun u1 u2 u3 => by
        have hheap : ∀ g, g ≠ W.heap.size → (((wr.setCell ⟨W.heap.size, 0, none⟩ u1).setCell ⟨W.heap.size, 1, none⟩ u2).setCell ⟨W.heap.size, 2, none⟩ u3).heap[g]? = wr.heap[g]? := fun g hg => by
          rw [Below.heap_setCell _ _ _ _ hg, Below.heap_setCell _ _ _ _ hg, Below.heap_setCell _ _ _ _ hg]
        refine KS.rep (zs := zs) (B := W.heap.size + 2) (fun i z x hz hx => ?_) hK.len (own_block hK.own (fun g hg => hheap g (by have := (hK.own.lt g hg).1; omega))) hp0
        have hkb := hK.kb i z x hz hx
        exact hkb.keep (by simp [World.setCell]) (fun g cap e => hheap g (hkb.off r0 g cap e))
      have HE := Lib.hid hE
      have hold := hNr.old
      clear hNr hO hR hK hE
      go_wp2
      refine bodyPost_ret (v := .agg #[.bool false, .string ⟨#[]⟩, .slice s9 p.length c9]) (by simp [results, Tryd.results31, go_sem, r0, r1, r2]) rfl ⟨_, rfl, HE.out _ _ _, ?_⟩
      exact ((hold.setCell (Nat.le_refl _) _).setCell (Nat.le_refl _) _).setCell (Nat.le_refl _) _
end Cd
end Go.Proofs.YtjfchdgdgbdeeaaDoor
