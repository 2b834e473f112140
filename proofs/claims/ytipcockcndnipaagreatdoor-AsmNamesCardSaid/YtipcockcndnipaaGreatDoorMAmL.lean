/-
  The law AsmNames, for every list of instructions and every letter.
-/
import Derived.Test.YtipcockcndnipaaGreatDoorMAmP
namespace Go.Proofs.YtipcockcndnipaaGreatDoor
open Go.RowKit
namespace Aw
open As

/-- a block of bytes that can be written -/
structure BB (w : World) (g : Nat) (l : List UInt8) : Prop where
  cell : ∀ (j : Nat) (c : UInt8), l[j]? = some c → w.cell? ⟨g, j, none⟩ = some (.int .u8 (c.toNat : Int))
  fz : ∀ j, j < l.length → w.frozen? ⟨g, j, none⟩ = false
theorem BB.set {w : World} {g : Nat} {l : List UInt8} (h : BB w g l) {i : Nat} (hi : i < l.length) (c : UInt8) : BB (w.setCell ⟨g, i, none⟩ (.int .u8 (c.toNat : Int))) g (l.set i c) := by
  obtain ⟨d, hd⟩ : ∃ d, l[i]? = some d := ⟨_, List.getElem?_eq_getElem hi⟩
  refine ⟨fun j c' hj => ?_, fun j hj => by rw [World.frozen?_setCell]; exact h.fz j (by rw [List.length_set] at hj; exact hj)⟩
  by_cases e : i = j
  · subst e
    rw [List.getElem?_set_self hi] at hj
    cases hj
    exact World.cell?_setCell_same _ _ _ (h.cell i d hd)
  · rw [List.getElem?_set_ne e] at hj
    refine (World.cell?_setCell_other _ _ _ _ (fun e' => e (by injection e'))).trans (h.cell j c' hj)
theorem bb_new (w : World) (s : ByteArray) : BB (Lib.bytesWorld w 5 s) w.heap.size s.data.toList := by
  refine ⟨fun j c hj => ?_, fun j hj => ?_⟩
  · have hl : j < s.size := by rw [Lib.size_eq]; exact (List.getElem?_eq_some_iff.1 hj).1
    rw [Lib.bytesWorld_cell w _ s j hl]
    have h9 : s.data.toList.getD j 0 = c := by rw [List.getD_eq_getElem?_getD, hj]; rfl
    rw [h9]
  · have hl : j < s.size := by rw [Lib.size_eq]; exact hj
    have h9 := Lib.bytesWorld_at_new w 5 s
    have h8 : s.size ≤ (Lib.bytesCells w 5 s).size := by
      unfold Lib.bytesCells
      simp
    have h7 : ¬ (Lib.bytesCells w 5 s).size ≤ j := by omega
    simp [World.frozen?, h9]
    omega
/-- the text so far -/
structure NX (B : Nat) (wB : World) (acc : List UInt8) (v : Value) (L : List (List UInt8)) (vL : Value) (w : World) : Prop where
  own : w.ownsRow B 5 1 v acc.length (u8s acc)
  os : OS w B vL L
  below : Below B wB w
section
variable {B : Nat} {wB w w' : World} {acc : List UInt8} {v vL : Value} {L : List (List UInt8)}
theorem NX.low (g : NX B wB acc v L vL w) (hB : B ≤ w.heap.size) (hb : Below w.heap.size w w') : NX B wB acc v L vL w' :=
  ⟨own_block g.own fun k hk => hb.block k (g.own.lt k hk).2, own_block g.os fun k hk => hb.block k (g.os.lt k hk).2, g.below.trans (hb.mono hB)⟩
/-- a cell of a block beyond both rows' -/
theorem NX.set (g : NX B wB acc v L vL w) {h : Nat} (hB : B ≤ h) (h1 : v.ownBlock ≠ some h) (h2 : vL.ownBlock ≠ some h) (i : Nat) (u : Value) : NX B wB acc v L vL (w.setCell ⟨h, i, none⟩ u) :=
  ⟨own_block g.own fun k hk => Below.heap_setCell _ _ _ _ (fun e => h1 (by rw [hk, e])), own_block g.os fun k hk => Below.heap_setCell _ _ _ _ (fun e => h2 (by rw [hk, e])), g.below.setCell hB _⟩
theorem NX.app (g : NX B wB acc v L vL w) {h cap n : Nat} {l : List UInt8} (hb : BB w h l) (hn : n = l.length) (hl : acc.length + l.length ≤ 100000000) (hB : B ≤ w.heap.size) {ops : Array Oper} {rest : List Oper} {o : Oper} {a : Act} {Q : Exit → Act → World → Prop} (hgd : o.guard = none) (sl xo : Operand)
    (ho : o.op = .call { callee := .builtin .append, args := #[sl, xo], argTypes := #[34, 34] }) (hv : a.eval sl = v) (hx : a.eval xo = .slice (some ⟨h, 0, none⟩) n cap)
    (hK : ∀ v' w', NX B wB (acc ++ l) v' L vL w' → w.heap.size ≤ w'.heap.size → wpList Tryz.prog ops Q rest (a.put o.dst v') w') : wpList Tryz.prog ops Q (o :: rest) a w := by
  subst hn
  obtain ⟨i0, hi0, hz0, hz1, hz2⟩ := info_parts info_u8
  refine wpList_append_own w hgd sl xo 34 ho B 5 i0 _ 1 1 Tryz.underlying34 hi0 hz0 hz1 hz2 rfl (by decide) v acc.length _ hv g.own ⟨h, 0, none⟩ l.length cap (u8s l) hx (by unfold u8s; simp) ?_ ?_ (by unfold maxLen; omega) (by omega) hB ?_
  · intro j u hj
    unfold u8s at hj
    rw [List.getElem?_map] at hj
    obtain ⟨c, hc, rfl⟩ := Option.map_eq_some_iff.1 hj
    rw [show (⟨h, 0, none⟩ : Addr).add j = ⟨h, j, none⟩ by unfold Addr.add; split <;> simp_all]
    exact hb.cell j c hc
  · intro u hu
    obtain ⟨c, _, rfl⟩ := List.mem_map.1 hu
    rfl
  intro v' w2 hown2 hg2 _
  refine hK v' w2 ⟨?_, own_block g.os fun k hk => hg2.block k (g.os.lt k hk).2 (fun e => own_apart g.os g.own (by decide) hk e.symm), g.below.grown hg2 hB (fun k hk => (g.own.lt k hk).1)⟩ hg2.size
  rw [List.length_append, u8s_app]
  exact hown2
end
theorem flat_snoc {L : List (List UInt8)} {k : Nat} {l : List UInt8} (c : UInt8) (h : L[k]? = some l) : ((L.take (k + 1)).map (ren c)).flatMap (fun t => t ++ [10]) = ((L.take k).map (ren c)).flatMap (fun t => t ++ [10]) ++ (ren c l ++ [10]) := by
  rw [takek_snoc h, List.map_append, List.flatMap_append]
  simp
theorem ren_len (c : UInt8) (l : List UInt8) : (ren c l).length = l.length := by
  unfold ren renA
  split <;> split <;> simp
theorem lines_sum : ∀ l : List UInt8, ((linesL l).flatMap (fun t => t ++ [10])).length = l.length + 1
  | [] => rfl
  | c :: l => by
    have ih := lines_sum l
    rw [linesL]
    split
    · rw [List.flatMap_cons, List.length_append, ih]
      simp
      omega
    · cases hl : linesL l with
      | nil => rw [hl] at ih; simp at ih
      | cons h t =>
        rw [hl] at ih
        rw [List.flatMap_cons, List.length_append] at ih ⊢
        simp only [List.length_append, List.length_cons, List.length_nil] at ih ⊢
        omega
theorem flat_len (c : UInt8) : ∀ L : List (List UInt8), ((L.map (ren c)).flatMap (fun t => t ++ [10])).length = (L.flatMap (fun t => t ++ [10])).length
  | [] => rfl
  | l :: L => by
    rw [List.map_cons, List.flatMap_cons, List.flatMap_cons, List.length_append, List.length_append, flat_len c L, List.length_append, List.length_append, ren_len]
theorem flat_take (c : UInt8) (L : List (List UInt8)) (k : Nat) : (((L.take k).map (ren c)).flatMap (fun t => t ++ [10])).length ≤ (L.flatMap (fun t => t ++ [10])).length := by
  rw [flat_len]
  have e : L.flatMap (fun t => t ++ [10]) = (L.take k).flatMap (fun t => t ++ [10]) ++ (L.drop k).flatMap (fun t => t ++ [10]) := by
    rw [← List.flatMap_append, List.take_append_drop]
  rw [e, List.length_append]
  omega
theorem take5 (s : ByteArray) : (s.extract 0 5).data.toList = s.data.toList.take 5 := by
  have := Spl.bL_extract s 0 5
  unfold Spl.bL at this
  rw [this]
  simp
theorem bb_one (w : World) : BB (w.alloc (.cells #[.int .u8 10] 5)) w.heap.size [10] := by
  refine ⟨fun j c hj => ?_, fun j hj => ?_⟩
  · match j, hj with
    | 0, hj => simp at hj; subst hj; simp
  · have h9 := heap_alloc_new w (.cells #[.int .u8 10] 5)
    unfold World.frozen?
    dsimp only
    rw [h9]
    simp
theorem cst0 : (⟨#[106, 117, 109, 112, 32]⟩ : ByteArray).toList = [106, 117, 109, 112, 32] := by decide +kernel
theorem cst1 : (⟨#[122, 101, 114, 111, 32]⟩ : ByteArray).toList = [122, 101, 114, 111, 32] := by decide +kernel
theorem cst2 : (⟨#[99, 97, 108, 108, 32]⟩ : ByteArray).toList = [99, 97, 108, 108, 32] := by decide +kernel
theorem list_ne {a b : ByteArray} {l : List UInt8} (h : a ≠ b) (hb : b.toList = l) : ¬ a.toList = l := by
  have h9 := Sx.seq_ff h
  rw [beq_eq_false_iff_ne, hb] at h9
  exact h9
theorem jmp_of {τ : ByteArray} {l : List UInt8} {P : Prop} (h : τ.extract 0 5 = ⟨l.toArray⟩) (k : τ.data.toList.take 5 = l → P) : P := k (by rw [← take5, h])
theorem jmp_to {τ : ByteArray} {l : List UInt8} (h : τ.data.toList.take 5 = l) : τ.extract 0 5 = ⟨l.toArray⟩ := by
  apply ByteArray.ext
  apply Array.toList_inj.1
  rw [take5, h]
set_option maxHeartbeats 16000000 in
set_option maxRecDepth 100000 in
theorem nameslaw_any (p : List Cd.I) (v : Value) (n : Int) (W : World) (hP : Cd.PS W v p) (hE : Env W) :
    Calls Tryz.prog 6 #[v, .int .i64 n] W fun e W' => e = .returned (.bool true) ∧ Below W.heap.size W W' := by
  have hal := alive_any W hE
  have HP := Lib.hid hP
  obtain ⟨sl, cap, rfl, -⟩ := hP.form
  clear hP
  go_enter Tryz.func6, Tryz.ntmps6
  go_wp2_with (first
    | (go_at_call 8; refine hal.mono ?_; clear hal; rintro e w1 ⟨rfl, hb1⟩; have hg := great_any p _ w1 (HP.out.below hb1)))
  refine hg.mono ?_
  clear hg
  rintro e w2 ⟨ga, rfl, hb2⟩
  have hB2 := hb1.trans (hb2.mono hb1.size)
  clear hb1 hb2
  cases ga with
  | true =>
    go_wp2_with fail
    go_ret
    exact ⟨rfl, hB2⟩
  | false =>
    by_cases l0 : n < 0
    · go_wp2_with fail
      go_ret
      exact ⟨rfl, hB2⟩
    by_cases l1 : 25 < n
    · go_wp2_with fail
      go_ret
      exact ⟨rfl, hB2⟩
    have hD := disassemble_any p _ w2 (HP.out.below hB2) (hE.below hB2)
    unfold DQ at hD
    by_cases cp : (Cd.check p).2 = 0
    rotate_left
    · rw [if_neg cp] at hD
      obtain ⟨ce, hce⟩ : ∃ ce, ce = (Cd.check p).2 := ⟨_, rfl⟩
      rw [← hce] at cp hD
      clear hce
      go_wp2_with (first
        | (go_at_call 13; refine hD.mono ?_; clear hD; rintro e w5 ⟨rfl, hb5⟩))
      go_ret
      exact ⟨rfl, hB2.trans (hb5.mono hB2.size)⟩
    have HCP := Lib.hid cp
    rw [cp, if_pos rfl] at hD
    obtain ⟨σ, hσ⟩ : ∃ σ : ByteArray, σ = ⟨(disL p).toArray⟩ := ⟨_, rfl⟩
    rw [← hσ] at hD
    have HSG := Lib.hid (show σ.data.toList = disL p by rw [hσ])
    clear cp hσ
    by_cases hsz : 65536 < σ.size
    · have j3 : (65536 : Int) < (σ.size : Int) := by omega
      go_wp2_with (first
        | (go_at_call 13; refine hD.mono ?_; clear hD; rintro e w5 ⟨rfl, hb5⟩))
      go_ret
      exact ⟨rfl, hB2.trans (hb5.mono hB2.size)⟩
    have j3 : ¬ (65536 : Int) < (σ.size : Int) := by omega
    obtain ⟨m, rfl⟩ : ∃ m : Nat, n = (m : Int) := ⟨n.toNat, by omega⟩
    obtain ⟨c, hc⟩ : ∃ c : UInt8, c = UInt8.ofNat (97 + m) := ⟨_, rfl⟩
    have hcn : c.toNat = 97 + m := by rw [hc]; exact UInt8.toNat_ofNat_of_lt' (by show _ < 256; omega)
    have q1 : IntKind.i64.wrap (97 + (m : Int)) = (c.toNat : Int) := by rw [IntWalk.i64_in _ (by omega), hcn]; omega
    have q2 : IntKind.u8.wrap (c.toNat : Int) = (c.toNat : Int) := by show (c.toNat : Int) % 256 = _; omega
    have q3 : (c.toNat : Int) % 256 = (c.toNat : Int) := by omega
    have HC := Lib.hid (show 97 ≤ c.toNat ∧ c.toNat ≤ 122 by omega)
    clear hc hcn
    obtain ⟨L, hL⟩ : ∃ L, L = linesL σ.data.toList := ⟨_, rfl⟩
    have hln := fun (w : World) => rlines_any σ w (by omega)
    rw [← hL] at hln
    have HLL := Lib.hid hL
    have hLs : (L.flatMap (fun t => t ++ [10])).length ≤ 65537 := by
      rw [hL, lines_sum, ← Lib.size_eq]; omega
    have hLn : L.length ≤ 65537 := by
      have := (lines_small σ.data.toList).1
      rw [← hL, ← Lib.size_eq] at this
      omega
    have HLX := Lib.hid (show ∀ x ∈ L, x.length ≤ 65536 from fun x hx => by
      have := (lines_small σ.data.toList).2 x (by rw [← hL]; exact hx)
      rw [← Lib.size_eq] at this
      omega)
    have HLS := Lib.hid hLs
    clear hL hLs hsz
    go_wp2_with (first
      | (go_at_call 13; refine hD.mono ?_; clear hD; rintro e w5 ⟨rfl, hb5⟩; have hB5 := hB2.trans (hb5.mono hB2.size); have hA5 : Below w5.heap.size w5 (w5.alloc (.cells #[] 5)) := (Below.refl _ _).alloc (Nat.le_refl _) _; clear hb5)
      | (go_at_call 15; refine (hln _).mono ?_; clear hln; rintro e w6 ⟨vL, rfl, hO6, hb6⟩; obtain ⟨slL, cpL, rfl⟩ := own_form hO6; have HX6 := Lib.hid (show NX w5.heap.size w5 [] (.slice (some ⟨w5.heap.size, 0, none⟩) 0 0) L (.slice slL L.length cpL) w6 from ⟨own_block (World.ownsRow_lit w5 #[] 0 (Nat.le_refl _) (by decide) rfl) (fun k hk => (by have h9 : w5.heap.size = k := (by simpa [Value.ownBlock] using hk); subst h9; exact hb6.block _ (by simp))), own_mono (by simp) hO6, hA5.trans (hb6.mono (by simp))⟩); clear hO6 hb6 hA5))
    go_loopw [8, 46] (fun ov i wr => ∃ (k : Nat), i = .int .i64 (k : Int) ∧ k ≤ L.length ∧ w5.heap.size ≤ wr.heap.size ∧ NX w5.heap.size w5 (((L.take k).map (ren c)).flatMap (fun t => t ++ [10])) ov L (.slice slL L.length cpL) wr) (fun _ i _ => L.length - (intOf i).toNat)
    case atStart => exact ⟨0, rfl, Nat.zero_le _, HX6.out.below.size, HX6.out⟩
    case round =>
      obtain ⟨k, rfl, hk, hw5, hX⟩ := hrel
      obtain ⟨slO, cpO, rfl⟩ := own_form hX.own
      have hlen := flat_take c L k
      have HX := Lib.hid hX
      have HLE := Lib.hid (show (((L.take k).map (ren c)).flatMap (fun t => t ++ [10])).length ≤ 65537 from Nat.le_trans hlen HLS.out)
      clear hlen
      by_cases hlt : k < L.length
      · obtain ⟨l, hlk⟩ : ∃ l, L[k]? = some l := ⟨_, List.getElem?_eq_getElem hlt⟩
        obtain ⟨gl, rfl, -, hgl, hcl, -, -⟩ := own_cells hX.os (show 0 < L.length by omega)
        obtain ⟨τ, hτ⟩ : ∃ τ : ByteArray, τ = ⟨l.toArray⟩ := ⟨_, rfl⟩
        have d0 : wr.cell? ⟨gl, k, none⟩ = some (.string τ) := by rw [hτ]; exact hcl k _ (by unfold rowS; rw [List.getElem?_map, hlk]; rfl)
        have hτd : l = τ.data.toList := by rw [hτ]
        have htz : τ.size ≤ 65536 := by rw [Lib.size_eq, ← hτd]; exact HLX.out l (List.mem_of_getElem? hlk)
        have HLK := Lib.hid hlk
        subst hτd
        have HSN := Lib.hid (flat_snoc c hlk)
        clear hτ hcl hgl hX hlk
        obtain ⟨acc, hacc⟩ : ∃ acc, acc = ((L.take k).map (ren c)).flatMap (fun t => t ++ [10]) := ⟨_, rfl⟩
        rw [← hacc] at HX HLE HSN
        rw [← hacc]
        clear hacc
        have hbA := Lib.bytesWorld_below wr 5 τ
        have HXA := Lib.hid (HX.out.low hw5 hbA)
        have HBB := Lib.hid (bb_new wr τ)
        have hconv := Lib.run_convert_string_bytes (P := Tryz.prog) wr 9 34 5 τ Tryz.underlying9 Tryz.underlying34 Tryz.underlying5
        obtain ⟨wA, hwA⟩ : ∃ wA, wA = Lib.bytesWorld wr 5 τ := ⟨_, rfl⟩
        obtain ⟨cpB, hcpB⟩ : ∃ cpB, cpB = grownCap wr τ.size 0 5 := ⟨_, rfl⟩
        rw [← hwA] at hbA HXA HBB hconv
        rw [← hcpB] at hconv
        have HN1 := Lib.hid (show (Value.slice slO acc.length cpO).ownBlock ≠ some wr.heap.size from fun e => by have := (HX.out.own.lt _ e).2; omega)
        have HN2 := Lib.hid (show (Value.slice (some ⟨gl, 0, none⟩) L.length cpL).ownBlock ≠ some wr.heap.size from fun e => by have := (HX.out.os.lt _ e).2; omega)
        have HWA := Lib.hid (show wr.heap.size < wA.heap.size by rw [hwA, Lib.bytesWorld_size]; omega)
        have HHH := Lib.hid (Lib.size_eq τ)
        clear hwA hcpB hbA
        have HNL := Lib.hid (show τ.size = (ren c τ.data.toList).length by rw [ren_len]; exact HHH.out)
        have HSZ := Lib.hid (show acc.length + (ren c τ.data.toList).length ≤ 100000000 by have := HLE.out; have := HHH.out; rw [ren_len]; omega)
        have HSY := Lib.hid (show (acc ++ ren c τ.data.toList).length + ([10] : List UInt8).length ≤ 100000000 by have := HLE.out; have := HHH.out; rw [List.length_append, ren_len]; simp; omega)
        by_cases g2 : 2 < τ.size
        rotate_left
        · have k2 : ¬ (2 : Int) < τ.size := by omega
          have HA := Lib.hid (show renA c τ.data.toList = τ.data.toList by unfold renA; rw [if_neg (fun h => by have := h.1; have := HHH.out; omega)])
          have k5 : ¬ (5 : Int) < τ.size := by omega
          have HJ := Lib.hid (show ¬ jmp τ.data.toList from fun h => by have := h.1; have := HHH.out; omega)
          have hren : ren c τ.data.toList = τ.data.toList := by unfold ren; rw [if_neg HJ.out, HA.out]
          have HXX := Lib.hid HXA.out
          have HBX := Lib.hid HBB.out
          rw [← hren] at HBX
          have HWX := Lib.hid (show w5.heap.size ≤ wA.heap.size by have := HWA.out; omega)
          clear hren
          go_wp2_with (first
            | (at_builtin; refine NX.app HXX.out HBX.out HNL.out HSZ.out HWX.out rfl _ _ rfl rfl rfl ?_; intro v9 w9 hz9 hs9; have hA9 : Below w9.heap.size w9 (w9.alloc (.cells #[.int .u8 10] 5)) := (Below.refl _ _).alloc (Nat.le_refl _) _; have HXY := Lib.hid (hz9.low hz9.below.size hA9); have HWY := Lib.hid (Nat.le_trans hz9.below.size hA9.size); clear hA9 hz9 hs9 HXX HBX)
            | (at_builtin; refine NX.app HXY.out (bb_one w9) rfl HSY.out HWY.out rfl _ _ rfl rfl rfl ?_; intro v10 w10 hz10 hs10; have HXZ := Lib.hid hz10; clear hz10 hs10))
          go_roundw
          case rel => exact ⟨k + 1, by go_num, by omega, HXZ.out.below.size, by rw [HSN.out, ← List.append_assoc]; exact HXZ.out⟩
          case measure => simp [intOf]; omega
        have k2 : (2 : Int) < τ.size := by omega
        have w1' : IntKind.i64.wrap ((τ.size : Int) - 1) = (τ.size : Int) - 1 := IntWalk.i64_in _ (by omega)
        have n1 : (0 : Int) ≤ (τ.size : Int) - 1 := by omega
        have t1 : ((τ.size : Int) - 1).toNat = τ.size - 1 := by omega
        have b4 : (τ.size : Int) - 1 < τ.size := by omega
        have e1 := HBB.out.cell (τ.size - 1) τ[τ.size - 1] (at_list (by omega))
        by_cases g8 : τ[τ.size - 1] = 58
        · have k3 : ((τ[τ.size - 1].toNat : Int) == 58) = true := by rw [g8]; rfl
          have HA := Lib.hid (show renA c τ.data.toList = τ.data.toList.set 0 c by unfold renA; rw [if_pos ⟨by have := HHH.out; omega, by rw [last_get (by omega), g8]⟩])
          clear g8
          by_cases g5 : 5 < τ.size
          rotate_left
          · have k5 : ¬ (5 : Int) < τ.size := by omega
            have HJ := Lib.hid (show ¬ jmp τ.data.toList from fun h => by have := h.1; have := HHH.out; omega)
            clear g5
            have hren : ren c τ.data.toList = τ.data.toList.set 0 c := by unfold ren; rw [if_neg HJ.out, HA.out]
            have HXX := Lib.hid (HXA.out.set hw5 HN1.out HN2.out 0 (.int .u8 (c.toNat : Int)))
            have HBX := Lib.hid (HBB.out.set (i := 0) (by have := HHH.out; omega) c)
            rw [← hren] at HBX
            have HWX := Lib.hid (show w5.heap.size ≤ (wA.setCell ⟨wr.heap.size, 0, none⟩ (.int .u8 (c.toNat : Int))).heap.size by have := HWA.out; simp [World.setCell]; omega)
            have f0 := HBB.out.cell 0 _ (List.getElem?_eq_getElem (by have := HHH.out; omega))
            have z0 := HBB.out.fz 0 (by have := HHH.out; omega)
            clear hren
            go_wp2_with (first
              | (at_builtin; refine NX.app HXX.out HBX.out HNL.out HSZ.out HWX.out rfl _ _ rfl rfl rfl ?_; intro v9 w9 hz9 hs9; have hA9 : Below w9.heap.size w9 (w9.alloc (.cells #[.int .u8 10] 5)) := (Below.refl _ _).alloc (Nat.le_refl _) _; have HXY := Lib.hid (hz9.low hz9.below.size hA9); have HWY := Lib.hid (Nat.le_trans hz9.below.size hA9.size); clear hA9 hz9 hs9 HXX HBX)
              | (at_builtin; refine NX.app HXY.out (bb_one w9) rfl HSY.out HWY.out rfl _ _ rfl rfl rfl ?_; intro v10 w10 hz10 hs10; have HXZ := Lib.hid hz10; clear hz10 hs10))
            go_roundw
            case rel => exact ⟨k + 1, by go_num, by omega, HXZ.out.below.size, by rw [HSN.out, ← List.append_assoc]; exact HXZ.out⟩
            case measure => simp [intOf]; omega
          have k5 : (5 : Int) < τ.size := by omega
          have k6 : (5 : Int) ≤ τ.size := by omega
          by_cases y0 : τ.extract 0 5 = ⟨#[106, 117, 109, 112, 32]⟩
          · have s0 : (τ.extract 0 5).toList = [106, 117, 109, 112, 32] := by rw [y0]; exact cst0
            have HJ := Lib.hid (show jmp τ.data.toList from ⟨by have := HHH.out; omega, jmp_of y0 .inl⟩)
            clear y0
            have hren : ren c τ.data.toList = (τ.data.toList.set 0 c).set 5 c := by unfold ren; rw [if_pos HJ.out, HA.out]
            have HXX := Lib.hid ((HXA.out.set hw5 HN1.out HN2.out 0 (.int .u8 (c.toNat : Int))).set hw5 HN1.out HN2.out 5 (.int .u8 (c.toNat : Int)))
            have HBX := Lib.hid ((HBB.out.set (i := 0) (by have := HHH.out; omega) c).set (i := 5) (by have := HHH.out; rw [List.length_set]; omega) c)
            rw [← hren] at HBX
            have HWX := Lib.hid (show w5.heap.size ≤ ((wA.setCell ⟨wr.heap.size, 0, none⟩ (.int .u8 (c.toNat : Int))).setCell ⟨wr.heap.size, 5, none⟩ (.int .u8 (c.toNat : Int))).heap.size by have := HWA.out; simp [World.setCell]; omega)
            have f0 := HBB.out.cell 0 _ (List.getElem?_eq_getElem (by have := HHH.out; omega))
            have z0 := HBB.out.fz 0 (by have := HHH.out; omega)
            have f5 := HBB.out.cell 5 _ (List.getElem?_eq_getElem (by have := HHH.out; omega))
            have z5 := HBB.out.fz 5 (by have := HHH.out; omega)
            clear hren
            go_wp2_with (first
              | (at_builtin; refine NX.app HXX.out HBX.out HNL.out HSZ.out HWX.out rfl _ _ rfl rfl rfl ?_; intro v9 w9 hz9 hs9; have hA9 : Below w9.heap.size w9 (w9.alloc (.cells #[.int .u8 10] 5)) := (Below.refl _ _).alloc (Nat.le_refl _) _; have HXY := Lib.hid (hz9.low hz9.below.size hA9); have HWY := Lib.hid (Nat.le_trans hz9.below.size hA9.size); clear hA9 hz9 hs9 HXX HBX)
              | (at_builtin; refine NX.app HXY.out (bb_one w9) rfl HSY.out HWY.out rfl _ _ rfl rfl rfl ?_; intro v10 w10 hz10 hs10; have HXZ := Lib.hid hz10; clear hz10 hs10))
            go_roundw
            case rel => exact ⟨k + 1, by go_num, by omega, HXZ.out.below.size, by rw [HSN.out, ← List.append_assoc]; exact HXZ.out⟩
            case measure => simp [intOf]; omega
          have s0 := list_ne y0 cst0
          have r0 : ((τ.extract 0 5).toList == [106, 117, 109, 112, 32]) = false := by rw [beq_eq_false_iff_ne]; exact s0
          by_cases y1 : τ.extract 0 5 = ⟨#[122, 101, 114, 111, 32]⟩
          · have s1 : (τ.extract 0 5).toList = [122, 101, 114, 111, 32] := by rw [y1]; exact cst1
            have HJ := Lib.hid (show jmp τ.data.toList from ⟨by have := HHH.out; omega, jmp_of y1 (fun h => .inr (.inl h))⟩)
            clear y0 y1
            have hren : ren c τ.data.toList = (τ.data.toList.set 0 c).set 5 c := by unfold ren; rw [if_pos HJ.out, HA.out]
            have HXX := Lib.hid ((HXA.out.set hw5 HN1.out HN2.out 0 (.int .u8 (c.toNat : Int))).set hw5 HN1.out HN2.out 5 (.int .u8 (c.toNat : Int)))
            have HBX := Lib.hid ((HBB.out.set (i := 0) (by have := HHH.out; omega) c).set (i := 5) (by have := HHH.out; rw [List.length_set]; omega) c)
            rw [← hren] at HBX
            have HWX := Lib.hid (show w5.heap.size ≤ ((wA.setCell ⟨wr.heap.size, 0, none⟩ (.int .u8 (c.toNat : Int))).setCell ⟨wr.heap.size, 5, none⟩ (.int .u8 (c.toNat : Int))).heap.size by have := HWA.out; simp [World.setCell]; omega)
            have f0 := HBB.out.cell 0 _ (List.getElem?_eq_getElem (by have := HHH.out; omega))
            have z0 := HBB.out.fz 0 (by have := HHH.out; omega)
            have f5 := HBB.out.cell 5 _ (List.getElem?_eq_getElem (by have := HHH.out; omega))
            have z5 := HBB.out.fz 5 (by have := HHH.out; omega)
            clear hren
            go_wp2_with (first
              | (at_builtin; refine NX.app HXX.out HBX.out HNL.out HSZ.out HWX.out rfl _ _ rfl rfl rfl ?_; intro v9 w9 hz9 hs9; have hA9 : Below w9.heap.size w9 (w9.alloc (.cells #[.int .u8 10] 5)) := (Below.refl _ _).alloc (Nat.le_refl _) _; have HXY := Lib.hid (hz9.low hz9.below.size hA9); have HWY := Lib.hid (Nat.le_trans hz9.below.size hA9.size); clear hA9 hz9 hs9 HXX HBX)
              | (at_builtin; refine NX.app HXY.out (bb_one w9) rfl HSY.out HWY.out rfl _ _ rfl rfl rfl ?_; intro v10 w10 hz10 hs10; have HXZ := Lib.hid hz10; clear hz10 hs10))
            go_roundw
            case rel => exact ⟨k + 1, by go_num, by omega, HXZ.out.below.size, by rw [HSN.out, ← List.append_assoc]; exact HXZ.out⟩
            case measure => simp [intOf]; omega
          have s1 := list_ne y1 cst1
          have r1 : ((τ.extract 0 5).toList == [122, 101, 114, 111, 32]) = false := by rw [beq_eq_false_iff_ne]; exact s1
          by_cases y2 : τ.extract 0 5 = ⟨#[99, 97, 108, 108, 32]⟩
          · have s2 : (τ.extract 0 5).toList = [99, 97, 108, 108, 32] := by rw [y2]; exact cst2
            have HJ := Lib.hid (show jmp τ.data.toList from ⟨by have := HHH.out; omega, jmp_of y2 (fun h => .inr (.inr h))⟩)
            clear y0 y1 y2
            have hren : ren c τ.data.toList = (τ.data.toList.set 0 c).set 5 c := by unfold ren; rw [if_pos HJ.out, HA.out]
            have HXX := Lib.hid ((HXA.out.set hw5 HN1.out HN2.out 0 (.int .u8 (c.toNat : Int))).set hw5 HN1.out HN2.out 5 (.int .u8 (c.toNat : Int)))
            have HBX := Lib.hid ((HBB.out.set (i := 0) (by have := HHH.out; omega) c).set (i := 5) (by have := HHH.out; rw [List.length_set]; omega) c)
            rw [← hren] at HBX
            have HWX := Lib.hid (show w5.heap.size ≤ ((wA.setCell ⟨wr.heap.size, 0, none⟩ (.int .u8 (c.toNat : Int))).setCell ⟨wr.heap.size, 5, none⟩ (.int .u8 (c.toNat : Int))).heap.size by have := HWA.out; simp [World.setCell]; omega)
            have f0 := HBB.out.cell 0 _ (List.getElem?_eq_getElem (by have := HHH.out; omega))
            have z0 := HBB.out.fz 0 (by have := HHH.out; omega)
            have f5 := HBB.out.cell 5 _ (List.getElem?_eq_getElem (by have := HHH.out; omega))
            have z5 := HBB.out.fz 5 (by have := HHH.out; omega)
            clear hren
            go_wp2_with (first
              | (at_builtin; refine NX.app HXX.out HBX.out HNL.out HSZ.out HWX.out rfl _ _ rfl rfl rfl ?_; intro v9 w9 hz9 hs9; have hA9 : Below w9.heap.size w9 (w9.alloc (.cells #[.int .u8 10] 5)) := (Below.refl _ _).alloc (Nat.le_refl _) _; have HXY := Lib.hid (hz9.low hz9.below.size hA9); have HWY := Lib.hid (Nat.le_trans hz9.below.size hA9.size); clear hA9 hz9 hs9 HXX HBX)
              | (at_builtin; refine NX.app HXY.out (bb_one w9) rfl HSY.out HWY.out rfl _ _ rfl rfl rfl ?_; intro v10 w10 hz10 hs10; have HXZ := Lib.hid hz10; clear hz10 hs10))
            go_roundw
            case rel => exact ⟨k + 1, by go_num, by omega, HXZ.out.below.size, by rw [HSN.out, ← List.append_assoc]; exact HXZ.out⟩
            case measure => simp [intOf]; omega
          have s2 := list_ne y2 cst2
          have r2 : ((τ.extract 0 5).toList == [99, 97, 108, 108, 32]) = false := by rw [beq_eq_false_iff_ne]; exact s2
          have HJ := Lib.hid (show ¬ jmp τ.data.toList from fun h => by rcases h.2 with h | h | h; exact y0 (jmp_to h); exact y1 (jmp_to h); exact y2 (jmp_to h))
          clear y0 y1 y2
          have hren : ren c τ.data.toList = τ.data.toList.set 0 c := by unfold ren; rw [if_neg HJ.out, HA.out]
          have HXX := Lib.hid (HXA.out.set hw5 HN1.out HN2.out 0 (.int .u8 (c.toNat : Int)))
          have HBX := Lib.hid (HBB.out.set (i := 0) (by have := HHH.out; omega) c)
          rw [← hren] at HBX
          have HWX := Lib.hid (show w5.heap.size ≤ (wA.setCell ⟨wr.heap.size, 0, none⟩ (.int .u8 (c.toNat : Int))).heap.size by have := HWA.out; simp [World.setCell]; omega)
          have f0 := HBB.out.cell 0 _ (List.getElem?_eq_getElem (by have := HHH.out; omega))
          have z0 := HBB.out.fz 0 (by have := HHH.out; omega)
          clear hren
          go_wp2_with (first
            | (at_builtin; refine NX.app HXX.out HBX.out HNL.out HSZ.out HWX.out rfl _ _ rfl rfl rfl ?_; intro v9 w9 hz9 hs9; have hA9 : Below w9.heap.size w9 (w9.alloc (.cells #[.int .u8 10] 5)) := (Below.refl _ _).alloc (Nat.le_refl _) _; have HXY := Lib.hid (hz9.low hz9.below.size hA9); have HWY := Lib.hid (Nat.le_trans hz9.below.size hA9.size); clear hA9 hz9 hs9 HXX HBX)
            | (at_builtin; refine NX.app HXY.out (bb_one w9) rfl HSY.out HWY.out rfl _ _ rfl rfl rfl ?_; intro v10 w10 hz10 hs10; have HXZ := Lib.hid hz10; clear hz10 hs10))
          go_roundw
          case rel => exact ⟨k + 1, by go_num, by omega, HXZ.out.below.size, by rw [HSN.out, ← List.append_assoc]; exact HXZ.out⟩
          case measure => simp [intOf]; omega
        · have k3 : ((τ[τ.size - 1].toNat : Int) == 58) = false := by
            rw [beq_eq_false_iff_ne]
            intro e
            exact g8 (u8_eq (n := 58) (by omega) (by decide))
          have HA := Lib.hid (show renA c τ.data.toList = τ.data.toList by unfold renA; rw [if_neg (fun h => g8 (by have h9 := h.2; rw [last_get (by omega)] at h9; exact Option.some.inj h9))])
          clear g8
          by_cases g5 : 5 < τ.size
          rotate_left
          · have k5 : ¬ (5 : Int) < τ.size := by omega
            have HJ := Lib.hid (show ¬ jmp τ.data.toList from fun h => by have := h.1; have := HHH.out; omega)
            clear g5
            have hren : ren c τ.data.toList = τ.data.toList := by unfold ren; rw [if_neg HJ.out, HA.out]
            have HXX := Lib.hid HXA.out
            have HBX := Lib.hid HBB.out
            rw [← hren] at HBX
            have HWX := Lib.hid (show w5.heap.size ≤ wA.heap.size by have := HWA.out; omega)
            clear hren
            go_wp2_with (first
              | (at_builtin; refine NX.app HXX.out HBX.out HNL.out HSZ.out HWX.out rfl _ _ rfl rfl rfl ?_; intro v9 w9 hz9 hs9; have hA9 : Below w9.heap.size w9 (w9.alloc (.cells #[.int .u8 10] 5)) := (Below.refl _ _).alloc (Nat.le_refl _) _; have HXY := Lib.hid (hz9.low hz9.below.size hA9); have HWY := Lib.hid (Nat.le_trans hz9.below.size hA9.size); clear hA9 hz9 hs9 HXX HBX)
              | (at_builtin; refine NX.app HXY.out (bb_one w9) rfl HSY.out HWY.out rfl _ _ rfl rfl rfl ?_; intro v10 w10 hz10 hs10; have HXZ := Lib.hid hz10; clear hz10 hs10))
            go_roundw
            case rel => exact ⟨k + 1, by go_num, by omega, HXZ.out.below.size, by rw [HSN.out, ← List.append_assoc]; exact HXZ.out⟩
            case measure => simp [intOf]; omega
          have k5 : (5 : Int) < τ.size := by omega
          have k6 : (5 : Int) ≤ τ.size := by omega
          by_cases y0 : τ.extract 0 5 = ⟨#[106, 117, 109, 112, 32]⟩
          · have s0 : (τ.extract 0 5).toList = [106, 117, 109, 112, 32] := by rw [y0]; exact cst0
            have HJ := Lib.hid (show jmp τ.data.toList from ⟨by have := HHH.out; omega, jmp_of y0 .inl⟩)
            clear y0
            have hren : ren c τ.data.toList = (τ.data.toList).set 5 c := by unfold ren; rw [if_pos HJ.out, HA.out]
            have HXX := Lib.hid (HXA.out.set hw5 HN1.out HN2.out 5 (.int .u8 (c.toNat : Int)))
            have HBX := Lib.hid (HBB.out.set (i := 5) (by have := HHH.out; omega) c)
            rw [← hren] at HBX
            have HWX := Lib.hid (show w5.heap.size ≤ (wA.setCell ⟨wr.heap.size, 5, none⟩ (.int .u8 (c.toNat : Int))).heap.size by have := HWA.out; simp [World.setCell]; omega)
            have f5 := HBB.out.cell 5 _ (List.getElem?_eq_getElem (by have := HHH.out; omega))
            have z5 := HBB.out.fz 5 (by have := HHH.out; omega)
            clear hren
            go_wp2_with (first
              | (at_builtin; refine NX.app HXX.out HBX.out HNL.out HSZ.out HWX.out rfl _ _ rfl rfl rfl ?_; intro v9 w9 hz9 hs9; have hA9 : Below w9.heap.size w9 (w9.alloc (.cells #[.int .u8 10] 5)) := (Below.refl _ _).alloc (Nat.le_refl _) _; have HXY := Lib.hid (hz9.low hz9.below.size hA9); have HWY := Lib.hid (Nat.le_trans hz9.below.size hA9.size); clear hA9 hz9 hs9 HXX HBX)
              | (at_builtin; refine NX.app HXY.out (bb_one w9) rfl HSY.out HWY.out rfl _ _ rfl rfl rfl ?_; intro v10 w10 hz10 hs10; have HXZ := Lib.hid hz10; clear hz10 hs10))
            go_roundw
            case rel => exact ⟨k + 1, by go_num, by omega, HXZ.out.below.size, by rw [HSN.out, ← List.append_assoc]; exact HXZ.out⟩
            case measure => simp [intOf]; omega
          have s0 := list_ne y0 cst0
          have r0 : ((τ.extract 0 5).toList == [106, 117, 109, 112, 32]) = false := by rw [beq_eq_false_iff_ne]; exact s0
          by_cases y1 : τ.extract 0 5 = ⟨#[122, 101, 114, 111, 32]⟩
          · have s1 : (τ.extract 0 5).toList = [122, 101, 114, 111, 32] := by rw [y1]; exact cst1
            have HJ := Lib.hid (show jmp τ.data.toList from ⟨by have := HHH.out; omega, jmp_of y1 (fun h => .inr (.inl h))⟩)
            clear y0 y1
            have hren : ren c τ.data.toList = (τ.data.toList).set 5 c := by unfold ren; rw [if_pos HJ.out, HA.out]
            have HXX := Lib.hid (HXA.out.set hw5 HN1.out HN2.out 5 (.int .u8 (c.toNat : Int)))
            have HBX := Lib.hid (HBB.out.set (i := 5) (by have := HHH.out; omega) c)
            rw [← hren] at HBX
            have HWX := Lib.hid (show w5.heap.size ≤ (wA.setCell ⟨wr.heap.size, 5, none⟩ (.int .u8 (c.toNat : Int))).heap.size by have := HWA.out; simp [World.setCell]; omega)
            have f5 := HBB.out.cell 5 _ (List.getElem?_eq_getElem (by have := HHH.out; omega))
            have z5 := HBB.out.fz 5 (by have := HHH.out; omega)
            clear hren
            go_wp2_with (first
              | (at_builtin; refine NX.app HXX.out HBX.out HNL.out HSZ.out HWX.out rfl _ _ rfl rfl rfl ?_; intro v9 w9 hz9 hs9; have hA9 : Below w9.heap.size w9 (w9.alloc (.cells #[.int .u8 10] 5)) := (Below.refl _ _).alloc (Nat.le_refl _) _; have HXY := Lib.hid (hz9.low hz9.below.size hA9); have HWY := Lib.hid (Nat.le_trans hz9.below.size hA9.size); clear hA9 hz9 hs9 HXX HBX)
              | (at_builtin; refine NX.app HXY.out (bb_one w9) rfl HSY.out HWY.out rfl _ _ rfl rfl rfl ?_; intro v10 w10 hz10 hs10; have HXZ := Lib.hid hz10; clear hz10 hs10))
            go_roundw
            case rel => exact ⟨k + 1, by go_num, by omega, HXZ.out.below.size, by rw [HSN.out, ← List.append_assoc]; exact HXZ.out⟩
            case measure => simp [intOf]; omega
          have s1 := list_ne y1 cst1
          have r1 : ((τ.extract 0 5).toList == [122, 101, 114, 111, 32]) = false := by rw [beq_eq_false_iff_ne]; exact s1
          by_cases y2 : τ.extract 0 5 = ⟨#[99, 97, 108, 108, 32]⟩
          · have s2 : (τ.extract 0 5).toList = [99, 97, 108, 108, 32] := by rw [y2]; exact cst2
            have HJ := Lib.hid (show jmp τ.data.toList from ⟨by have := HHH.out; omega, jmp_of y2 (fun h => .inr (.inr h))⟩)
            clear y0 y1 y2
            have hren : ren c τ.data.toList = (τ.data.toList).set 5 c := by unfold ren; rw [if_pos HJ.out, HA.out]
            have HXX := Lib.hid (HXA.out.set hw5 HN1.out HN2.out 5 (.int .u8 (c.toNat : Int)))
            have HBX := Lib.hid (HBB.out.set (i := 5) (by have := HHH.out; omega) c)
            rw [← hren] at HBX
            have HWX := Lib.hid (show w5.heap.size ≤ (wA.setCell ⟨wr.heap.size, 5, none⟩ (.int .u8 (c.toNat : Int))).heap.size by have := HWA.out; simp [World.setCell]; omega)
            have f5 := HBB.out.cell 5 _ (List.getElem?_eq_getElem (by have := HHH.out; omega))
            have z5 := HBB.out.fz 5 (by have := HHH.out; omega)
            clear hren
            go_wp2_with (first
              | (at_builtin; refine NX.app HXX.out HBX.out HNL.out HSZ.out HWX.out rfl _ _ rfl rfl rfl ?_; intro v9 w9 hz9 hs9; have hA9 : Below w9.heap.size w9 (w9.alloc (.cells #[.int .u8 10] 5)) := (Below.refl _ _).alloc (Nat.le_refl _) _; have HXY := Lib.hid (hz9.low hz9.below.size hA9); have HWY := Lib.hid (Nat.le_trans hz9.below.size hA9.size); clear hA9 hz9 hs9 HXX HBX)
              | (at_builtin; refine NX.app HXY.out (bb_one w9) rfl HSY.out HWY.out rfl _ _ rfl rfl rfl ?_; intro v10 w10 hz10 hs10; have HXZ := Lib.hid hz10; clear hz10 hs10))
            go_roundw
            case rel => exact ⟨k + 1, by go_num, by omega, HXZ.out.below.size, by rw [HSN.out, ← List.append_assoc]; exact HXZ.out⟩
            case measure => simp [intOf]; omega
          have s2 := list_ne y2 cst2
          have r2 : ((τ.extract 0 5).toList == [99, 97, 108, 108, 32]) = false := by rw [beq_eq_false_iff_ne]; exact s2
          have HJ := Lib.hid (show ¬ jmp τ.data.toList from fun h => by rcases h.2 with h | h | h; exact y0 (jmp_to h); exact y1 (jmp_to h); exact y2 (jmp_to h))
          clear y0 y1 y2
          have hren : ren c τ.data.toList = τ.data.toList := by unfold ren; rw [if_neg HJ.out, HA.out]
          have HXX := Lib.hid HXA.out
          have HBX := Lib.hid HBB.out
          rw [← hren] at HBX
          have HWX := Lib.hid (show w5.heap.size ≤ wA.heap.size by have := HWA.out; omega)
          clear hren
          go_wp2_with (first
            | (at_builtin; refine NX.app HXX.out HBX.out HNL.out HSZ.out HWX.out rfl _ _ rfl rfl rfl ?_; intro v9 w9 hz9 hs9; have hA9 : Below w9.heap.size w9 (w9.alloc (.cells #[.int .u8 10] 5)) := (Below.refl _ _).alloc (Nat.le_refl _) _; have HXY := Lib.hid (hz9.low hz9.below.size hA9); have HWY := Lib.hid (Nat.le_trans hz9.below.size hA9.size); clear hA9 hz9 hs9 HXX HBX)
            | (at_builtin; refine NX.app HXY.out (bb_one w9) rfl HSY.out HWY.out rfl _ _ rfl rfl rfl ?_; intro v10 w10 hz10 hs10; have HXZ := Lib.hid hz10; clear hz10 hs10))
          go_roundw
          case rel => exact ⟨k + 1, by go_num, by omega, HXZ.out.below.size, by rw [HSN.out, ← List.append_assoc]; exact HXZ.out⟩
          case measure => simp [intOf]; omega
      · obtain rfl : k = L.length := by omega
        rw [List.take_length] at HX HLE
        rw [List.take_length]
        have HAC := Lib.hid (show (L.map (ren c)).flatMap (fun t => t ++ [10]) = ((linesL (disL p)).map (ren c)).flatMap (fun t => t ++ [10]) by rw [HLL.out, HSG.out])
        obtain ⟨acc, hacc⟩ : ∃ acc, acc = (L.map (ren c)).flatMap (fun t => t ++ [10]) := ⟨_, rfl⟩
        rw [← hacc] at HX HLE HAC
        rw [← hacc]
        clear hacc hX
        have hcv : (convert 34 9 (.slice slO acc.length cpO)).run Tryz.prog wr = .ok (.string ⟨acc.toArray⟩) wr := conv_any HX.out.own
        have hBr : Below W.heap.size W wr := hB5.trans (HX.out.below.mono hB5.size)
        have hAs := assemble_any ⟨acc.toArray⟩ wr (hE.below hBr)
        unfold AQ at hAs
        by_cases hs : 65536 < acc.length
        · have j9 : (65536 : Int) < (acc.length : Int) := by omega
          rw [show asmP (⟨acc.toArray⟩ : ByteArray).data.toList = ([], 0, 3) by unfold asmP; rw [if_pos (show 65536 < acc.length from hs)]] at hAs
          clear hs
          go_wp2_with (first
            | (go_at_call 9; refine hAs.mono ?_; clear hAs; rintro e w7 ⟨vq, rfl, hQ, hb7⟩))
          go_ret
          exact ⟨rfl, hBr.trans (hb7.mono hBr.size)⟩
        · have j9 : ¬ (65536 : Int) < (acc.length : Int) := by omega
          rw [show asmP (⟨acc.toArray⟩ : ByteArray).data.toList = (p, 0, 0) from (by
            show asmP acc = _
            rw [HAC.out]
            exact asm_ren HC.out (chk_zero HCP.out).1 (chk_zero HCP.out).2.1 (right_all HCP.out HP.out.nb) (by rw [← HAC.out]; omega))] at hAs
          clear hs
          go_wp2_with (first
            | (go_at_call 9; refine hAs.mono ?_; clear hAs; rintro e w7 ⟨vq, rfl, hQ, hb7⟩; have hb57 := hBr.trans (hb7.mono hBr.size); have hsm := same_any p _ _ w7 hQ (HP.out.below hb57); obtain ⟨slq, capq, rfl, -⟩ := hQ.form)
            | (go_at_call 11; refine hsm.mono ?_; clear hsm; rintro e w8 ⟨rfl, hb8⟩))
          go_ret
          exact ⟨rfl, hb57.trans (hb8.mono hb57.size)⟩
end Aw
end Go.Proofs.YtipcockcndnipaaGreatDoor
