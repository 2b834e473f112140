/-
  Walk: the reference's Decode of a build, for every text. (printed by gen_DvN.py)
-/
import Derived.Test.YtbhngjhfeejeiaaGreatDoorDvJ
import Derived.Test.YtbhngjhfeejeiaaGreatDoorDvE
import Derived.Test.YtbhngjhfeejeiaaGreatDoorSxRI
namespace Go.Proofs.YtbhngjhfeejeiaaGreatDoor
open Go.RowKit Sx
namespace Dv

theorem DF.set123 {W : World} {o : Nat} {nm tl : ByteArray} {a b c x y z : Int} {ins : List (ByteArray × ByteArray)} {v : Value} (h : DF W o ⟨nm, a, b, c, tl, ins⟩ v) : DF (((W.setCell ⟨o, 1, none⟩ (.int .i64 x)).setCell ⟨o, 2, none⟩ (.int .i64 y)).setCell ⟨o, 3, none⟩ (.int .i64 z)) o ⟨nm, x, y, z, tl, ins⟩ v := by
  have h1 := World.cell?_setCell_same W ⟨o, 1, none⟩ (.int .i64 x) h.dc.c1
  have h2 := World.cell?_setCell_same (W.setCell ⟨o, 1, none⟩ (.int .i64 x)) ⟨o, 2, none⟩ (.int .i64 y) (by rw [World.cell?_setCell_other _ _ _ _ (by simp)]; exact h.dc.c2)
  have h3 := World.cell?_setCell_same ((W.setCell ⟨o, 1, none⟩ (.int .i64 x)).setCell ⟨o, 2, none⟩ (.int .i64 y)) ⟨o, 3, none⟩ (.int .i64 z) (by rw [World.cell?_setCell_other _ _ _ _ (by simp), World.cell?_setCell_other _ _ _ _ (by simp)]; exact h.dc.c3)
  refine ⟨⟨by simpa [World.setCell] using h.dc.lt, ?_, ?_, ?_, h3, ?_, ?_⟩, fun j => ?_⟩
  · rw [World.cell?_setCell_other _ _ _ _ (by simp), World.cell?_setCell_other _ _ _ _ (by simp), World.cell?_setCell_other _ _ _ _ (by simp)]; exact h.dc.c0
  · rw [World.cell?_setCell_other _ _ _ _ (by simp), World.cell?_setCell_other _ _ _ _ (by simp)]; exact h1
  · rw [World.cell?_setCell_other _ _ _ _ (by simp)]; exact h2
  · rw [World.cell?_setCell_other _ _ _ _ (by simp), World.cell?_setCell_other _ _ _ _ (by simp), World.cell?_setCell_other _ _ _ _ (by simp)]; exact h.dc.c4
  · rw [World.cell?_setCell_other _ _ _ _ (by simp), World.cell?_setCell_other _ _ _ _ (by simp), World.cell?_setCell_other _ _ _ _ (by simp)]; exact h.dc.c5
  · rw [World.frozen?_setCell, World.frozen?_setCell, World.frozen?_setCell]; exact h.fz j
theorem txt_le {u : T} (h : kidsLe u) : (txt u).size ≤ 65536 := by
  cases u with
  | list l => show 0 ≤ 65536; omega
  | leaf c =>
    unfold kidsLe at h
    have h' := Lib.size_eq c
    simp only [enc, List.length_append, List.length_cons] at h
    show c.size ≤ 65536
    omega
/-- block o holds a node -/
structure N3 (w : World) (o : Nat) (v : Value) : Prop where
  lt : o < w.heap.size
  c0 : w.cell? ⟨o, 0, none⟩ = some (.bool false)
  c1 : w.cell? ⟨o, 1, none⟩ = some (.string ⟨#[]⟩)
  c2 : w.cell? ⟨o, 2, none⟩ = some v
theorem N3.block {w w' : World} {o : Nat} {v : Value} (h : N3 w o v) (hs : w.heap.size ≤ w'.heap.size) (hb : w'.heap[o]? = w.heap[o]?) : N3 w' o v :=
  ⟨Nat.lt_of_lt_of_le h.lt hs, (World.cell?_of_block hb).trans h.c0, (World.cell?_of_block hb).trans h.c1, (World.cell?_of_block hb).trans h.c2⟩
theorem N3.below {w w' : World} {o : Nat} {v : Value} (h : N3 w o v) (hb : Below w.heap.size w w') : N3 w' o v := h.block hb.size (hb.block o h.lt)
theorem kid_le {u : T} (h : kidsLe u) {i : Nat} : (txt ((kidsT u)[i]?.getD (.list []))).size ≤ 65536 := by
  cases hk : (kidsT u)[i]? with
  | none => show 0 ≤ 65536; omega
  | some k => exact txt_le ((kids_le h).2 i k hk)
def pairT (u : T) : ByteArray × ByteArray := (txt ((kidsT u)[0]?.getD (.list [])), txt ((kidsT u)[1]?.getD (.list [])))
theorem pair_of {u k0 k1 : T} (h0 : (kidsT u)[0]? = some k0) (h1 : (kidsT u)[1]? = some k1) : pairT u = (txt k0, txt k1) := by simp [pairT, h0, h1]
theorem pair_snoc {ws : List T} {k : Nat} {u : T} {p q : ByteArray} (hu : ws[k]? = some u) (h : pairT u = (p, q)) : (ws.take k).map pairT ++ [(p, q)] = (ws.take (k + 1)).map pairT := by
  rw [List.take_add_one, hu, ← h]
  simp
/-- what a build's tree gives -/
theorem loose {k0 k1 k2 k3 k4 : T} {d : D} (h : IsB (.list [k0, k1, k2, k3, k4]) d) : txt k1 = d.name ∧ Vs.parseL (txt k2).data.toList = some (d.a, d.b, d.c) ∧ txt k3 = d.tool ∧ (kidsT k4).map pairT = d.ins ∧ ∀ u ∈ kidsT k4, (kidsT u).length = 2 := by
  have hp := h.parts
  simp only [T.list.injEq, List.cons.injEq, and_true] at hp
  obtain ⟨-, rfl, rfl, rfl, rfl⟩ := hp
  refine ⟨rfl, Vs.parse_text (good_ver h.good), rfl, ?_, fun u hu => ?_⟩
  · simp only [kidsT, List.map_map]
    conv => rhs; rw [← List.map_id d.ins]
    apply List.map_congr_left
    intro x _
    simp [pairT, kidsT, txt]
  · simp only [kidsT, List.mem_map] at hu
    obtain ⟨x, _, rfl⟩ := hu
    rfl
theorem loose_eq {k0 k1 k2 k3 k4 : T} {d : D} {a b c : Int} (h : IsB (.list [k0, k1, k2, k3, k4]) d) (hv : (∃ e : Int, (e = 0 ∧ Vs.parseL (txt k2).data.toList = some (a, b, c)) ∨ (e = 20 ∧ Vs.parseL (txt k2).data.toList = none))) : d = ⟨txt k1, a, b, c, txt k3, (kidsT k4).map pairT⟩ := by
  obtain ⟨h1, h2, h3, h4, -⟩ := loose h
  obtain ⟨e, hv⟩ := hv
  rw [h2] at hv
  rcases hv with ⟨-, hv⟩ | ⟨-, hv⟩
  · simp only [Option.some.injEq, Prod.mk.injEq] at hv
    obtain ⟨g1, g2, g3⟩ := hv
    rw [h1, h3, h4, ← g1, ← g2, ← g3]
  · cases hv

set_option maxHeartbeats 8000000 in
set_option maxRecDepth 100000 in
theorem rddecode_any (s : ByteArray) (W : World) (hE : EnvD W) :
    Calls Tryz.prog 6 #[.string s] W fun e W' => DQ W s.data.toList e W' := by
  have hX : Below W.heap.size W (W.alloc ZO) := (Below.refl _ _).alloc (Nat.le_refl _) _
  have hZ : DF (W.alloc ZO) W.heap.size D0 (.slice none 0 0) := DF.new W D0 (.slice none 0 0)
  have hcall := decoder_any s (W.alloc ZO)
  cases hO : parse s.data.toList with
  | bad f =>
    rw [hO] at hcall
    have hD := Lib.hid (decB_bad hO)
    clear hO
    go_enter Tryz.func6, Tryz.ntmps6
    go_wp2_with fail
    refine hcall.mono ?_
    rintro e w1 ⟨⟨β, σ, sl, n, cap, f', rfl, rfl, hf0⟩, hb1⟩
    have j0 : (f' == 0) = false := by rw [beq_eq_false_iff_ne]; exact hf0
    have j1 : (f' != 0) = true := by rw [bne_iff_ne]; exact hf0
    have hA : Below w1.heap.size w1 (w1.alloc (.cells #[.bool β, .string σ, .slice sl n cap] 39)) := (Below.refl _ _).alloc (Nat.le_refl _) _
    have hB := trans' (trans' hX hb1) hA
    obtain ⟨l0, q0, q1, q2, q3, q4, q5, qf⟩ := ((hZ.below hb1).below hA).zero
    clear hf0 hcall hZ
    go_wp2_with fail
    refine bodyPost_ret (v := .tuple #[.agg #[.string ⟨#[]⟩, .int .i64 0, .int .i64 0, .int .i64 0, .string ⟨#[]⟩, .slice none 0 0], .int .i64 f']) (by simp [results, Tryz.results6, go_sem, q0, q1, q2, q3, q4, q5]) rfl ?_
    exact dq_none hD.out rfl (B6 hB _ _ _ _ _ _)
  | ok t n0 =>
    rw [hO] at hcall
    obtain ⟨henc, hlen⟩ := parse_enc hO
    have hkl : kidsLe t := by unfold kidsLe; rw [henc]; exact hlen
    obtain ⟨hk1, hk2⟩ := kids_le hkl
    have HOK := Lib.hid hO
    have HK2 := Lib.hid hk2
    have HKL := Lib.hid hkl
    clear hO henc hlen hk2 hkl
    by_cases h5 : (kidsT t).length = 5
    rotate_left
    · have hD := Lib.hid (decB_no HOK.out (fun d hd => h5 (by rw [hd.parts]; rfl)))
      have j5 : (((kidsT t).length : Int) == 5) = false := by rw [beq_eq_false_iff_ne]; omega
      have j6 : (((kidsT t).length : Int) != 5) = true := by rw [bne_iff_ne]; omega
      go_enter Tryz.func6, Tryz.ntmps6
      go_wp2_with fail
      refine hcall.mono ?_
      rintro e w1 ⟨⟨β, σ, sl, n, cap, f', rfl, rfl, hrep⟩, hb1⟩
      obtain ⟨rfl, rfl, -⟩ := (hrep.rep (B := w1.heap.size) (fun b hb => hb.2)).kids
      have hA : Below w1.heap.size w1 (w1.alloc (.cells #[.bool (!isL t), .string σ, .slice sl (kidsT t).length cap] 39)) := (Below.refl _ _).alloc (Nat.le_refl _) _
      have hB := trans' (trans' hX hb1) hA
      obtain ⟨l0, q0, q1, q2, q3, q4, q5, qf⟩ := ((hZ.below hb1).below hA).zero
      clear hcall hZ h5 hrep
      go_wp2_with fail
      refine bodyPost_ret (v := .tuple #[.agg #[.string ⟨#[]⟩, .int .i64 0, .int .i64 0, .int .i64 0, .string ⟨#[]⟩, .slice none 0 0], .int .i64 5]) (by simp [results, Tryz.results6, go_sem, q0, q1, q2, q3, q4, q5]) rfl ?_
      exact dq_none hD.out rfl (B6 hB _ _ _ _ _ _)
    · obtain ⟨k0, k1, k2, k3, k4, rfl⟩ := five h5
      go_enter Tryz.func6, Tryz.ntmps6
      go_wp2_with fail
      refine hcall.mono ?_
      rintro e w1 ⟨⟨β, σ, sl, n, cap, f', rfl, rfl, hrep⟩, hb1⟩
      obtain ⟨i0, hi0, hz0, hz1, hz2⟩ := info_parts info_in
      have HREP := Lib.hid (hrep.rep (B := w1.heap.size) (fun b hb => hb.2))
      obtain ⟨hβ, hn5, h', x, y, z, hc, hr⟩ := HREP.out.kids
      obtain rfl : n = 5 := hn5
      obtain rfl : β = false := hβ
      obtain rfl : σ = ⟨#[]⟩ := by
        have h := HREP.out.vals.2.1
        injection h
      obtain ⟨b, o, rfl, hbl, -⟩ := hc 0 k0 rfl
      have hcc : ∀ i k, [k0, k1, k2, k3, k4][i]? = some k → w1.cell? ⟨b, o + i * 3, none⟩ = some (x i) ∧ w1.cell? ⟨b, o + i * 3 + 1, none⟩ = some (y i) ∧ w1.cell? ⟨b, o + i * 3 + 2, none⟩ = some (z i) := fun i k hk => by
        obtain ⟨b', o', e, -, h1, h2, h3⟩ := hc i k hk
        cases e
        exact ⟨h1, h2, h3⟩
      have HR := Lib.hid hr
      have t1 : w1.cell? ⟨b, o + 4, none⟩ = some (.string (txt k1)) := ((hcc 1 k1 rfl).2.1).trans (by rw [(hr 1 k1 rfl).vals.2.1])
      have t2 : w1.cell? ⟨b, o + 7, none⟩ = some (.string (txt k2)) := ((hcc 2 k2 rfl).2.1).trans (by rw [(hr 2 k2 rfl).vals.2.1])
      have t3 : w1.cell? ⟨b, o + 10, none⟩ = some (.string (txt k3)) := ((hcc 3 k3 rfl).2.1).trans (by rw [(hr 3 k3 rfl).vals.2.1])
      obtain ⟨hx4, hy4, sl4, cap4, hz4⟩ := (hr 4 k4 rfl).vals
      have t4 : w1.cell? ⟨b, o + 14, none⟩ = some (.slice sl4 (kidsT k4).length cap4) := ((hcc 4 k4 rfl).2.2).trans (by rw [hz4])
      have hr4 := hr 4 k4 rfl
      rw [hx4, hy4, hz4] at hr4
      obtain ⟨-, -, h9, x9, y9, z9, hc9, hr9⟩ := hr4.kids
      have HC9 := Lib.hid hc9
      have HR9 := Lib.hid hr9
      have hwl : (kidsT k4).length ≤ 65536 := (kids_le (HK2.out 4 k4 rfl)).1
      have HK9 := Lib.hid (kids_le (HK2.out 4 k4 rfl)).2
      have hsz2 : (txt k2).size ≤ 1048576 := Nat.le_trans (txt_le (HK2.out 2 k2 rfl)) (by decide)
      have hA : Below w1.heap.size w1 (w1.alloc (.cells #[.bool false, .string ⟨#[]⟩, .slice (some ⟨b, o, none⟩) 5 cap] 39)) := (Below.refl _ _).alloc (Nat.le_refl _) _
      have hB := trans' (trans' hX hb1) hA
      have hZ2 := (hZ.below hb1).below hA
      have hWl : W.heap.size < w1.heap.size + 1 := by have := hZ2.dc.lt; simpa using this
      have n0 : (w1.alloc (.cells #[.bool false, .string ⟨#[]⟩, .slice (some ⟨b, o, none⟩) 5 cap] 39)).cell? ⟨w1.heap.size, 0, none⟩ = some (.bool false) := by go_simp
      have n1 : (w1.alloc (.cells #[.bool false, .string ⟨#[]⟩, .slice (some ⟨b, o, none⟩) 5 cap] 39)).cell? ⟨w1.heap.size, 1, none⟩ = some (.string ⟨#[]⟩) := by go_simp
      have n2 : (w1.alloc (.cells #[.bool false, .string ⟨#[]⟩, .slice (some ⟨b, o, none⟩) 5 cap] 39)).cell? ⟨w1.heap.size, 2, none⟩ = some (.slice (some ⟨b, o, none⟩) 5 cap) := by go_simp
      have u1 := keep_cell hA t1
      have u2 := keep_cell hA t2
      have u3 := keep_cell hA t3
      have u4 := keep_cell hA t4
      have hs2 : (w1.alloc (.cells #[.bool false, .string ⟨#[]⟩, .slice (some ⟨b, o, none⟩) 5 cap] 39)).heap.size = w1.heap.size + 1 := by simp
      clear hcall hZ h5 hrep hc hr hcc HR t1 t2 t3 t4 hx4 hy4 hz4 hr4 hc9 hr9 hX hb1 hk1
      go_wp2_with fail
      generalize w1.alloc (.cells #[.bool false, .string ⟨#[]⟩, .slice (some ⟨b, o, none⟩) 5 cap] 39) = w2 at *
      go_region
      have hA2 : Below w2.heap.size w2 (w2.alloc (DO ⟨txt k1, 0, 0, 0, txt k3, []⟩ (.slice none 0 0))).drew := ((Below.refl _ _).alloc (Nat.le_refl _) _).drew
      have hD3 : DF (w2.alloc (DO ⟨txt k1, 0, 0, 0, txt k3, []⟩ (.slice none 0 0))).drew (w1.heap.size + 1) ⟨txt k1, 0, 0, 0, txt k3, []⟩ (.slice none 0 0) := by
        have h := (DF.new w2 ⟨txt k1, 0, 0, 0, txt k3, []⟩ (.slice none 0 0)).below (Below.refl _ _).drew
        rw [hs2] at h
        exact h
      have hZ3 := hZ2.below hA2
      have hB3 := trans' hB hA2
      have m0 := keep_cell hA2 n0
      have m1 := keep_cell hA2 n1
      have m2 := keep_cell hA2 n2
      have v2 := keep_cell hA2 u2
      have v4 := keep_cell hA2 u4
      have hbk3 := hA.trans (hA2.mono hA.size)
      have hs3 : (w2.alloc (DO ⟨txt k1, 0, 0, 0, txt k3, []⟩ (.slice none 0 0))).drew.heap.size = w1.heap.size + 2 := by simp [hs2]
      clear hA2 hZ2 hB n0 n1 n2 u1 u2 u3 u4 hA hs2
      generalize (w2.alloc (DO ⟨txt k1, 0, 0, 0, txt k3, []⟩ (.slice none 0 0))).drew = w3 at *
      obtain ⟨va, vb, vc, ve, hPV, hve⟩ := pv_ex (txt k2).data.toList
      have HVE := Lib.hid hve
      have hpv := Vs.parser_any (txt k2) hsz2 w3
      rw [hPV] at hpv
      clear hPV hve hsz2
      go_wp2_with fail
      refine hpv.mono ?_
      rintro e w4 ⟨rfl, hb4⟩
      have hD4 := hD3.below hb4
      have hZ4 := hZ3.below hb4
      have hB4 := trans' hB3 hb4
      have hbk4 := hbk3.trans (hb4.mono hbk3.size)
      have m0 := keep_cell hb4 m0
      have m1 := keep_cell hb4 m1
      have m2 := keep_cell hb4 m2
      have v4 := keep_cell hb4 v4
      have hs4 := hb4.size
      rw [hs3] at hs4
      clear hpv hb4 hD3 hZ3 hB3 hbk3 hs3
      have c1 := hD4.dc.c1
      have c2 := hD4.dc.c2
      have c3 := hD4.dc.c3
      have cf := hD4.fz
      have HD5 := Lib.hid (hD4.set123 (x := va) (y := vb) (z := vc))
      have hsame : ∀ j, j ≠ w1.heap.size + 1 → (((w4.setCell ⟨w1.heap.size + 1, 1, none⟩ (.int .i64 va)).setCell ⟨w1.heap.size + 1, 2, none⟩ (.int .i64 vb)).setCell ⟨w1.heap.size + 1, 3, none⟩ (.int .i64 vc)).heap[j]? = w4.heap[j]? := fun j hj => by
        rw [Below.heap_setCell _ _ _ _ hj, Below.heap_setCell _ _ _ _ hj, Below.heap_setCell _ _ _ _ hj]
      have hss : (((w4.setCell ⟨w1.heap.size + 1, 1, none⟩ (.int .i64 va)).setCell ⟨w1.heap.size + 1, 2, none⟩ (.int .i64 vb)).setCell ⟨w1.heap.size + 1, 3, none⟩ (.int .i64 vc)).heap.size = w4.heap.size := by simp [World.setCell]
      have HZ5 := Lib.hid (hZ4.block (W' := ((w4.setCell ⟨w1.heap.size + 1, 1, none⟩ (.int .i64 va)).setCell ⟨w1.heap.size + 1, 2, none⟩ (.int .i64 vb)).setCell ⟨w1.heap.size + 1, 3, none⟩ (.int .i64 vc)) (by omega) (hsame _ (by omega)))
      have HB5 := Lib.hid (((hB4.setCell (p := ⟨w1.heap.size + 1, 1, none⟩) (by show W.heap.size ≤ w1.heap.size + 1; omega) (.int .i64 va)).setCell (p := ⟨w1.heap.size + 1, 2, none⟩) (by show W.heap.size ≤ w1.heap.size + 1; omega) (.int .i64 vb)).setCell (p := ⟨w1.heap.size + 1, 3, none⟩) (by show W.heap.size ≤ w1.heap.size + 1; omega) (.int .i64 vc))
      have HK5 := Lib.hid (((hbk4.setCell (p := ⟨w1.heap.size + 1, 1, none⟩) (by show w1.heap.size ≤ w1.heap.size + 1; omega) (.int .i64 va)).setCell (p := ⟨w1.heap.size + 1, 2, none⟩) (by show w1.heap.size ≤ w1.heap.size + 1; omega) (.int .i64 vb)).setCell (p := ⟨w1.heap.size + 1, 3, none⟩) (by show w1.heap.size ≤ w1.heap.size + 1; omega) (.int .i64 vc))
      have HM5 := Lib.hid (show _ ∧ _ ∧ _ ∧ _ from ⟨(World.cell?_of_block (hsame w1.heap.size (by omega))).trans m0, (World.cell?_of_block (hsame w1.heap.size (by omega))).trans m1, (World.cell?_of_block (hsame w1.heap.size (by omega))).trans m2, (World.cell?_of_block (hsame b (by omega))).trans v4⟩)
      have hne : b ≠ w1.heap.size + 1 := by omega
      clear hD4 hZ4 hB4 hbk4 m0 m1 hsame
      go_wp2_with fail
      generalize ((w4.setCell ⟨w1.heap.size + 1, 1, none⟩ (.int .i64 va)).setCell ⟨w1.heap.size + 1, 2, none⟩ (.int .i64 vb)).setCell ⟨w1.heap.size + 1, 3, none⟩ (.int .i64 vc) = w5 at *
      have hS5 : w1.heap.size + 2 ≤ w5.heap.size := by omega
      obtain ⟨p0, p1, p2, p4⟩ := HM5.out
      have hN5 : N3 w5 w1.heap.size (.slice (some ⟨b, o, none⟩) 5 cap) := ⟨by omega, p0, p1, p2⟩
      have hD5 := HD5.out
      have hZ5 := HZ5.out
      have hB5 := HB5.out
      have hK5 := HK5.out
      have O5 : w5.ownsRow (w1.heap.size + 2) 48 2 (.slice none 0 0) 0 (rowB []) := World.ownsRow_nil _ _ _ _
      clear m2 v4 hne c1 c2 c3 cf hs4 hss HM5 HD5 HZ5 HB5 HK5 p0 p1 p2 p4
      go_loopw [8, 52] (fun _ i wr => ∃ (k : Nat) (ins : List (ByteArray × ByteArray)) (v : Value), k ≤ (kidsT k4).length ∧ i = .int .i64 k ∧ ins.length = k ∧ ins = ((kidsT k4).take k).map pairT ∧ wr.ownsRow (w1.heap.size + 2) 48 2 v k (rowB ins) ∧ DF wr (w1.heap.size + 1) ⟨txt k1, va, vb, vc, txt k3, []⟩ v ∧ DF wr W.heap.size D0 (.slice none 0 0) ∧ N3 wr w1.heap.size (.slice (some ⟨b, o, none⟩) 5 cap) ∧ Below w1.heap.size w1 wr ∧ Below W.heap.size W wr ∧ w1.heap.size + 2 ≤ wr.heap.size) (fun _ i _ => (kidsT k4).length - (intOf i).toNat)
      case atStart => exact ⟨0, [], _, Nat.zero_le _, rfl, rfl, rfl, O5, hD5, hZ5, hN5, hK5, hB5, hS5⟩
      case round =>
        obtain ⟨k, ins, v, hk, rfl, hlen, htk, hown, hDr, hZr, hNr, hbr, hBr, hSr⟩ := hrel
        have HTK := Lib.hid htk
        have HO := Lib.hid hown
        have HLEN := Lib.hid hlen
        clear O5 hD5 hZ5 hN5 hK5 hB5 hS5 htk hown hlen
        by_cases hlt : k < (kidsT k4).length
        · obtain ⟨u, hu⟩ : ∃ u, (kidsT k4)[k]? = some u := ⟨(kidsT k4)[k], List.getElem?_eq_getElem hlt⟩
          obtain ⟨bb, oo, rfl, hbb, h1, h2, h3⟩ := HC9.out k u hu
          have hrk := HR9.out k u hu
          obtain ⟨e1, e2, sl', cap', e3⟩ := hrk.vals
          rw [e1] at h1
          rw [e2] at h2
          rw [e3] at h3
          rw [e1, e2, e3] at hrk
          have HU := Lib.hid hu
          have hBA := hBr.alloc hBr.size (.cells #[.bool (!isL u), .string (txt u), .slice sl' (kidsT u).length cap'] 39)
          by_cases h2u : (kidsT u).length = 2
          rotate_left
          · have g1 := ((bcell hbr).1 bb _ hbb).trans h1
            have g2 := ((bcell hbr).1 bb _ hbb).trans h2
            have g3 := ((bcell hbr).1 bb _ hbb).trans h3
            have hD := Lib.hid (decB_no HOK.out (fun d hd => h2u ((loose hd).2.2.2.2 u (List.mem_of_getElem? HU.out))))
            have j5 : (((kidsT u).length : Int) == 2) = false := by rw [beq_eq_false_iff_ne]; omega
            have j6 : (((kidsT u).length : Int) != 2) = true := by rw [bne_iff_ne]; omega
            obtain ⟨l0, q0, q1, q2, q3, q4, q5, qf⟩ := (hZr.below ((Below.refl _ _).alloc (Nat.le_refl _) (.cells #[.bool (!isL u), .string (txt u), .slice sl' (kidsT u).length cap'] 39))).zero
            clear h1 h2 h3 e1 e2 e3 hrk hu h2u
            go_wp2_with fail
            refine bodyPost_ret (v := .tuple #[.agg #[.string ⟨#[]⟩, .int .i64 0, .int .i64 0, .int .i64 0, .string ⟨#[]⟩, .slice none 0 0], .int .i64 5]) (by simp [results, Tryz.results6, go_sem, q0, q1, q2, q3, q4, q5]) rfl ?_
            exact dq_none hD.out rfl (B6 hBA _ _ _ _ _ _)
          · rw [h2u] at h3 hBA
            obtain ⟨-, -, h7, x7, y7, z7, hc7, hr7⟩ := hrk.kids
            obtain ⟨v0, hv0⟩ : ∃ v0, (kidsT u)[0]? = some v0 := ⟨(kidsT u)[0]'(by omega), List.getElem?_eq_getElem _⟩
            obtain ⟨v1, hv1⟩ : ∃ v1, (kidsT u)[1]? = some v1 := ⟨(kidsT u)[1]'(by omega), List.getElem?_eq_getElem _⟩
            obtain ⟨b7, o7, rfl, hb7, -, y0, -⟩ := hc7 0 v0 hv0
            obtain ⟨b7', o7', e7, -, -, y1, -⟩ := hc7 1 v1 hv1
            cases e7
            have r0 : w1.cell? ⟨b7, o7 + 1, none⟩ = some (.string (txt v0)) := by rw [(hr7 0 v0 hv0).vals.2.1] at y0; exact y0
            have r1 : w1.cell? ⟨b7, o7 + 4, none⟩ = some (.string (txt v1)) := by rw [(hr7 1 v1 hv1).vals.2.1] at y1; exact y1
            have HP := Lib.hid (pair_snoc hu (pair_of hv0 hv1))
            have g1 := ((bcell hbr).1 bb _ hbb).trans h1
            have g2 := ((bcell hbr).1 bb _ hbb).trans h2
            have g3 := ((bcell hbr).1 bb _ hbb).trans h3
            have hAr := (Below.refl wr.heap.size wr).alloc (Nat.le_refl _) (.cells #[.bool (!isL u), .string (txt u), .slice (some ⟨b7, o7, none⟩) 2 cap'] 39)
            have z2 : (wr.alloc (.cells #[.bool (!isL u), .string (txt u), .slice (some ⟨b7, o7, none⟩) 2 cap'] 39)).cell? ⟨wr.heap.size, 2, none⟩ = some (.slice (some ⟨b7, o7, none⟩) 2 cap') := by go_simp
            have s0 := keep_cell hAr (((bcell hbr).1 b7 _ hb7).trans r0)
            have s1 := keep_cell hAr (((bcell hbr).1 b7 _ hb7).trans r1)
            have hD6 := hDr.below hAr
            have hZ6 := hZr.below hAr
            have hN6 := hNr.below hAr
            have hb6 := hbr.trans (hAr.mono hbr.size)
            obtain ⟨vs, vc9, rfl⟩ := own_form HO.out
            have HO6 := Lib.hid (own_block HO.out (fun j hj => hAr.block j (HO.out.lt j hj).2))
            have hs6 : w1.heap.size + 2 ≤ (wr.alloc (.cells #[.bool (!isL u), .string (txt u), .slice (some ⟨b7, o7, none⟩) 2 cap'] 39)).heap.size := Nat.le_trans hSr hAr.size
            have d5 := hD6.dc.c5
            clear h1 h2 h3 e1 e2 e3 hrk hu hc7 hr7 hv0 hv1 y0 y1 r0 r1 h2u HO hDr hZr hNr hbr hBr hSr hAr hb7
            go_wp2_with fail
            generalize wr.alloc (.cells #[.bool (!isL u), .string (txt u), .slice (some ⟨b7, o7, none⟩) 2 cap'] 39) = w6 at *
            have e5 := ext_cell d5
            have e60 := ext_cell s0
            have e61 := ext_cell s1
            have e62 := ext_cell z2
            refine Mix.region (fun w' => ∃ Y, w' = ext w6 Y) 14 [0, 0, 0, 0, 0, 0, 0, 0, 0, 0, 0, 0, 1, 1, 9, 9, 9] [true, false] (by kernel_rfl) (fun _ _ d _ _ h => by cases d <;> exact h) (by rfl) (by kernel_rfl) (ext_drew _) ?_
            simp only [Mix.selP_cons, Mix.selP_nil, Mix.sel_cons, Mix.sel_nil, Nat.reduceBEq, Nat.reduceAdd, cond_true, cond_false, List.drop_succ_cons, List.drop_zero]
            refine Mix.parts_q ?_
            repeat (go_big_quiet_step (fail))
            refine wpQuiet_nil ?_
            refine Mix.parts_e ?_
            clear e5 e60 e61 e62 s0 s1 z2 d5 g1 g2 g3
            refine Mix.eff_step (fun K hK => ?_)
            go_simp
            refine hK _ _ (ext_drew _) ?_
            clear hK K
            refine Mix.eff_step (fun K hK => ?_)
            go_simp
            have hB7 := (Below.refl w6.heap.size w6).drew.alloc (Nat.le_refl _) (.cells #[.string (txt v0), .string (txt v1)] 48)
            refine hK _ _ ⟨_, ext_of hB7⟩ ?_
            clear hK K
            refine Mix.eff_nil (Mix.parts_n ?_)
            have HO7 := Lib.hid (own_block HO6.out (fun j hj => hB7.block j (HO6.out.lt j hj).2))
            have hD7 := hD6.below hB7
            have hZ7 := hZ6.below hB7
            have hN7 := hN6.below hB7
            have hBB7 := trans' hBA hB7
            have hbB7 := hb6.trans (hB7.mono hb6.size)
            have hs7 := Nat.le_trans hs6 hB7.size
            clear hB7 HO6 hD6 hZ6 hN6 hBA hb6
            go_wp2_with (first
              | (at_builtin; refine wpList_append_lies _ rfl _ _ 27 rfl (w1.heap.size + 2) 48 i0 _ 2 32 Tryz.underlying27 hi0 hz0 hz1 hz2 rfl (by decide) (.slice vs k vc9) k _ rfl HO7.out ⟨w6.heap.size, 0, none⟩ 1 1 [.string (txt v0), .string (txt v1)] rfl rfl ?d1 ?d2 (by decide) ?d3 ?d4 ?d5 (w6.heap.size + 1) (by simp) ?_))
            case d1 =>
              intro j u hj
              match j, hj with
              | 0, hj => simp at hj; subst hj; simp [Addr.add]
              | 1, hj => simp at hj; subst hj; simp [Addr.add]
            case d2 => intro u hu; simp at hu; rcases hu with rfl | rfl <;> rfl
            case d3 => unfold maxLen; omega
            case d4 => omega
            case d5 => exact hs7
            intro g8 c8 w8 hown8 hg8 hat8 hlt8
            rw [rowB_snoc] at hown8
            have hne : ∀ j, j < w1.heap.size + 2 → some j ≠ (Value.slice vs k vc9).ownBlock := fun j hj e => by have := (HO7.out.lt j e.symm).1; omega
            have hD8 := hD7.block hg8.size (hg8.block _ hD7.dc.lt (hne _ (by omega)))
            have hZ8 := hZ7.block hg8.size (hg8.block _ hZ7.dc.lt (hne _ (by omega)))
            have hN8 := hN7.block hg8.size (hg8.block _ hN7.lt (hne _ (by omega)))
            have hB8 : Below W.heap.size W w8 := hBB7.grown hg8 hBB7.size (fun j hj => by have := (HO7.out.lt j hj).1; omega)
            have hb8 : Below w1.heap.size w1 w8 := hbB7.grown hg8 hbB7.size (fun j hj => by have := (HO7.out.lt j hj).1; omega)
            have hs8 := Nat.le_trans hs7 hg8.size
            have hsame : ∀ j, j ≠ w1.heap.size + 1 → (w8.setCell ⟨w1.heap.size + 1, 5, none⟩ (.slice (some ⟨g8, 0, none⟩) (k + 1) c8)).heap[j]? = w8.heap[j]? := fun j hj => Below.heap_setCell _ _ _ _ hj
            have hszz : (w8.setCell ⟨w1.heap.size + 1, 5, none⟩ (.slice (some ⟨g8, 0, none⟩) (k + 1) c8)).heap.size = w8.heap.size := by simp [World.setCell]
            have HOn := Lib.hid (own_block hown8 (fun j hj => hsame j (by simp [Value.ownBlock] at hj; have := (hown8.lt g8 (by simp [Value.ownBlock])).1; omega)))
            have HDn := Lib.hid (hD8.set5 (.slice (some ⟨g8, 0, none⟩) (k + 1) c8))
            have HZn := Lib.hid (hZ8.block (W' := w8.setCell ⟨w1.heap.size + 1, 5, none⟩ (.slice (some ⟨g8, 0, none⟩) (k + 1) c8)) (by omega) (hsame _ (by omega)))
            have HNn := Lib.hid (hN8.block (w' := w8.setCell ⟨w1.heap.size + 1, 5, none⟩ (.slice (some ⟨g8, 0, none⟩) (k + 1) c8)) (by omega) (hsame _ (by omega)))
            have HBn := Lib.hid (hB8.setCell (p := ⟨w1.heap.size + 1, 5, none⟩) (by show W.heap.size ≤ w1.heap.size + 1; omega) (.slice (some ⟨g8, 0, none⟩) (k + 1) c8))
            have Hbn := Lib.hid (hb8.setCell (p := ⟨w1.heap.size + 1, 5, none⟩) (by show w1.heap.size ≤ w1.heap.size + 1; omega) (.slice (some ⟨g8, 0, none⟩) (k + 1) c8))
            have HSn := Lib.hid (show w1.heap.size + 2 ≤ (w8.setCell ⟨w1.heap.size + 1, 5, none⟩ (.slice (some ⟨g8, 0, none⟩) (k + 1) c8)).heap.size by omega)
            have p5 := hD8.dc.c5
            have pf := hD8.fz
            have pl := hD8.dc.lt
            clear hsame hszz hD7 hZ7 hN7 hBB7 hbB7 hD8 hZ8 hN8 hB8 hb8 hown8 hg8 hat8 hlt8 hne HO7 hs7 hs8 hs6
            go_wp2_with fail
            go_roundw
            case rel => exact ⟨k + 1, ins ++ [(txt v0, txt v1)], _, by omega, by go_num, by simp [HLEN.out], by rw [HTK.out]; exact HP.out, HOn.out, HDn.out, HZn.out, HNn.out, Hbn.out, HBn.out, HSn.out⟩
            case measure => simp [intOf]; omega
        · obtain rfl : k = (kidsT k4).length := by omega
          have hins : ins = (kidsT k4).map pairT := by rw [HTK.out, List.take_length]
          have hdb : DB ⟨txt k1, va, vb, vc, txt k3, ins⟩ := ⟨by have := txt_le (HK2.out 1 k1 rfl); show (txt k1).size ≤ _; omega, by have := txt_le (HK2.out 3 k3 rfl); show (txt k3).size ≤ _; omega, fun x hx => by
            have hx' : x ∈ (kidsT k4).map pairT := by rw [← hins]; exact hx
            obtain ⟨u, hu, rfl⟩ := List.mem_map.1 hx'
            obtain ⟨i, hi⟩ := List.mem_iff_getElem?.1 hu
            have h := HK9.out i u hi
            exact ⟨by have := kid_le h (i := 0); show (txt _).size ≤ _; omega, by have := kid_le h (i := 1); show (txt _).size ≤ _; omega⟩⟩
          have HEQ := Lib.hid (fun (d' : D) (hd : IsB (T.list [k0, k1, k2, k3, k4]) d') => (loose_eq hd ⟨ve, HVE.out⟩).trans (by rw [← hins]))
          have hown := HO.out
          rw [← HLEN.out] at hown
          have hil : ins.length ≤ 65536 := by have := HLEN.out; omega
          have hS := SI.of_own hown (by omega)
          obtain ⟨vs, vc9, rfl⟩ := own_form hown
          have HOO := Lib.hid hown
          have hrepr := Rep.after HREP.out (Nat.le_refl _) hbr
          have hEr := hE.below hBr
          have hgd := fun Y => goodr_any ⟨txt k1, va, vb, vc, txt k3, ins⟩ (.slice vs ins.length vc9) (ext wr Y) (hS.below (ext_below wr Y)) hdb
          have e0 := ext_cell hDr.dc.c0
          have e1 := ext_cell hDr.dc.c1
          have e2 := ext_cell hDr.dc.c2
          have e3 := ext_cell hDr.dc.c3
          have e4 := ext_cell hDr.dc.c4
          have e5 := ext_cell hDr.dc.c5
          have f0 := ext_cell hNr.c0
          have f1 := ext_cell hNr.c1
          have f2 := ext_cell hNr.c2
          clear hown hins HO
          cases hgb : goodD ⟨txt k1, va, vb, vc, txt k3, ins⟩ with
          | false =>
            have hD := Lib.hid (decB_no HOK.out (fun d' hd => by
              have he := HEQ.out d' hd
              have hg := hd.good
              rw [he, hgb] at hg
              cases hg))
            rw [hgb] at hgd
            clear hgb
            go_wp2_with fail
            refine wp_region_ext (X := wr) (by kernel_rfl) (by kernel_rfl) ?_
            repeat (go_big_quiet_step ((go_at_call 15; exact calls_ext (hgd _))))
            refine wpQuiet_nil ?_
            intro _ hw'
            obtain ⟨Y, hw''⟩ := hw'
            subst hw''
            have hBe := trans' hBr (ext_below wr Y)
            obtain ⟨l0, q0, q1, q2, q3, q4, q5, qf⟩ := (hZr.below (ext_below wr Y)).zero
            clear e0 e1 e2 e3 e4 e5 f0 f1 f2 hgd hrepr
            generalize ext wr Y = we at *
            go_wp2_with fail
            refine bodyPost_ret (v := .tuple #[.agg #[.string ⟨#[]⟩, .int .i64 0, .int .i64 0, .int .i64 0, .string ⟨#[]⟩, .slice none 0 0], .int .i64 5]) (by simp [results, Tryz.results6, go_sem, q0, q1, q2, q3, q4, q5]) rfl ?_
            exact dq_none hD.out rfl (B6 hBe _ _ _ _ _ _)
          | true =>
            have h40 := good_len hgb
            by_cases htd : (T.list [k0, k1, k2, k3, k4]) = drvT ⟨txt k1, va, vb, vc, txt k3, ins⟩
            · have heq := eqT_tt htd
              have hD := Lib.hid (decB_ok HOK.out (⟨htd.symm, hgb⟩ : IsB (T.list [k0, k1, k2, k3, k4]) ⟨txt k1, va, vb, vc, txt k3, ins⟩))
              clear htd
              go_wp2_with fail
              refine Mix.region (fun w' => ∃ Y, w' = ext wr Y) 10 [0, 1, 1, 1, 2, 2, 3, 3, 3, 3] [true, false, true, false] (by kernel_rfl) (fun _ _ d _ _ h => by cases d <;> exact h) (by rfl) (by kernel_rfl) (ext_drew _) ?_
              simp only [Mix.selP_cons, Mix.selP_nil, Mix.sel_cons, Mix.sel_nil, Nat.reduceBEq, Nat.reduceAdd, cond_true, cond_false, List.drop_succ_cons, List.drop_zero]
              refine Mix.parts_q ?_
              repeat (go_big_quiet_step (fail))
              refine wpQuiet_nil ?_
              refine Mix.parts_e ?_
              have hdw := (Below.refl wr.heap.size wr).drew
              refine Mix.eff_step (fun K hK => ?_)
              go_simp
              refine (goodr_any ⟨txt k1, va, vb, vc, txt k3, ins⟩ _ _ (hS.below hdw) hdb).mono ?_
              rintro e wa ⟨he, hba⟩
              rw [hgb] at he
              subst he
              have hAa := trans' hdw hba
              refine hK _ _ ⟨wa, ext_of hAa⟩ ?_
              clear hK K
              refine Mix.eff_step (fun K hK => ?_)
              go_simp
              refine hK _ _ ⟨wa, ext_of hAa⟩ ?_
              clear hK K
              refine Mix.eff_step (fun K hK => ?_)
              go_simp
              refine hK _ _ ⟨wa, ext_of hAa⟩ ?_
              clear hK K
              refine Mix.eff_nil (Mix.parts_q ?_)
              repeat (go_big_quiet_step (fail))
              refine wpQuiet_nil ?_
              refine Mix.parts_e ?_
              refine Mix.eff_step (fun K hK => ?_)
              go_simp
              refine (noder_any ⟨txt k1, va, vb, vc, txt k3, ins⟩ _ wa (hS.below hAa) h40 (hEr.below hAa).e0).mono ?_
              rintro e wb ⟨uu, rfl, hrepu, hbb9⟩
              have hBb := trans' hAa hbb9
              refine hK _ _ ⟨wb, ext_of hBb⟩ ?_
              clear hK K
              refine Mix.eff_step (fun K hK => ?_)
              go_simp
              refine (samer_any wb.heap.size 32 wb 3 (T.list [k0, k1, k2, k3, k4]) (drvT ⟨txt k1, va, vb, vc, txt k3, ins⟩) _ _ (Nat.le_refl _) HKL.out (Rep.after hrepr (Nat.le_refl _) hBb) hrepu).mono ?_
              rintro e wc ⟨he, hbc⟩
              rw [heq] at he
              subst he
              have hCc := trans' hBb hbc
              refine hK _ _ ⟨wc, ext_of hCc⟩ ?_
              clear hK K
              refine Mix.eff_step (fun K hK => ?_)
              go_simp
              refine hK _ _ ⟨wc, ext_of hCc⟩ ?_
              clear hK K
              refine Mix.eff_step (fun K hK => ?_)
              go_simp
              refine hK _ _ ⟨wc, ext_of hCc⟩ ?_
              clear hK K
              refine Mix.eff_nil (Mix.parts_n ?_)
              have hBc := trans' hBr hCc
              have hZc := hZr.below hCc
              have hDc := hDr.below hCc
              have HOc := Lib.hid (own_block HOO.out (fun j hj => hCc.block j (HOO.out.lt j hj).2))
              clear e0 e1 e2 e3 e4 e5 f0 f1 f2 heq hdw hba hAa hbb9 hrepu hBb hbc hCc hrepr hgd
              obtain ⟨l0, q0, q1, q2, q3, q4, q5, qf⟩ := hZc.zero
              obtain ⟨c0, c1, c2, c3, c4, c5⟩ := (⟨hDc.dc.c0, hDc.dc.c1, hDc.dc.c2, hDc.dc.c3, hDc.dc.c4, hDc.dc.c5⟩ : _ ∧ _ ∧ _ ∧ _ ∧ _ ∧ _)
              go_wp2_with fail
              refine bodyPost_ret (v := .tuple #[.agg #[.string (txt k1), .int .i64 va, .int .i64 vb, .int .i64 vc, .string (txt k3), .slice vs ins.length vc9], .int .i64 0]) (by simp [results, Tryz.results6, go_sem, q0, q1, q2, q3, q4, q5]) rfl ?_
              unfold DQ
              rw [hD.out]
              exact ⟨⟨_, rfl, SI.of_own (own_block HOc.out (fun j hj => same6 _ _ _ _ _ _ j (by have := (HOc.out.lt j hj).1; omega))) (show ins.length ≤ 9223372036854775807 by omega)⟩, B6 hBc _ _ _ _ _ _⟩
            · have heq := eqT_ff htd
              have hD := Lib.hid (decB_no HOK.out (fun d' hd => htd (by rw [← HEQ.out d' hd]; exact hd.tree.symm)))
              clear htd
              go_wp2_with fail
              refine Mix.region (fun w' => ∃ Y, w' = ext wr Y) 10 [0, 1, 1, 1, 2, 2, 3, 3, 3, 3] [true, false, true, false] (by kernel_rfl) (fun _ _ d _ _ h => by cases d <;> exact h) (by rfl) (by kernel_rfl) (ext_drew _) ?_
              simp only [Mix.selP_cons, Mix.selP_nil, Mix.sel_cons, Mix.sel_nil, Nat.reduceBEq, Nat.reduceAdd, cond_true, cond_false, List.drop_succ_cons, List.drop_zero]
              refine Mix.parts_q ?_
              repeat (go_big_quiet_step (fail))
              refine wpQuiet_nil ?_
              refine Mix.parts_e ?_
              have hdw := (Below.refl wr.heap.size wr).drew
              refine Mix.eff_step (fun K hK => ?_)
              go_simp
              refine (goodr_any ⟨txt k1, va, vb, vc, txt k3, ins⟩ _ _ (hS.below hdw) hdb).mono ?_
              rintro e wa ⟨he, hba⟩
              rw [hgb] at he
              subst he
              have hAa := trans' hdw hba
              refine hK _ _ ⟨wa, ext_of hAa⟩ ?_
              clear hK K
              refine Mix.eff_step (fun K hK => ?_)
              go_simp
              refine hK _ _ ⟨wa, ext_of hAa⟩ ?_
              clear hK K
              refine Mix.eff_step (fun K hK => ?_)
              go_simp
              refine hK _ _ ⟨wa, ext_of hAa⟩ ?_
              clear hK K
              refine Mix.eff_nil (Mix.parts_q ?_)
              repeat (go_big_quiet_step (fail))
              refine wpQuiet_nil ?_
              refine Mix.parts_e ?_
              refine Mix.eff_step (fun K hK => ?_)
              go_simp
              refine (noder_any ⟨txt k1, va, vb, vc, txt k3, ins⟩ _ wa (hS.below hAa) h40 (hEr.below hAa).e0).mono ?_
              rintro e wb ⟨uu, rfl, hrepu, hbb9⟩
              have hBb := trans' hAa hbb9
              refine hK _ _ ⟨wb, ext_of hBb⟩ ?_
              clear hK K
              refine Mix.eff_step (fun K hK => ?_)
              go_simp
              refine (samer_any wb.heap.size 32 wb 3 (T.list [k0, k1, k2, k3, k4]) (drvT ⟨txt k1, va, vb, vc, txt k3, ins⟩) _ _ (Nat.le_refl _) HKL.out (Rep.after hrepr (Nat.le_refl _) hBb) hrepu).mono ?_
              rintro e wc ⟨he, hbc⟩
              rw [heq] at he
              subst he
              have hCc := trans' hBb hbc
              refine hK _ _ ⟨wc, ext_of hCc⟩ ?_
              clear hK K
              refine Mix.eff_step (fun K hK => ?_)
              go_simp
              refine hK _ _ ⟨wc, ext_of hCc⟩ ?_
              clear hK K
              refine Mix.eff_step (fun K hK => ?_)
              go_simp
              refine hK _ _ ⟨wc, ext_of hCc⟩ ?_
              clear hK K
              refine Mix.eff_nil (Mix.parts_n ?_)
              have hBc := trans' hBr hCc
              have hZc := hZr.below hCc
              have hDc := hDr.below hCc
              have HOc := Lib.hid (own_block HOO.out (fun j hj => hCc.block j (HOO.out.lt j hj).2))
              clear e0 e1 e2 e3 e4 e5 f0 f1 f2 heq hdw hba hAa hbb9 hrepu hBb hbc hCc hrepr hgd
              obtain ⟨l0, q0, q1, q2, q3, q4, q5, qf⟩ := hZc.zero
              go_wp2_with fail
              refine bodyPost_ret (v := .tuple #[.agg #[.string ⟨#[]⟩, .int .i64 0, .int .i64 0, .int .i64 0, .string ⟨#[]⟩, .slice none 0 0], .int .i64 5]) (by simp [results, Tryz.results6, go_sem, q0, q1, q2, q3, q4, q5]) rfl ?_
              exact dq_none hD.out rfl (B6 hBc _ _ _ _ _ _)
end Dv
end Go.Proofs.YtbhngjhfeejeiaaGreatDoor
