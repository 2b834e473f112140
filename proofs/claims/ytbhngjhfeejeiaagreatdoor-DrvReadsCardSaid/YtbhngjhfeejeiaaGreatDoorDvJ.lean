/-
  Walk: drv.Decode, for every text. (printed by gen_DvJ.py)
-/
import Derived.Test.YtbhngjhfeejeiaaGreatDoorDvG
import Derived.Test.YtbhngjhfeejeiaaGreatDoorDvH
import Derived.Test.YtbhngjhfeejeiaaGreatDoorVs
namespace Go.Proofs.YtbhngjhfeejeiaaGreatDoor
open Go.RowKit Sx
namespace Dv

structure EnvD (W : World) : Prop where
  sx : Sx.Env W
  vs : Vs.Env W
theorem EnvD.below {W W' : World} (h : EnvD W) (hb : Below W.heap.size W W') : EnvD W' := ⟨h.sx.below hb, h.vs.below (Nat.le_refl _) hb⟩
theorem EnvD.e0 {W : World} (h : EnvD W) : Vs.Env0 W := ⟨h.vs.pow, by have := h.sx.big; omega⟩
abbrev ZO : Obj := .cells #[.string ⟨#[]⟩, .int .i64 0, .int .i64 0, .int .i64 0, .string ⟨#[]⟩, .slice none 0 0] 29
/-- block o holds a build, and can be written -/
structure DF (w : World) (o : Nat) (d : D) (v : Value) : Prop where
  dc : DC w o d v
  fz : ∀ j, w.frozen? ⟨o, j, none⟩ = false
theorem DF.new (W : World) (d : D) (v : Value) : DF (W.alloc (DO d v)) W.heap.size d v := ⟨DC.new W d v, fun j => by go_simp⟩
theorem DF.block {W W' : World} {o : Nat} {d : D} {v : Value} (h : DF W o d v) (hs : W.heap.size ≤ W'.heap.size) (hb : W'.heap[o]? = W.heap[o]?) : DF W' o d v :=
  ⟨h.dc.block hs hb, fun j => (World.frozen?_of_block hb).trans (h.fz j)⟩
theorem DF.below {W W' : World} {o : Nat} {d : D} {v : Value} (h : DF W o d v) (hb : Below W.heap.size W W') : DF W' o d v := h.block hb.size (hb.block o h.dc.lt)
theorem DF.set5 {W : World} {o : Nat} {d : D} {v : Value} (h : DF W o d v) (u : Value) : DF (W.setCell ⟨o, 5, none⟩ u) o d u := by
  refine ⟨⟨by simpa [World.setCell] using h.dc.lt, ?_, ?_, ?_, ?_, ?_, World.cell?_setCell_same _ _ _ h.dc.c5⟩, fun j => ?_⟩
  · rw [World.cell?_setCell_other _ _ _ _ (by simp)]; exact h.dc.c0
  · rw [World.cell?_setCell_other _ _ _ _ (by simp)]; exact h.dc.c1
  · rw [World.cell?_setCell_other _ _ _ _ (by simp)]; exact h.dc.c2
  · rw [World.cell?_setCell_other _ _ _ _ (by simp)]; exact h.dc.c3
  · rw [World.cell?_setCell_other _ _ _ _ (by simp)]; exact h.dc.c4
  · rw [World.frozen?_setCell]; exact h.fz j
theorem DF.zero {w : World} {o : Nat} (h : DF w o D0 (.slice none 0 0)) : o < w.heap.size ∧ w.cell? ⟨o, 0, none⟩ = some (.string ⟨#[]⟩) ∧ w.cell? ⟨o, 1, none⟩ = some (.int .i64 0) ∧ w.cell? ⟨o, 2, none⟩ = some (.int .i64 0) ∧ w.cell? ⟨o, 3, none⟩ = some (.int .i64 0) ∧ w.cell? ⟨o, 4, none⟩ = some (.string ⟨#[]⟩) ∧ w.cell? ⟨o, 5, none⟩ = some (.slice none 0 0) ∧ ∀ j, w.frozen? ⟨o, j, none⟩ = false :=
  ⟨h.dc.lt, h.dc.c0, h.dc.c1, h.dc.c2, h.dc.c3, h.dc.c4, h.dc.c5, h.fz⟩
theorem B6 {W w : World} (hB : Below W.heap.size W w) (a b c d e f : Value) : Below W.heap.size W ((((((w.setCell ⟨W.heap.size, 0, none⟩ a).setCell ⟨W.heap.size, 1, none⟩ b).setCell ⟨W.heap.size, 2, none⟩ c).setCell ⟨W.heap.size, 3, none⟩ d).setCell ⟨W.heap.size, 4, none⟩ e).setCell ⟨W.heap.size, 5, none⟩ f) :=
  (((((hB.setCell (p := ⟨W.heap.size, 0, none⟩) (Nat.le_refl _) _).setCell (p := ⟨W.heap.size, 1, none⟩) (Nat.le_refl _) _).setCell (p := ⟨W.heap.size, 2, none⟩) (Nat.le_refl _) _).setCell (p := ⟨W.heap.size, 3, none⟩) (Nat.le_refl _) _).setCell (p := ⟨W.heap.size, 4, none⟩) (Nat.le_refl _) _).setCell (p := ⟨W.heap.size, 5, none⟩) (Nat.le_refl _) _
theorem pre4 {k0 k1 k2 k3 k4 : T} {i : Nat} {k : T} (h : [k0, k1, k2, k3][i]? = some k) : [k0, k1, k2, k3, k4][i]? = some k := by
  match i, h with
  | 0, h => exact h
  | 1, h => exact h
  | 2, h => exact h
  | 3, h => exact h
theorem five {t : T} (h : (kidsT t).length = 5) : ∃ k0 k1 k2 k3 k4, t = .list [k0, k1, k2, k3, k4] := by
  cases t with
  | leaf s => simp [kidsT] at h
  | list ks =>
    match ks, h with
    | [a, b, c, d, e], _ => exact ⟨a, b, c, d, e, rfl⟩
theorem four {k0 k1 k2 k3 : T} (h : ∀ k ∈ [k0, k1, k2, k3], isL k = false) : ∃ s0 s1 s2 s3, k0 = .leaf s0 ∧ k1 = .leaf s1 ∧ k2 = .leaf s2 ∧ k3 = .leaf s3 := by
  have h0 := h k0 (by simp)
  have h1 := h k1 (by simp)
  have h2 := h k2 (by simp)
  have h3 := h k3 (by simp)
  cases k0 <;> cases k1 <;> cases k2 <;> cases k3 <;> simp_all [isL]
theorem two {k : T} (h2 : (kidsT k).length = 2) (hl : ¬ 0 ≤ fL (kidsT k)) : ∃ p q, k = .list [.leaf p, .leaf q] := by
  have hall : ∀ x ∈ kidsT k, isL x = false := by
    rcases fL_iff (kidsT k) with ⟨h, _⟩ | ⟨_, h⟩
    · exact absurd h hl
    · exact h
  cases k with
  | leaf s => simp [kidsT] at h2
  | list ks =>
    match ks, h2, hall with
    | [.leaf p, .leaf q], _, _ => exact ⟨p, q, rfl⟩
    | [.list l, _], _, h => have := h (.list l) (by simp [kidsT]); cases this
    | [.leaf _, .list l], _, h => have := h (.list l) (by simp [kidsT]); cases this
theorem fl_two (p q : ByteArray) : ¬ 0 ≤ fL (kidsT (.list [.leaf p, .leaf q])) := by
  rcases fL_iff (kidsT (.list [.leaf p, .leaf q])) with ⟨_, k, hk, h⟩ | ⟨h, _⟩
  · simp [kidsT] at hk
    rcases hk with rfl | rfl <;> cases h
  · omega
theorem info_in : (Tryz.prog.info? 48).map (fun i => (i.zero, i.size, i.bytes)) = some (some (.agg #[.string ⟨#[]⟩, .string ⟨#[]⟩]), 2, 32) := by kernel_rfl
def rowB (ins : List (ByteArray × ByteArray)) : List Value := ins.flatMap fun x => [.string x.1, .string x.2]
theorem rowB_snoc (ins : List (ByteArray × ByteArray)) (p q : ByteArray) : rowB ins ++ [.string p, .string q] = rowB (ins ++ [(p, q)]) := by simp [rowB]
theorem rowB_get : ∀ (ins : List (ByteArray × ByteArray)) (i : Nat) (x : ByteArray × ByteArray), ins[i]? = some x → (rowB ins)[i * 2]? = some (.string x.1) ∧ (rowB ins)[i * 2 + 1]? = some (.string x.2)
  | [], i, x, h => by simp at h
  | y :: ins, 0, x, h => by simp at h; subst h; exact ⟨rfl, rfl⟩
  | y :: ins, i + 1, x, h => by
    have ih := rowB_get ins i x (by simpa using h)
    rw [show (i + 1) * 2 = i * 2 + 2 by omega, show i * 2 + 2 + 1 = i * 2 + 1 + 2 by omega]
    exact ih
theorem SI.of_own {W : World} {B : Nat} {v : Value} {ins : List (ByteArray × ByteArray)} (h : W.ownsRow B 48 2 v ins.length (rowB ins)) (hl : ins.length ≤ 9223372036854775807) : SI W v ins := by
  obtain ⟨sl, cap, rfl⟩ := own_form h
  refine ⟨sl, cap, rfl, hl, fun i x hx => ?_⟩
  have hpos : 0 < ins.length := by have := (List.getElem?_eq_some_iff.1 hx).1; omega
  obtain ⟨g, c, e, hg, hlt⟩ := h.form hpos
  cases e
  have hadd : ∀ n, (⟨g, 0, none⟩ : Addr).add n = ⟨g, n, none⟩ := fun n => by unfold Addr.add; split <;> simp_all
  obtain ⟨h1, h2⟩ := rowB_get ins i x hx
  have c1 := h.cells (g := g) rfl _ _ h1
  have c2 := h.cells (g := g) rfl _ _ h2
  rw [hadd] at c1 c2
  exact ⟨g, 0, rfl, hlt, by rw [Nat.zero_add]; exact c1, by rw [Nat.zero_add]; exact c2⟩
theorem take_map_snoc {ws : List T} {k : Nat} {p q : ByteArray} {ins : List (ByteArray × ByteArray)} (h : ws.take k = ins.map fun x => T.list [.leaf x.1, .leaf x.2]) (hu : ws[k]? = some (.list [.leaf p, .leaf q])) : ws.take (k + 1) = (ins ++ [(p, q)]).map fun x => T.list [.leaf x.1, .leaf x.2] := by
  rw [List.take_add_one, hu, h]
  simp
theorem same6 {w : World} {o : Nat} (a b c d e f : Value) : ∀ g, g ≠ o → ((((((w.setCell ⟨o, 0, none⟩ a).setCell ⟨o, 1, none⟩ b).setCell ⟨o, 2, none⟩ c).setCell ⟨o, 3, none⟩ d).setCell ⟨o, 4, none⟩ e).setCell ⟨o, 5, none⟩ f).heap[g]? = w.heap[g]? := fun g hg => by
  rw [Below.heap_setCell _ _ _ _ hg, Below.heap_setCell _ _ _ _ hg, Below.heap_setCell _ _ _ _ hg, Below.heap_setCell _ _ _ _ hg, Below.heap_setCell _ _ _ _ hg, Below.heap_setCell _ _ _ _ hg]
theorem no_kid {k0 k1 k2 k3 u : T} {ws : List T} {d : D} (hd : IsB (.list [k0, k1, k2, k3, .list ws]) d) {k : Nat} (hu : ws[k]? = some u) : ∃ p q, u = .list [.leaf p, .leaf q] := by
  have h := hd.parts
  simp only [T.list.injEq, List.cons.injEq, and_true] at h
  rw [h.2.2.2.2, List.getElem?_map] at hu
  obtain ⟨x, _, rfl⟩ := Option.map_eq_some_iff.1 hu
  exact ⟨_, _, rfl⟩
theorem isB_only {nm vt tl : ByteArray} {ins : List (ByteArray × ByteArray)} {d : D} (hd : IsB (.list [.leaf ⟨#[100, 114, 118]⟩, .leaf nm, .leaf vt, .leaf tl, .list (ins.map fun x => .list [.leaf x.1, .leaf x.2])]) d) : Vs.parseL vt.data.toList = some (d.a, d.b, d.c) ∧ d.name = nm ∧ d.tool = tl ∧ d.ins = ins := by
  have h := hd.parts
  simp only [T.list.injEq, List.cons.injEq, T.leaf.injEq, and_true, true_and] at h
  obtain ⟨h1, h2, h3, h4⟩ := h
  refine ⟨?_, h1.symm, h3.symm, ?_⟩
  · rw [h2]
    exact Vs.parse_text (good_ver hd.good)
  · exact (kidsL_inj h4).symm
theorem drv_lit : (⟨#[100, 114, 118]⟩ : ByteArray).toList = [100, 114, 118] := by decide +kernel
theorem pv_ex (l : List UInt8) : ∃ a b c e : Int, Vs.PV (Vs.parseL l) = .tuple #[.agg #[.int .i64 a, .int .i64 b, .int .i64 c], .int .i64 e] ∧ ((e = 0 ∧ Vs.parseL l = some (a, b, c)) ∨ (e = 20 ∧ Vs.parseL l = none)) := by
  cases h : Vs.parseL l with
  | none => exact ⟨0, 0, 0, 20, Vs.PV_none, .inr ⟨rfl, rfl⟩⟩
  | some x => exact ⟨x.1, x.2.1, x.2.2, 0, Vs.PV_some _ _ _, .inl ⟨rfl, rfl⟩⟩

set_option maxHeartbeats 8000000 in
set_option maxRecDepth 100000 in
theorem ddecode_any (s : ByteArray) (W : World) (hE : EnvD W) :
    Calls Tryz.prog 5 #[.string s] W fun e W' => DQ W s.data.toList e W' := by
  have hX : Below W.heap.size W (W.alloc ZO) := (Below.refl _ _).alloc (Nat.le_refl _) _
  have hZ : DF (W.alloc ZO) W.heap.size D0 (.slice none 0 0) := DF.new W D0 (.slice none 0 0)
  have hcall := decode_any s (W.alloc ZO) (hE.sx.below hX)
  cases hO : parse s.data.toList with
  | bad f =>
    rw [hO] at hcall
    have hD := Lib.hid (decB_bad hO)
    clear hO
    go_enter Tryz.func5, Tryz.ntmps5
    go_wp2_with fail
    refine hcall.mono ?_
    rintro e w1 ⟨⟨β, σ, sl, n, cap, f', rfl, rfl, hf0⟩, hb1⟩
    have j0 : (f' == 0) = false := by rw [beq_eq_false_iff_ne]; exact hf0
    have j1 : (f' != 0) = true := by rw [bne_iff_ne]; exact hf0
    have hA : Below w1.heap.size w1 (w1.alloc (.cells #[.bool β, .string σ, .slice sl n cap] 39)) := (Below.refl _ _).alloc (Nat.le_refl _) _
    have hB := trans' (trans' hX hb1) hA
    obtain ⟨l0, q0, q1, q2, q3, q4, q5, qf⟩ := ((hZ.below hb1).below hA).zero
    clear hf0 hcall hZ
    go_wp2_with fail
    refine bodyPost_ret (v := .tuple #[.agg #[.string ⟨#[]⟩, .int .i64 0, .int .i64 0, .int .i64 0, .string ⟨#[]⟩, .slice none 0 0], .int .i64 f']) (by simp [results, Tryz.results5, go_sem, q0, q1, q2, q3, q4, q5]) rfl ?_
    exact dq_none hD.out rfl (B6 hB _ _ _ _ _ _)
  | ok t n0 =>
    rw [hO] at hcall
    obtain ⟨henc, hlen⟩ := parse_enc hO
    have hkl : kidsLe t := by unfold kidsLe; rw [henc]; exact hlen
    obtain ⟨hk1, hk2⟩ := kids_le hkl
    have HOK := Lib.hid hO
    have HK2 := Lib.hid hk2
    clear hO henc hlen hk2 hkl
    by_cases h5 : (kidsT t).length = 5
    rotate_left
    · have hD := Lib.hid (decB_no HOK.out (fun d hd => h5 (by rw [hd.parts]; rfl)))
      have j5 : (((kidsT t).length : Int) == 5) = false := by rw [beq_eq_false_iff_ne]; omega
      have j6 : (((kidsT t).length : Int) != 5) = true := by rw [bne_iff_ne]; omega
      go_enter Tryz.func5, Tryz.ntmps5
      go_wp2_with fail
      refine hcall.mono ?_
      rintro e w1 ⟨⟨β, σ, sl, n, cap, f', rfl, rfl, hrep⟩, hb1⟩
      obtain ⟨rfl, rfl, -⟩ := (hrep.rep (B := w1.heap.size) (fun b hb => hb.2)).kids
      have hA : Below w1.heap.size w1 (w1.alloc (.cells #[.bool (!isL t), .string σ, .slice sl (kidsT t).length cap] 39)) := (Below.refl _ _).alloc (Nat.le_refl _) _
      have hB := trans' (trans' hX hb1) hA
      obtain ⟨l0, q0, q1, q2, q3, q4, q5, qf⟩ := ((hZ.below hb1).below hA).zero
      clear hcall hZ h5 hrep
      go_wp2_with fail
      refine bodyPost_ret (v := .tuple #[.agg #[.string ⟨#[]⟩, .int .i64 0, .int .i64 0, .int .i64 0, .string ⟨#[]⟩, .slice none 0 0], .int .i64 5]) (by simp [results, Tryz.results5, go_sem, q0, q1, q2, q3, q4, q5]) rfl ?_
      exact dq_none hD.out rfl (B6 hB _ _ _ _ _ _)
    · obtain ⟨k0, k1, k2, k3, k4, rfl⟩ := five h5
      cases hk4 : isL k4
      · have hD := Lib.hid (decB_no HOK.out (fun d hd => by
          have h := hd.parts
          simp only [T.list.injEq, List.cons.injEq, and_true] at h
          rw [h.2.2.2.2] at hk4
          cases hk4))
        go_enter Tryz.func5, Tryz.ntmps5
        go_wp2_with fail
        refine hcall.mono ?_
        rintro e w1 ⟨⟨β, σ, sl, n, cap, f', rfl, rfl, hrep⟩, hb1⟩
        have hroom := hrep.room
        obtain ⟨hβ, hn5, h', x, y, z, hc, hr⟩ := (hrep.rep (B := w1.heap.size) (fun b hb => hb.2)).kids
        obtain rfl : n = 5 := hn5
        obtain rfl : β = false := hβ
        obtain ⟨b, o, rfl, hbl, -⟩ := hc 0 k0 rfl
        have hcc : ∀ i k, [k0, k1, k2, k3, k4][i]? = some k → w1.cell? ⟨b, o + i * 3, none⟩ = some (x i) ∧ w1.cell? ⟨b, o + i * 3 + 1, none⟩ = some (y i) ∧ w1.cell? ⟨b, o + i * 3 + 2, none⟩ = some (z i) := fun i k hk => by
          obtain ⟨b', o', e, -, h1, h2, h3⟩ := hc i k hk
          cases e
          exact ⟨h1, h2, h3⟩
        have HC := Lib.hid hcc
        have HR := Lib.hid hr
        have g40 : w1.cell? ⟨b, o + 12, none⟩ = some (x 4) := (hcc 4 k4 rfl).1
        rw [(hr 4 k4 rfl).vals.1, hk4] at g40
        (first | rw [show (!false) = true from rfl] at g40 | rw [show (!true) = false from rfl] at g40)
        have hA : Below w1.heap.size w1 (w1.alloc (.cells #[.bool false, .string σ, .slice (some ⟨b, o, none⟩) 5 cap] 39)) := (Below.refl _ _).alloc (Nat.le_refl _) _
        have hB := trans' (trans' hX hb1) hA
        have hZ2 := (hZ.below hb1).below hA
        clear hcall hZ h5 hrep hc hr hcc
        obtain ⟨l0, q0, q1, q2, q3, q4, q5, qf⟩ := hZ2.zero
        go_wp2_with fail
        refine bodyPost_ret (v := .tuple #[.agg #[.string ⟨#[]⟩, .int .i64 0, .int .i64 0, .int .i64 0, .string ⟨#[]⟩, .slice none 0 0], .int .i64 5]) (by simp [results, Tryz.results5, go_sem, q0, q1, q2, q3, q4, q5]) rfl ?_
        exact dq_none hD.out rfl (B6 hB _ _ _ _ _ _)
      · obtain ⟨ws, rfl⟩ : ∃ ws, k4 = .list ws := by
          cases k4 with
          | leaf s => cases hk4
          | list ws => exact ⟨ws, rfl⟩
        have HQ4 := Lib.hid hk4
        rcases fL_iff [k0, k1, k2, k3] with ⟨hf, ke, hke, hel⟩ | ⟨hf, hall⟩
        · have hD := Lib.hid (decB_no HOK.out (fun d hd => by
            have h := hd.parts
            simp only [T.list.injEq, List.cons.injEq, and_true] at h
            obtain ⟨rfl, rfl, rfl, rfl, -⟩ := h
            simp at hke
            rcases hke with rfl | rfl | rfl | rfl <;> cases hel))
          go_enter Tryz.func5, Tryz.ntmps5
          go_wp2_with fail
          refine hcall.mono ?_
          rintro e w1 ⟨⟨β, σ, sl, n, cap, f', rfl, rfl, hrep⟩, hb1⟩
          have hroom := hrep.room
          obtain ⟨hβ, hn5, h', x, y, z, hc, hr⟩ := (hrep.rep (B := w1.heap.size) (fun b hb => hb.2)).kids
          obtain rfl : n = 5 := hn5
          obtain rfl : β = false := hβ
          obtain ⟨b, o, rfl, hbl, -⟩ := hc 0 k0 rfl
          have hcc : ∀ i k, [k0, k1, k2, k3, (T.list ws)][i]? = some k → w1.cell? ⟨b, o + i * 3, none⟩ = some (x i) ∧ w1.cell? ⟨b, o + i * 3 + 1, none⟩ = some (y i) ∧ w1.cell? ⟨b, o + i * 3 + 2, none⟩ = some (z i) := fun i k hk => by
            obtain ⟨b', o', e, -, h1, h2, h3⟩ := hc i k hk
            cases e
            exact ⟨h1, h2, h3⟩
          have HC := Lib.hid hcc
          have HR := Lib.hid hr
          have g40 : w1.cell? ⟨b, o + 12, none⟩ = some (x 4) := (hcc 4 (T.list ws) rfl).1
          rw [(hr 4 (T.list ws) rfl).vals.1, hk4] at g40
          (first | rw [show (!false) = true from rfl] at g40 | rw [show (!true) = false from rfl] at g40)
          have hA : Below w1.heap.size w1 (w1.alloc (.cells #[.bool false, .string σ, .slice (some ⟨b, o, none⟩) 5 cap] 39)) := (Below.refl _ _).alloc (Nat.le_refl _) _
          have hB := trans' (trans' hX hb1) hA
          have hZ2 := (hZ.below hb1).below hA
          clear hcall hZ h5 hrep hc hr hcc
          have hat := atoms_any [k0, k1, k2, k3] (some ⟨b, o, none⟩) cap x y z w1.heap.size h' 4 (w1.alloc (.cells #[.bool false, .string σ, .slice (some ⟨b, o, none⟩) 5 cap] 39)) (by simp) (by simp)
            (fun i k hk => ⟨b, o, rfl, hbl, ((bcell hA).1 b _ hbl).trans (HC.out i k (pre4 hk)).1, ((bcell hA).1 b _ hbl).trans (HC.out i k (pre4 hk)).2.1, ((bcell hA).1 b _ hbl).trans (HC.out i k (pre4 hk)).2.2⟩)
            (fun i k hk => (HR.out i k (pre4 hk)).same (fun b' o' hb' => (bcell hA).1 b' _ hb'))
          have hq : (decide ((([k0, k1, k2, k3].length : Nat) : Int) = 4) && !decide (0 ≤ fL [k0, k1, k2, k3])) = false := by rw [decide_eq_true hf]; rfl
          rw [hq] at hat
          clear hf hel hke
          go_wp2_with fail
          refine hat.mono ?_
          rintro e w2 ⟨ao, rfl, hown, hb2⟩
          obtain ⟨l0, q0, q1, q2, q3, q4, q5, qf⟩ := (hZ2.below hb2).zero
          clear hat
          go_wp2_with fail
          refine bodyPost_ret (v := .tuple #[.agg #[.string ⟨#[]⟩, .int .i64 0, .int .i64 0, .int .i64 0, .string ⟨#[]⟩, .slice none 0 0], .int .i64 5]) (by simp [results, Tryz.results5, go_sem, q0, q1, q2, q3, q4, q5]) rfl ?_
          exact dq_none hD.out rfl (B6 (trans' hB hb2) _ _ _ _ _ _)
        · obtain ⟨s0, s1, s2, s3, rfl, rfl, rfl, rfl⟩ := four hall
          go_enter Tryz.func5, Tryz.ntmps5
          go_wp2_with fail
          refine hcall.mono ?_
          rintro e w1 ⟨⟨β, σ, sl, n, cap, f', rfl, rfl, hrep⟩, hb1⟩
          have hroom := hrep.room
          obtain ⟨hβ, hn5, h', x, y, z, hc, hr⟩ := (hrep.rep (B := w1.heap.size) (fun b hb => hb.2)).kids
          obtain rfl : n = 5 := hn5
          obtain rfl : β = false := hβ
          obtain ⟨b, o, rfl, hbl, -⟩ := hc 0 (T.leaf s0) rfl
          have hcc : ∀ i k, [(T.leaf s0), (T.leaf s1), (T.leaf s2), (T.leaf s3), (T.list ws)][i]? = some k → w1.cell? ⟨b, o + i * 3, none⟩ = some (x i) ∧ w1.cell? ⟨b, o + i * 3 + 1, none⟩ = some (y i) ∧ w1.cell? ⟨b, o + i * 3 + 2, none⟩ = some (z i) := fun i k hk => by
            obtain ⟨b', o', e, -, h1, h2, h3⟩ := hc i k hk
            cases e
            exact ⟨h1, h2, h3⟩
          have HC := Lib.hid hcc
          have HR := Lib.hid hr
          have g40 : w1.cell? ⟨b, o + 12, none⟩ = some (x 4) := (hcc 4 (T.list ws) rfl).1
          rw [(hr 4 (T.list ws) rfl).vals.1, hk4] at g40
          (first | rw [show (!false) = true from rfl] at g40 | rw [show (!true) = false from rfl] at g40)
          have hA : Below w1.heap.size w1 (w1.alloc (.cells #[.bool false, .string σ, .slice (some ⟨b, o, none⟩) 5 cap] 39)) := (Below.refl _ _).alloc (Nat.le_refl _) _
          have hB := trans' (trans' hX hb1) hA
          have hZ2 := (hZ.below hb1).below hA
          clear hcall hZ h5 hrep hc hr hcc
          have hat := atoms_any [(T.leaf s0), (T.leaf s1), (T.leaf s2), (T.leaf s3)] (some ⟨b, o, none⟩) cap x y z w1.heap.size h' 4 (w1.alloc (.cells #[.bool false, .string σ, .slice (some ⟨b, o, none⟩) 5 cap] 39)) (by simp) (by simp)
            (fun i k hk => ⟨b, o, rfl, hbl, ((bcell hA).1 b _ hbl).trans (HC.out i k (pre4 hk)).1, ((bcell hA).1 b _ hbl).trans (HC.out i k (pre4 hk)).2.1, ((bcell hA).1 b _ hbl).trans (HC.out i k (pre4 hk)).2.2⟩)
            (fun i k hk => (HR.out i k (pre4 hk)).same (fun b' o' hb' => (bcell hA).1 b' _ hb'))
          have hq : (decide ((([(T.leaf s0), (T.leaf s1), (T.leaf s2), (T.leaf s3)].length : Nat) : Int) = 4) && !decide (0 ≤ fL [(T.leaf s0), (T.leaf s1), (T.leaf s2), (T.leaf s3)])) = true := by rw [hf]; rfl
          rw [hq] at hat
          clear hf hall
          go_wp2_with fail
          refine hat.mono ?_
          rintro e w2 ⟨ao, rfl, hown, hb2⟩
          obtain ⟨g, ca, rfl, hg0, hgl⟩ := hown.form (by simp)
          have a0 : w2.cell? ⟨g, 0, none⟩ = some (.string s0) := by simpa [Addr.add, txt] using hown.cells (g := g) rfl 0 _ rfl
          have a1 : w2.cell? ⟨g, 1, none⟩ = some (.string s1) := by simpa [Addr.add, txt] using hown.cells (g := g) rfl 1 _ rfl
          have a2 : w2.cell? ⟨g, 2, none⟩ = some (.string s2) := by simpa [Addr.add, txt] using hown.cells (g := g) rfl 2 _ rfl
          have a3 : w2.cell? ⟨g, 3, none⟩ = some (.string s3) := by simpa [Addr.add, txt] using hown.cells (g := g) rfl 3 _ rfl
          have hB2 := trans' hB hb2
          have hZ3 := hZ2.below hb2
          clear hat hown hg0
          by_cases hs0 : s0 = ⟨#[100, 114, 118]⟩
          rotate_left
          · have hD := Lib.hid (decB_no HOK.out (fun d hd => by
              have h := hd.parts
              simp only [T.list.injEq, List.cons.injEq, T.leaf.injEq] at h
              exact hs0 h.1))
            have i1 := seq_ff hs0
            rw [drv_lit] at i1
            obtain ⟨l0, q0, q1, q2, q3, q4, q5, qf⟩ := hZ3.zero
            clear hs0
            go_wp2_with fail
            refine bodyPost_ret (v := .tuple #[.agg #[.string ⟨#[]⟩, .int .i64 0, .int .i64 0, .int .i64 0, .string ⟨#[]⟩, .slice none 0 0], .int .i64 5]) (by simp [results, Tryz.results5, go_sem, q0, q1, q2, q3, q4, q5]) rfl ?_
            exact dq_none hD.out rfl (B6 hB2 _ _ _ _ _ _)
          · have i1 := seq_tt hs0
            rw [drv_lit] at i1
            have hsz2 : s2.size ≤ 1048576 := by
              have h := HK2.out 2 (.leaf s2) rfl
              unfold kidsLe at h
              have h' := Lib.size_eq s2
              simp only [enc, List.length_append, List.length_cons] at h
              omega
            have HS0 := Lib.hid hs0
            obtain ⟨i0, hi0, hz0, hz1, hz2⟩ := info_parts info_in
            have hWl := hZ2.dc.lt
            obtain ⟨va, vb, vc, ve, hPV, hve⟩ := pv_ex s2.data.toList
            have HVE := Lib.hid hve
            have hpv := Vs.parse_any s2 hsz2 w2 (hE.below hB2).vs
            rw [hPV] at hpv
            clear hs0 hPV hve hsz2
            go_wp2_with fail
            refine hpv.mono ?_
            rintro e w3 ⟨rfl, hb3⟩
            have hB3 := trans' hB2 hb3
            have hZ4 := hZ3.below hb3
            have hA3 : Below w3.heap.size w3 (w3.alloc (.cells #[.int .i64 va, .int .i64 vb, .int .i64 vc] 24)) := (Below.refl _ _).alloc (Nat.le_refl _) _
            have hC3 := Vs.C3.new w3 va vb vc
            have b1 := keep_cell hb3 a1
            have b3 := keep_cell hb3 a3
            clear a0 a1 a2 a3 hpv
            have n2 : (w1.alloc (.cells #[.bool false, .string σ, .slice (some ⟨b, o, none⟩) 5 cap] 39)).cell? ⟨w1.heap.size, 2, none⟩ = some (.slice (some ⟨b, o, none⟩) 5 cap) := by go_simp
            have n3 := keep_cell hb3 (keep_cell hb2 n2)
            have hsz1 : w1.heap.size < w3.heap.size := by
              have h1 := hA.size
              have h2 := hb2.size
              have h3 := hb3.size
              have h4 : (w1.alloc (.cells #[.bool false, .string σ, .slice (some ⟨b, o, none⟩) 5 cap] 39)).heap.size = w1.heap.size + 1 := by simp
              omega
            have hbk : Below w1.heap.size w1 w3 := hA.trans ((hb2.trans (hb3.mono hb2.size)).mono hA.size)
            have hE3 := hE.below hB3
            have hg3 : g < w3.heap.size := Nat.lt_of_lt_of_le hgl hb3.size
            clear n2 hA hb2 hb3 hB hB2 hZ2 hZ3 hgl hX hb1 hroom g40 hk1 hk4
            go_wp2_with fail
            have hZ5 := hZ4.below hA3
            have hB4 := trans' hB3 hA3
            have n4 := keep_cell hA3 n3
            have d1 := keep_cell hA3 b1
            have d3 := keep_cell hA3 b3
            obtain ⟨vl, v0, v1, v2, vf⟩ := hC3
            have hs4 : (w3.alloc (.cells #[.int .i64 va, .int .i64 vb, .int .i64 vc] 24)).heap.size = w3.heap.size + 1 := by simp
            have hbk4 := hbk.trans (hA3.mono hbk.size)
            clear b1 b3 n3 hB3 hZ4 hbk
            generalize w3.alloc (.cells #[.int .i64 va, .int .i64 vb, .int .i64 vc] 24) = w4 at *
            go_region
            have hD5 : DF (w4.alloc (DO ⟨s1, va, vb, vc, s3, []⟩ (.slice none 0 0))).drew (w3.heap.size + 1) ⟨s1, va, vb, vc, s3, []⟩ (.slice none 0 0) := by
              have h := (DF.new w4 ⟨s1, va, vb, vc, s3, []⟩ (.slice none 0 0)).below (Below.refl _ _).drew
              rw [hs4] at h
              exact h
            have hA4 : Below w4.heap.size w4 (w4.alloc (DO ⟨s1, va, vb, vc, s3, []⟩ (.slice none 0 0))).drew := ((Below.refl _ _).alloc (Nat.le_refl _) _).drew
            have hZ6 := hZ5.below hA4
            have hB5 := trans' hB4 hA4
            have n5 := keep_cell hA4 n4
            have hbk5 := hbk4.trans (hA4.mono hbk4.size)
            have hs5 : (w4.alloc (DO ⟨s1, va, vb, vc, s3, []⟩ (.slice none 0 0))).drew.heap.size = w3.heap.size + 2 := by simp [hs4]
            clear hA4 hZ5 hB4 n4 hbk4 d1 d3 vl v0 v1 v2 vf
            generalize (w4.alloc (DO ⟨s1, va, vb, vc, s3, []⟩ (.slice none 0 0))).drew = w5 at *
            have hr4 := HR.out 4 (.list ws) rfl
            obtain ⟨hx4, hy4, sl4, cap4, hz4⟩ := hr4.vals
            have m2 : w1.cell? ⟨b, o + 14, none⟩ = some (z 4) := (HC.out 4 (.list ws) rfl).2.2
            rw [hz4] at m2
            have m5 := ((bcell hbk5).1 b _ hbl).trans m2
            have m6 : w5.cell? ⟨b, o + 12 + 2, none⟩ = some (.slice sl4 (kidsT (.list ws)).length cap4) := m5
            rw [hx4, hy4, hz4] at hr4
            obtain ⟨-, -, h9, x9, y9, z9, hc9, hr9⟩ := hr4.kids
            have HC9 := Lib.hid hc9
            have HR9 := Lib.hid hr9
            have hwl : ws.length ≤ 65536 := (kids_le (HK2.out 4 (.list ws) rfl)).1
            have HK9 := Lib.hid (kids_le (HK2.out 4 (.list ws) rfl)).2
            have O5 : w5.ownsRow (w3.heap.size + 2) 48 2 (.slice none 0 0) 0 (rowB []) := World.ownsRow_nil _ _ _ _
            clear m2 hr4 hc9 hr9 hx4 hy4 hz4 HC HR HK2
            go_wp2_with fail
            go_loopw [11, 12, 13, 75] (fun _ _ _ i wr => ∃ (k : Nat) (ins : List (ByteArray × ByteArray)) (v : Value), k ≤ ws.length ∧ i = .int .i64 k ∧ ins.length = k ∧ wr.ownsRow (w3.heap.size + 2) 48 2 v k (rowB ins) ∧ (ws.take k = ins.map fun x => T.list [.leaf x.1, .leaf x.2]) ∧ DF wr (w3.heap.size + 1) ⟨s1, va, vb, vc, s3, []⟩ v ∧ DF wr W.heap.size D0 (.slice none 0 0) ∧ Below w1.heap.size w1 wr ∧ Below W.heap.size W wr) (fun _ _ _ i _ => ws.length - (intOf i).toNat)
            case atStart => exact ⟨0, [], _, Nat.zero_le _, rfl, rfl, O5, rfl, hD5, hZ6, hbk5, hB5⟩
            case round =>
              obtain ⟨k, ins, v, hk, rfl, hlen, hown, htk, hDr, hZr, hbr, hBr⟩ := hrel
              have HTK := Lib.hid htk
              have HO := Lib.hid hown
              clear O5 hD5 hZ6 hbk5 hB5 m5 m6 n5 hs5 hE3 htk hown
              by_cases hlt : k < ws.length
              · obtain ⟨u, hu⟩ : ∃ u, ws[k]? = some u := ⟨ws[k], List.getElem?_eq_getElem hlt⟩
                obtain ⟨bb, oo, rfl, hbb, h1, h2, h3⟩ := HC9.out k u hu
                have hrk := HR9.out k u hu
                obtain ⟨e1, e2, sl', cap', e3⟩ := hrk.vals
                rw [e1] at h1
                rw [e2] at h2
                rw [e3] at h3
                rw [e1, e2, e3] at hrk
                have g1 := ((bcell hbr).1 bb _ hbb).trans h1
                have g2 := ((bcell hbr).1 bb _ hbb).trans h2
                have g3 := ((bcell hbr).1 bb _ hbb).trans h3
                have hAr : Below wr.heap.size wr (wr.alloc (.cells #[.bool (!isL u), .string (txt u), .slice sl' (kidsT u).length cap'] 39)) := (Below.refl _ _).alloc (Nat.le_refl _) _
                have hbA := hbr.trans (hAr.mono hbr.size)
                obtain ⟨-, -, h7, x7, y7, z7, hc7, hr7⟩ := hrk.kids
                have hat := atoms_any (kidsT u) sl' cap' x7 y7 z7 w1.heap.size h7 2 (wr.alloc (.cells #[.bool (!isL u), .string (txt u), .slice sl' (kidsT u).length cap'] 39)) hbA.size (kids_le (HK9.out k u hu)).1
                  (fun i k' hk' => by
                    obtain ⟨b', o', e, hb', q1, q2, q3⟩ := hc7 i k' hk'
                    exact ⟨b', o', e, hb', ((bcell hbA).1 b' _ hb').trans q1, ((bcell hbA).1 b' _ hb').trans q2, ((bcell hbA).1 b' _ hb').trans q3⟩)
                  (fun i k' hk' => (hr7 i k' hk').same (fun b' o' hb' => (bcell hbA).1 b' _ hb'))
                have HU := Lib.hid hu
                clear h1 h2 h3 e1 e2 e3 hrk hc7 hr7 hu
                have hBA := trans' hBr hAr
                have hZA := hZr.below hAr
                have nb0 : (wr.alloc (.cells #[.bool (!isL u), .string (txt u), .slice sl' (kidsT u).length cap'] 39)).cell? ⟨wr.heap.size, 0, none⟩ = some (.bool (!isL u)) := by go_simp
                obtain ⟨qb, hqb⟩ : ∃ qb, qb = (decide (((kidsT u).length : Int) = 2) && !decide (0 ≤ fL (kidsT u))) := ⟨_, rfl⟩
                rw [← hqb] at hat
                cases qb with
                | false =>
                  have hD := Lib.hid (decB_no HOK.out (fun d hd => by
                    obtain ⟨p, q, rfl⟩ := no_kid hd HU.out
                    rw [decide_eq_false (fl_two p q)] at hqb
                    simp [kidsT] at hqb))
                  clear hqb
                  go_wp2_with fail
                  refine hat.mono ?_
                  rintro e w6 ⟨ao, rfl, -, hb6⟩
                  obtain ⟨l0, q0, q1, q2, q3, q4, q5, qf⟩ := (hZA.below hb6).zero
                  clear hat g1 g2 g3 nb0
                  have hBB := trans' hBA hb6
                  go_wp2_with fail
                  refine bodyPost_ret (v := .tuple #[.agg #[.string ⟨#[]⟩, .int .i64 0, .int .i64 0, .int .i64 0, .string ⟨#[]⟩, .slice none 0 0], .int .i64 5]) (by simp [results, Tryz.results5, go_sem, q0, q1, q2, q3, q4, q5]) rfl ?_
                  exact dq_none hD.out rfl (B6 hBB _ _ _ _ _ _)
                | true =>
                  have hqb' := hqb.symm
                  rw [Bool.and_eq_true, decide_eq_true_eq] at hqb'
                  obtain ⟨p, q, rfl⟩ := two (k := u) (by have := hqb'.1; omega) (by simpa using hqb'.2)
                  clear hqb hqb'
                  go_wp2_with fail
                  refine hat.mono ?_
                  rintro e w6 ⟨ao, rfl, hown6, hb6⟩
                  have hown6 : w6.ownsRow _ _ _ ao 2 [.string p, .string q] := hown6
                  obtain ⟨g6, ca6, rfl, hg60, hg6l⟩ := hown6.form (by decide)
                  have t0 : w6.cell? ⟨g6, 0, none⟩ = some (.string p) := by simpa [Addr.add] using hown6.cells (g := g6) rfl 0 _ rfl
                  have t1 : w6.cell? ⟨g6, 1, none⟩ = some (.string q) := by simpa [Addr.add] using hown6.cells (g := g6) rfl 1 _ rfl
                  have hBB := trans' hBA hb6
                  have hZB := hZA.below hb6
                  have hDB := (hDr.below hAr).below hb6
                  have nb6 := keep_cell hb6 nb0
                  have hb06 : Below wr.heap.size wr w6 := hAr.trans (hb6.mono hAr.size)
                  have HOB := Lib.hid (own_block HO.out (fun j hj => hb06.block j (HO.out.lt j hj).2))
                  have hbB := hbr.trans (hb06.mono hbr.size)
                  clear hat hown6 hg60 g1 g2 g3 nb0 hb6 hZA hBA hbA hAr hDr hZr hBr hbr hb06 HO
                  obtain ⟨vs, vc9, rfl⟩ := own_form HOB.out
                  have e5 := ext_cell hDB.dc.c5
                  have e60 := ext_cell t0
                  have e61 := ext_cell t1
                  have hs6 := hBB.size
                  go_wp2_with fail
                  refine Mix.region (fun w' => ∃ Y, w' = ext w6 Y) 10 [0, 0, 0, 0, 0, 0, 0, 0, 1, 1, 9, 9, 9] [true, false] (by kernel_rfl) (fun _ _ d _ _ h => by cases d <;> exact h) (by rfl) (by kernel_rfl) (ext_drew _) ?_
                  simp only [Mix.selP_cons, Mix.selP_nil, Mix.sel_cons, Mix.sel_nil, Nat.reduceBEq, Nat.reduceAdd, cond_true, cond_false, List.drop_succ_cons, List.drop_zero]
                  refine Mix.parts_q ?_
                  repeat (go_big_quiet_step (fail))
                  refine wpQuiet_nil ?_
                  refine Mix.parts_e ?_
                  clear e5 e60 e61 t0 t1
                  refine Mix.eff_step (fun K hK => ?_)
                  go_simp
                  refine hK _ _ (ext_drew _) ?_
                  clear hK K
                  refine Mix.eff_step (fun K hK => ?_)
                  go_simp
                  have hB7 := (Below.refl w6.heap.size w6).drew.alloc (Nat.le_refl _) (.cells #[.string p, .string q] 48)
                  refine hK _ _ ⟨_, ext_of hB7⟩ ?_
                  clear hK K
                  refine Mix.eff_nil (Mix.parts_n ?_)
                  have HO7 := Lib.hid (own_block HOB.out (fun j hj => hB7.block j (HOB.out.lt j hj).2))
                  have hD7 := hDB.below hB7
                  have hZ7 := hZB.below hB7
                  have hBB7 := trans' hBB hB7
                  have hbB7 := hbB.trans (hB7.mono hbB.size)
                  have hw36 : w3.heap.size + 1 < w6.heap.size := hDB.dc.lt
                  have hWz : W.heap.size < w1.heap.size + 1 := by simpa using hWl
                  clear hB7 HOB hDB hZB hBB hbB
                  go_wp2_with (first
                    | (at_builtin; refine wpList_append_lies _ rfl _ _ 27 rfl (w3.heap.size + 2) 48 i0 _ 2 32 Tryz.underlying27 hi0 hz0 hz1 hz2 rfl (by decide) (.slice vs k vc9) k _ rfl HO7.out ⟨w6.heap.size, 0, none⟩ 1 1 [.string p, .string q] rfl rfl ?d1 ?d2 (by decide) ?d3 ?d4 ?d5 (w6.heap.size + 1) (by simp) ?_))
                  case d1 =>
                    intro j u hj
                    match j, hj with
                    | 0, hj => simp at hj; subst hj; simp [Addr.add]
                    | 1, hj => simp at hj; subst hj; simp [Addr.add]
                  case d2 => intro u hu; simp at hu; rcases hu with rfl | rfl <;> rfl
                  case d3 => unfold maxLen; omega
                  case d4 => omega
                  case d5 => simp; omega
                  intro g8 c8 w8 hown8 hg8 hat8 hlt8
                  rw [rowB_snoc] at hown8
                  have hne : ∀ j, j < w3.heap.size + 2 → some j ≠ (Value.slice vs k vc9).ownBlock := fun j hj e => by have := (HO7.out.lt j e.symm).1; omega
                  have hD8 := hD7.block hg8.size (hg8.block _ hD7.dc.lt (hne _ (by omega)))
                  have hZ8 := hZ7.block hg8.size (hg8.block _ hZ7.dc.lt (hne _ (by omega)))
                  have hB8 : Below W.heap.size W w8 := hBB7.grown hg8 hBB7.size (fun j hj => by have := (HO7.out.lt j hj).1; omega)
                  have hb8 : Below w1.heap.size w1 w8 := hbB7.grown hg8 hbB7.size (fun j hj => by have := (HO7.out.lt j hj).1; omega)
                  have hsame : ∀ j, j ≠ w3.heap.size + 1 → (w8.setCell ⟨w3.heap.size + 1, 5, none⟩ (.slice (some ⟨g8, 0, none⟩) (k + 1) c8)).heap[j]? = w8.heap[j]? := fun j hj => Below.heap_setCell _ _ _ _ hj
                  have HOn := Lib.hid (own_block hown8 (fun j hj => hsame j (by simp [Value.ownBlock] at hj; have := (hown8.lt g8 (by simp [Value.ownBlock])).1; omega)))
                  have HDn := Lib.hid (hD8.set5 (.slice (some ⟨g8, 0, none⟩) (k + 1) c8))
                  have HZn := Lib.hid (hZ8.block (W' := w8.setCell ⟨w3.heap.size + 1, 5, none⟩ (.slice (some ⟨g8, 0, none⟩) (k + 1) c8)) (by simp [World.setCell]) (hsame _ (by omega)))
                  have HBn := Lib.hid (hB8.setCell (p := ⟨w3.heap.size + 1, 5, none⟩) (by show W.heap.size ≤ w3.heap.size + 1; omega) (.slice (some ⟨g8, 0, none⟩) (k + 1) c8))
                  have Hbn := Lib.hid (hb8.setCell (p := ⟨w3.heap.size + 1, 5, none⟩) (by show w1.heap.size ≤ w3.heap.size + 1; omega) (.slice (some ⟨g8, 0, none⟩) (k + 1) c8))
                  have HTn := Lib.hid (take_map_snoc HTK.out HU.out)
                  have p5 := hD8.dc.c5
                  have pf := hD8.fz
                  have pl := hD8.dc.lt
                  clear hsame hD7 hZ7 hBB7 hbB7 hD8 hZ8 hB8 hb8 hown8 hg8 hat8 hlt8 hne HO7
                  go_wp2_with fail
                  go_roundw
                  case rel => exact ⟨k + 1, ins ++ [(p, q)], _, by omega, by go_num, by simp [hlen], HOn.out, HTn.out, HDn.out, HZn.out, Hbn.out, HBn.out⟩
                  case measure => simp [intOf]; omega
              · obtain rfl : k = ws.length := by omega
                have hws : ws = ins.map fun x => T.list [.leaf x.1, .leaf x.2] := by
                  have := HTK.out
                  rwa [List.take_length] at this
                have HWS := Lib.hid hws
                have hs00 := HS0.out
                rcases HVE.out with ⟨rfl, hpv⟩ | ⟨rfl, hpv⟩
                rotate_left
                · have hD := Lib.hid (decB_no HOK.out (fun d hd => by
                    rw [hs00, hws] at hd
                    rw [(isB_only hd).1] at hpv
                    cases hpv))
                  obtain ⟨l0, q0, q1, q2, q3, q4, q5, qf⟩ := hZr.zero
                  clear hws hs00 hpv
                  go_wp2_with fail
                  refine bodyPost_ret (v := .tuple #[.agg #[.string ⟨#[]⟩, .int .i64 0, .int .i64 0, .int .i64 0, .string ⟨#[]⟩, .slice none 0 0], .int .i64 5]) (by simp [results, Tryz.results5, go_sem, q0, q1, q2, q3, q4, q5]) rfl ?_
                  exact dq_none hD.out rfl (B6 hBr _ _ _ _ _ _)
                · have hown := HO.out
                  rw [← hlen] at hown
                  have hS := SI.of_own hown (by omega)
                  have HLN := Lib.hid hlen
                  have hil : ins.length ≤ 65536 := by omega
                  clear hlen
                  obtain ⟨vs, vc9, rfl⟩ := own_form hown
                  have hgd := good_any ⟨s1, va, vb, vc, s3, ins⟩ _ wr hS
                  have HPV := Lib.hid hpv
                  have HOO := Lib.hid hown
                  obtain ⟨c0, c1, c2, c3, c4, c5⟩ := (⟨hDr.dc.c0, hDr.dc.c1, hDr.dc.c2, hDr.dc.c3, hDr.dc.c4, hDr.dc.c5⟩ : _ ∧ _ ∧ _ ∧ _ ∧ _ ∧ _)
                  clear hpv hown hS HO
                  cases hgb : goodD ⟨s1, va, vb, vc, s3, ins⟩ with
                  | false =>
                    have hD := Lib.hid (decB_no HOK.out (fun d hd => by
                      rw [hs00, hws] at hd
                      obtain ⟨h1, h2, h3, h4⟩ := isB_only hd
                      rw [HPV.out] at h1
                      simp only [Option.some.injEq, Prod.mk.injEq] at h1
                      have hg := hd.good
                      obtain ⟨dn, da, db, dc, dt, di⟩ := d
                      simp only at h1 h2 h3 h4
                      obtain ⟨rfl, rfl, rfl⟩ := h1
                      subst h2 h3 h4
                      rw [hgb] at hg
                      cases hg))
                    rw [hgb] at hgd
                    clear hws hs00 hgb
                    go_wp2_with fail
                    refine hgd.mono ?_
                    rintro e w9 ⟨rfl, hb9⟩
                    obtain ⟨l0, q0, q1, q2, q3, q4, q5, qf⟩ := (hZr.below hb9).zero
                    have hB9 := trans' hBr hb9
                    clear hgd c0 c1 c2 c3 c4 c5
                    go_wp2_with fail
                    refine bodyPost_ret (v := .tuple #[.agg #[.string ⟨#[]⟩, .int .i64 0, .int .i64 0, .int .i64 0, .string ⟨#[]⟩, .slice none 0 0], .int .i64 5]) (by simp [results, Tryz.results5, go_sem, q0, q1, q2, q3, q4, q5]) rfl ?_
                    exact dq_none hD.out rfl (B6 hB9 _ _ _ _ _ _)
                  | true =>
                    have hIs := isB_of (nm := s1) (tl := s3) (ins := ins) HPV.out hgb
                    rw [← hs00, ← hws] at hIs
                    have hD := Lib.hid (decB_ok HOK.out hIs)
                    rw [hgb] at hgd
                    clear hws hs00 hgb hIs
                    go_wp2_with fail
                    refine hgd.mono ?_
                    rintro e w9 ⟨rfl, hb9⟩
                    obtain ⟨l0, q0, q1, q2, q3, q4, q5, qf⟩ := (hZr.below hb9).zero
                    have hB9 := trans' hBr hb9
                    have hD9 := hDr.below hb9
                    have hWz : W.heap.size < w1.heap.size + 1 := by simpa using hWl
                    have HO9 := Lib.hid (own_block HOO.out (fun j hj => hb9.block j (HOO.out.lt j hj).2))
                    clear hgd c0 c1 c2 c3 c4 c5
                    obtain ⟨c0, c1, c2, c3, c4, c5⟩ := (⟨hD9.dc.c0, hD9.dc.c1, hD9.dc.c2, hD9.dc.c3, hD9.dc.c4, hD9.dc.c5⟩ : _ ∧ _ ∧ _ ∧ _ ∧ _ ∧ _)
                    go_wp2_with fail
                    refine bodyPost_ret (v := .tuple #[.agg #[.string s1, .int .i64 va, .int .i64 vb, .int .i64 vc, .string s3, .slice vs ins.length vc9], .int .i64 0]) (by simp [results, Tryz.results5, go_sem, q0, q1, q2, q3, q4, q5]) rfl ?_
                    unfold DQ
                    rw [hD.out]
                    exact ⟨⟨_, rfl, SI.of_own (own_block HO9.out (fun j hj => same6 _ _ _ _ _ _ j (by have := (HO9.out.lt j hj).1; omega))) (show ins.length ≤ 9223372036854775807 by omega)⟩, B6 hB9 _ _ _ _ _ _⟩
end Dv
end Go.Proofs.YtbhngjhfeejeiaaGreatDoor
