/-
  Walk: the reference's Same of two builds.
-/
import Derived.Test.YtbhngjhfeejeiaaGreatDoorDvG
import Derived.Test.YtbhngjhfeejeiaaGreatDoorVs
import Derived.Laws.StructEq
namespace Go.Proofs.YtbhngjhfeejeiaaGreatDoor
open Go.RowKit Sx
namespace Dv

theorem eqVd (a b c x y z : Int) (w : World) : (Op.equalIn 9999 24 (.agg #[.int .i64 a, .int .i64 b, .int .i64 c]) (.agg #[.int .i64 x, .int .i64 y, .int .i64 z])).run Tryz.prog w = .ok (a == x && (b == y && c == z)) w := by
  obtain ⟨i, hi, -⟩ := info_parts Vs.info_int
  rw [show (9999 : Nat) = 9998 + 1 from rfl, run_equalIn_array w 9998 _ _ Tryz.underlying24 hi, Vs.size_int]
  simp only [List.range, List.range.loop, Op.eqItems]
  by_cases h1 : a = x <;> by_cases h2 : b = y <;> by_cases h3 : c = z <;> simp [go_sem, part, Tryz.isAgg3, h1, h2, h3]
def eqPk (s t : ByteArray) (a b c x y z : Int) : Bool := s.toList == t.toList && (a == x && (b == y && c == z))
theorem eqP (s t : ByteArray) (a b c x y z : Int) (w : World) : (Op.equalIn 10000 26 (.agg #[.string s, .int .i64 a, .int .i64 b, .int .i64 c]) (.agg #[.string t, .int .i64 x, .int .i64 y, .int .i64 z])).run Tryz.prog w = .ok (eqPk s t a b c x y z) w := by
  rw [show (10000 : Nat) = 9999 + 1 from rfl, run_equalIn_struct w 9999 _ _ _ (by simp only [Program.fieldsOf, Tryz.underlying26]) (by kernel_rfl)]
  simp only [Program.fieldsOf, Tryz.underlying26]
  unfold eqPk
  cases h1 : s.toList == t.toList <;> cases h2 : (a == x && (b == y && c == z)) <;> simp [go_sem, part, eqVd, h1, h2, Tryz.isAgg9, Tryz.isAgg24]
def eqIn (s t p q : ByteArray) : Bool := s.toList == p.toList && t.toList == q.toList
theorem eqI (s t p q : ByteArray) (w : World) : (Op.equalIn 10000 48 (.agg #[.string s, .string t]) (.agg #[.string p, .string q])).run Tryz.prog w = .ok (eqIn s t p q) w := by
  rw [show (10000 : Nat) = 9999 + 1 from rfl, run_equalIn_struct w 9999 _ _ _ (by simp only [Program.fieldsOf, Tryz.underlying48]) (by kernel_rfl)]
  simp only [Program.fieldsOf, Tryz.underlying48]
  unfold eqIn
  cases h1 : s.toList == p.toList <;> cases h2 : t.toList == q.toList <;> simp [go_sem, part, h1, h2, Tryz.isAgg9]

def eqD (d e : D) : Bool := eqPk d.name e.name d.a d.b d.c e.a e.b e.c && (d.tool.toList == e.tool.toList && decide (d.ins = e.ins))
theorem toList_inj {a b : ByteArray} (h : a.toList = b.toList) : a = b := by
  rw [ByteArray.toList_eq, ByteArray.toList_eq] at h
  exact ByteArray.ext (Array.toList_inj.1 h)
theorem eqD_iff (d e : D) : eqD d e = true ↔ d = e := by
  constructor
  · intro h
    obtain ⟨dn, da, db, dc, dt, di⟩ := d
    obtain ⟨en, ea, eb, ec, et, ei⟩ := e
    simp only [eqD, eqPk, Bool.and_eq_true, beq_iff_eq, decide_eq_true_eq] at h
    obtain ⟨⟨h1, h2, h3, h4⟩, h5, h6⟩ := h
    rw [toList_inj h1, h2, h3, h4, toList_inj h5, h6]
  · rintro rfl
    simp [eqD, eqPk]
theorem eqD_pk {d e : D} (h : eqPk d.name e.name d.a d.b d.c e.a e.b e.c = false) : eqD d e = false := by simp [eqD, h]
theorem eqD_tl {d e : D} (h : d.tool ≠ e.tool) : eqD d e = false := by
  cases he : eqD d e
  · rfl
  · exact absurd (congrArg D.tool ((eqD_iff d e).1 he)) h
theorem eqD_ins {d e : D} (h : d.ins ≠ e.ins) : eqD d e = false := by
  cases he : eqD d e
  · rfl
  · exact absurd (congrArg D.ins ((eqD_iff d e).1 he)) h
theorem eqD_tt {d e : D} (h1 : eqPk d.name e.name d.a d.b d.c e.a e.b e.c = true) (h2 : d.tool = e.tool) (h3 : d.ins = e.ins) : eqD d e = true := by
  unfold eqD
  rw [h1, seq_tt h2, decide_eq_true h3]
  rfl
theorem eqIn_tt {x y : ByteArray × ByteArray} (h : x = y) : eqIn x.1 x.2 y.1 y.2 = true := by subst h; simp [eqIn]
theorem eqIn_ff {x y : ByteArray × ByteArray} (h : x ≠ y) : eqIn x.1 x.2 y.1 y.2 = false := by
  cases he : eqIn x.1 x.2 y.1 y.2
  · rfl
  · simp only [eqIn, Bool.and_eq_true, beq_iff_eq] at he
    exact absurd (Prod.ext (toList_inj he.1) (toList_inj he.2)) h
theorem take_snoc {α : Type} {l m : List α} {k : Nat} {x y : α} (h : l.take k = m.take k) (hx : l[k]? = some x) (hy : m[k]? = some y) (he : x = y) : l.take (k + 1) = m.take (k + 1) := by
  rw [List.take_add_one, List.take_add_one, hx, hy, h, he]
theorem guP : Tryz.prog.eqGuardType Tryz.prog.depth 26 = false := by kernel_rfl
theorem guI : Tryz.prog.eqGuardType Tryz.prog.depth 48 = false := by kernel_rfl
attribute [local go_sem high] eqP eqI
attribute [local go_sem] guP guI

set_option maxHeartbeats 2000000 in
set_option maxRecDepth 100000 in
theorem same18_any (d e : D) (v u : Value) (W : World) (hS : SI W v d.ins) (hT : SI W u e.ins) :
    Calls Tryz.prog 7 #[DV d v, DV e u] W fun r W' => r = .returned (.bool (eqD d e)) ∧ Below W.heap.size W W' := by
  have hX1 := (Below.refl W.heap.size W).alloc (Nat.le_refl _) (DO d v)
  have hX2 : Below W.heap.size W ((W.alloc (DO d v)).alloc (DO e u)) := hX1.alloc (by simp) (DO e u)
  have hC := (DC.new W d v).below ((Below.refl _ _).alloc (Nat.le_refl _) (DO e u))
  have hD := DC.new (W.alloc (DO d v)) e u
  rw [show (W.alloc (DO d v)).heap.size = W.heap.size + 1 by simp] at hD
  obtain ⟨sl, cap, rfl, hlen, hf⟩ := hS
  obtain ⟨sm, caq, rfl, hlem, hg⟩ := hT
  have HF := Lib.hid hf
  have HG := Lib.hid hg
  obtain ⟨lt1, c0, c1, c2, c3, c4, c5⟩ := hC
  obtain ⟨lt2, d0, d1, d2, d3, d4, d5⟩ := hD
  clear hf hg
  cases hq : eqPk d.name e.name d.a d.b d.c e.a e.b e.c
  · have hx := Lib.hid (eqD_pk hq)
    go_enter Tryz.func7, Tryz.ntmps7
    go_wp2_with fail
    go_ret
    exact ⟨Sx.ret_bool hx.out.symm, hX2⟩
  · have HQ := Lib.hid hq
    by_cases ht : d.tool = e.tool
    rotate_left
    · have hx := Lib.hid (eqD_tl ht)
      have i1 := seq_ff ht
      have i2 := sne_tt ht
      clear ht
      go_enter Tryz.func7, Tryz.ntmps7
      go_wp2_with fail
      go_ret
      exact ⟨Sx.ret_bool hx.out.symm, hX2⟩
    · have i1 := seq_tt ht
      have i2 := sne_ff ht
      have HT := Lib.hid ht
      clear ht
      by_cases hl : d.ins.length = e.ins.length
      rotate_left
      · have hx := Lib.hid (eqD_ins (d := d) (e := e) (fun h => hl (by rw [h])))
        have i3 : ((d.ins.length : Int) == e.ins.length) = false := by rw [beq_eq_false_iff_ne]; omega
        have i4 : ((d.ins.length : Int) != e.ins.length) = true := by rw [bne_iff_ne]; omega
        clear hl
        go_enter Tryz.func7, Tryz.ntmps7
        go_wp2_with fail
        go_ret
        exact ⟨Sx.ret_bool hx.out.symm, hX2⟩
      · have HL := Lib.hid hl
        have i3 : ((d.ins.length : Int) == e.ins.length) = true := by rw [beq_iff_eq]; omega
        have i4 : ((d.ins.length : Int) != e.ins.length) = false := by rw [bne_eq_false_iff_eq]; omega
        clear hl
        go_enter Tryz.func7, Tryz.ntmps7
        go_wp2_with fail
        go_loopw [5, 30] (fun _ i wr => ∃ k : Nat, k ≤ d.ins.length ∧ i = .int .i64 k ∧ d.ins.take k = e.ins.take k ∧ Below ((W.alloc (DO d (.slice sl d.ins.length cap))).alloc (DO e (.slice sm e.ins.length caq))).heap.size ((W.alloc (DO d (.slice sl d.ins.length cap))).alloc (DO e (.slice sm e.ins.length caq))) wr) (fun _ i _ => d.ins.length - (intOf i).toNat)
        case atStart => exact ⟨0, Nat.zero_le _, rfl, rfl, Below.refl _ _⟩
        case round =>
          obtain ⟨k, hk, rfl, htk, hb⟩ := hrel
          have HK := Lib.hid htk
          have hB := trans' hX2 hb
          have e5 := keep_cell hb c5
          have f5 := keep_cell hb d5
          clear htk c0 c1 c2 c3 c4 c5 d0 d1 d2 d3 d4 d5 hX1 i3 i4
          by_cases hlt : k < d.ins.length
          · obtain ⟨x, hx⟩ : ∃ x, d.ins[k]? = some x := ⟨d.ins[k], List.getElem?_eq_getElem hlt⟩
            have hlt2 : k < e.ins.length := by rw [← HL.out]; exact hlt
            obtain ⟨y, hy⟩ : ∃ y, e.ins[k]? = some y := ⟨e.ins[k], List.getElem?_eq_getElem hlt2⟩
            obtain ⟨b, o, rfl, hbl, g1, g2⟩ := HF.out k x hx
            obtain ⟨b', o', rfl, hbl', g1', g2'⟩ := HG.out k y hy
            have k1 := (hB.cell (p := ⟨b, o + k * 2, none⟩) hbl).trans g1
            have k2 := (hB.cell (p := ⟨b, o + k * 2 + 1, none⟩) hbl).trans g2
            have k3 := (hB.cell (p := ⟨b', o' + k * 2, none⟩) hbl').trans g1'
            have k4 := (hB.cell (p := ⟨b', o' + k * 2 + 1, none⟩) hbl').trans g2'
            have j1 : (k : Int) < e.ins.length := by omega
            have HX := Lib.hid hx
            have HY := Lib.hid hy
            clear g1 g2 g1' g2' hx hy
            by_cases he : x = y
            · have hi := eqIn_tt he
              have HN := Lib.hid (take_snoc HK.out HX.out HY.out he)
              clear he
              go_wp2_with fail
              go_quiet (fail)
              go_wp2_with fail
              go_roundw
              case rel => exact ⟨k + 1, by omega, by go_num, HN.out, below_drewN hb _⟩
              case measure => simp [intOf]; omega
            · have hi := eqIn_ff he
              have hx := Lib.hid (eqD_ins (d := d) (e := e) (fun h => he (by
                have h1 := HX.out
                rw [h, HY.out] at h1
                exact (Option.some.inj h1).symm)))
              clear he
              go_wp2_with fail
              go_quiet (fail)
              go_wp2_with fail
              go_ret
              exact ⟨Sx.ret_bool hx.out.symm, below_drewN hB _⟩
          · obtain rfl : k = d.ins.length := by omega
            have hx := Lib.hid (eqD_tt HQ.out HT.out (by
              have h := HK.out
              rw [List.take_length, HL.out, List.take_length] at h
              exact h))
            go_wp2_with fail
            go_ret
            exact ⟨Sx.ret_bool hx.out.symm, hB⟩
end Dv
end Go.Proofs.YtbhngjhfeejeiaaGreatDoor
