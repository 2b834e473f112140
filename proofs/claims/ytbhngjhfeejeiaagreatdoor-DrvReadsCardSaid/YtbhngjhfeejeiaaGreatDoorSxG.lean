/-
  Walk: the writer's node.
-/
import Derived.Test.YtbhngjhfeejeiaaGreatDoorSxF
namespace Go.Proofs.YtbhngjhfeejeiaaGreatDoor
open Go.RowKit
namespace Sx

theorem keep_cell {W W' : World} {p : Addr} {v : Value} (hb : Below W.heap.size W W') (h : W.cell? p = some v) : W'.cell? p = some v :=
  (hb.cell (World.block_lt_of_cell? W p h)).trans h
theorem below_drewN {B : Nat} {a w : World} (h : Below B a w) (n : Nat) : Below B a (w.drewN n) := ⟨h.os, h.tape, h.output, h.size, h.block⟩
theorem below_grow (w : World) (k : Nat) (os : Array Obj) : Below w.heap.size w (Sort.grow (w.drewN k) os) :=
  ⟨rfl, rfl, rfl, by show w.heap.size ≤ (w.heap ++ os).size; simp, fun i hi => by show (w.heap ++ os)[i]? = w.heap[i]?; rw [Array.getElem?_append_left hi]⟩

/-- what start-up code lays: the words, the powers of ten -/
structure Env (W : World) : Prop where
  pow : Lib.TabIs Tryz.prog W "internal/strconv.uint64pow10" .u64 Lib.pow10Tab
  big : 3 + 1 ≤ W.heap.size
theorem gPow : Tryz.prog.globalNamed "internal/strconv.uint64pow10" = some 3 := by kernel_rfl
theorem Env.low {B : Nat} {W W' : World} (h : Env W) (hB : 3 + 1 ≤ B) (hb : Below B W W') : Env W' :=
  ⟨var?_below hb gPow (by omega) h.pow, Nat.le_trans h.big hb.size⟩
theorem Env.below {W W' : World} (h : Env W) (hb : Below W.heap.size W W') : Env W' := h.low h.big hb
theorem itoa_any (n : Int) (h0 : -9223372036854775808 ≤ n) (h1 : n ≤ 9223372036854775807) (w : World) (hE : Env w) :
    Calls Tryz.prog 27 #[.int .i64 n] w fun e w' => e = .returned (.string ⟨(Lib.itoa n).toArray⟩) ∧ Below w.heap.size w w' :=
  (Tryz.strconv_Itoa n h0 h1 w hE.pow).mono fun e w' ⟨he, k, os, hw⟩ => ⟨he, by subst hw; exact below_grow w k os⟩
def full (n : Nat) : Int := if 65536 < n then 3 else 0
theorem full_tt {n : Nat} (h : 65536 < n) : full n = 3 := by unfold full; rw [if_pos h]
theorem full_ff {n : Nat} (h : ¬ 65536 < n) : full n = 0 := by unfold full; rw [if_neg h]
theorem put_f (W : World) (bw : Nat) (out : List UInt8) (s : ByteArray) (v : Value) (h : WS W bw out 0 v) (hl : out.length + s.size ≤ 1048576) :
    Calls Tryz.prog 54 #[.pointer (some ⟨bw, 0, none⟩), .string s] W fun e W' => e = .returned (.tuple #[]) ∧ (∃ v', WS W' bw (out ++ s.data.toList) (full (out.length + s.size)) v') ∧ Fr W W' bw := put_any W bw out s v h hl

/-- what node does to the writer -/
def ND (W W' : World) (bw : Nat) (out l : List UInt8) : Prop :=
  (∃ o v, WS W' bw o (full (out.length + l.length)) v ∧ (out.length + l.length ≤ 65536 → o = out ++ l)) ∧ Fr W W' bw

theorem size_mk (l : List UInt8) : (ByteArray.mk l.toArray).size = l.length := rfl
theorem itoa_small (n : Nat) (h : ¬ 65536 < n) : (Lib.itoa (n : Int)).length ≤ 21 := Lib.itoa_length_le _ (by omega) (by omega)
abbrev atomB (s : ByteArray) : ByteArray := ⟨(Lib.itoa (s.size : Int)).toArray⟩ ++ ⟨#[58]⟩ ++ s
theorem atom_data (s : ByteArray) : (atomB s).data.toList = enc (.leaf s) := by
  simp [atomB, enc, ByteArray.data_append]
theorem atom_size (s : ByteArray) : (atomB s).size = (enc (.leaf s)).length := by rw [Lib.size_eq, atom_data]
theorem atom_run1 (s : ByteArray) (h : ¬ 65536 < s.size) (W : World) : (Op.stringOp .add ⟨(Lib.itoa (s.size : Int)).toArray⟩ ⟨#[58]⟩).run Tryz.prog W = .ok (.string (⟨(Lib.itoa (s.size : Int)).toArray⟩ ++ ⟨#[58]⟩)) W :=
  run_string_add_sum _ _ _ (by have := itoa_small s.size h; rw [size_mk]; show _ + 1 ≤ _; omega)
theorem atom_run2 (s : ByteArray) (h : ¬ 65536 < s.size) (W : World) : (Op.stringOp .add (⟨(Lib.itoa (s.size : Int)).toArray⟩ ++ ⟨#[58]⟩) s).run Tryz.prog W = .ok (.string (atomB s)) W :=
  run_string_add_sum _ _ _ (by have := itoa_small s.size h; rw [ByteArray.size_append, size_mk]; show _ + 1 + _ ≤ _; omega)
theorem atom_le (s : ByteArray) (h : ¬ 65536 < s.size) : (enc (.leaf s)).length ≤ 65600 := by
  have := itoa_small s.size h
  have := Lib.size_eq s
  simp only [enc, List.length_append, List.length_cons]
  omega
set_option maxHeartbeats 2000000 in
set_option maxRecDepth 100000 in
theorem node_leaf (W : World) (bw : Nat) (out : List UInt8) (s : ByteArray) (v : Value) (deep : Int) (hE : Env W) (h : WS W bw out 0 v) (hl : out.length ≤ 65536) :
    Calls Tryz.prog 40 #[.pointer (some ⟨bw, 0, none⟩), .agg #[.bool true, .string s, .slice none 0 0], .int .i64 deep] W fun e W' => e = .returned (.tuple #[]) ∧ ND W W' bw out (enc (.leaf s)) := by
  have hX : Below W.heap.size W (W.alloc (.cells #[.bool true, .string s, .slice none 0 0] 39)) := (Below.refl _ _).alloc (Nat.le_refl _) _
  have hS := h.keep hX
  have hc0 := hS.c0
  have hc1 := hS.c1
  have hfz := hS.fz
  have hF0 : Fr W (W.alloc (.cells #[.bool true, .string s, .slice none 0 0] 39)) bw := Fr.of_below hX (Nat.le_of_lt h.lt)
  by_cases hs : 65536 < s.size
  · have hN := Lib.hid (full_tt (n := out.length + (enc (.leaf s)).length) (by have := Lib.size_eq s; simp [enc]; omega))
    have hq : decide ((65536 : Int) < s.size) = true := by simp; omega
    go_enter Tryz.func40, Tryz.ntmps40
    go_wp2
    go_end0
    refine ⟨rfl, ⟨_, _, by rw [hN.out]; exact hS.fault 3, fun hle => ?_⟩, hF0.trans fr_fault⟩
    have h1 := hN.out
    unfold full at h1
    rw [if_neg (by omega)] at h1
    cases h1
  · have hE0 := hE.below hX
    have hq : decide ((65536 : Int) < s.size) = false := by simp; omega
    go_enter Tryz.func40, Tryz.ntmps40
    go_wp2_with fail
    have hk1 : (W.alloc (.cells #[.bool true, .string s, .slice none 0 0] 39)).cell? ⟨W.heap.size, 1, none⟩ = some (.string s) := by go_simp
    have s1 := atom_run1 s hs
    have s2 := atom_run2 s hs
    have hle := atom_le s hs
    have hsz := atom_size s
    have hdt := Lib.hid (atom_data s)
    clear h hX
    generalize W.alloc (.cells #[.bool true, .string s, .slice none 0 0] 39) = X at *
    go_region_with (first
      | (go_at_call 27; refine (itoa_any _ (by omega) (by omega) _ (hE0.below (by first | exact Below.refl _ _ | exact below_drewN (Below.refl _ _) _))).mono ?_; rintro e w1 ⟨rfl, hb1⟩; have hb2 : Below X.heap.size X w1 := ⟨hb1.os, hb1.tape, hb1.output, hb1.size, hb1.block⟩; have hk2 := keep_cell hb2 hk1)
      | (go_at_call 54; refine (put_f _ bw out _ v (hS.keep (by assumption)) (by omega)).mono ?_; rintro e w2 ⟨rfl, ⟨v2, hws⟩, hfr2⟩))
    all_goals
      rw [hdt.out, hsz] at hws
      go_end0
      exact ⟨rfl, ⟨_, v2, hws, fun _ => rfl⟩, hF0.trans ((Fr.of_below hb2 (Nat.le_of_lt hS.lt)).trans hfr2)⟩

end Sx
end Go.Proofs.YtbhngjhfeejeiaaGreatDoor
