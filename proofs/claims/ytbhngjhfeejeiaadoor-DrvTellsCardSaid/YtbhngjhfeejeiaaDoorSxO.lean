/-
  Walks: the reference's room and Put.
-/
import Derived.Test.YtbhngjhfeejeiaaDoorSxK
namespace Go.Proofs.YtbhngjhfeejeiaaDoor
open Go.RowKit
namespace Sx

/-- from W to W' nothing below B is written, and of what is there rows of bytes alone -/
structure Fp (W W' : World) (B : Nat) : Prop where
  below : Below B W W'
  block : ∀ k, k < W.heap.size → (∀ cur, W.heap[k]? ≠ some (.cells cur 5 (0, 0))) → W'.heap[k]? = W.heap[k]?
theorem Fp.trans {W W' W'' : World} {B : Nat} (h : Fp W W' B) (g : Fp W' W'' B) : Fp W W'' B := by
  refine ⟨h.below.trans g.below, fun k hk h2 => ?_⟩
  have e := h.block k hk h2
  refine (g.block k (Nat.lt_of_lt_of_le hk h.below.size) ?_).trans e
  rw [e]
  exact h2
theorem Fp.of_below {W W' : World} {B : Nat} (h : Below W.heap.size W W') (hlt : B ≤ W.heap.size) : Fp W W' B := ⟨h.mono hlt, fun k hk _ => h.block k hk⟩
theorem Fp.of_grown {W W' : World} {B n : Nat} {v : Value} {xs : List Value} (hown : W.ownsRow B 5 1 v n xs) (hg : W.grownBy W' v.ownBlock) (hB : B ≤ W.heap.size) : Fp W W' B := by
  refine ⟨(Below.refl B W).grown hg hB (fun k hk => (hown.lt k hk).1), fun k hk h2 => hg.block k hk (fun e => ?_)⟩
  obtain ⟨cur, hcur⟩ := own_u8 hown e.symm
  exact h2 cur hcur
theorem Fp.box {W W' : World} {B k : Nat} {cs : Array Value} (h : Fp W W' B) (hb : W.heap[k]? = some (.cells cs 43 (0, 0))) : W'.heap[k]? = some (.cells cs 43 (0, 0)) := by
  have hk : k < W.heap.size := (Array.getElem?_eq_some_iff.1 hb).1
  exact (h.block k hk (by rw [hb]; intro cur e; cases e)).trans hb
theorem box_cell {W : World} {k : Nat} {x y z : Value} (h : W.heap[k]? = some (.cells #[x, y, z] 43 (0, 0))) : W.cell? ⟨k, 0, none⟩ = some x ∧ W.cell? ⟨k, 1, none⟩ = some y ∧ W.cell? ⟨k, 2, none⟩ = some z := by
  simp [World.cell?, h]

def roomV (v : Value) (n : Nat) : Value := if 65536 < n then .slice none 0 0 else v
theorem roomV_ff {v : Value} {n : Nat} (h : ¬ 65536 < n) : roomV v n = v := by unfold roomV; rw [if_neg h]
theorem roomV_tt {v : Value} {n : Nat} (h : 65536 < n) : roomV v n = .slice none 0 0 := by unfold roomV; rw [if_pos h]
set_option maxHeartbeats 400000 in
theorem room_any (sl : Option Addr) (n cap : Nat) (W : World) : Calls Tryd.prog 62 #[.slice sl n cap] W fun e W' => e = .returned (.tuple #[roomV (.slice sl n cap) n, .int .i64 (full n)]) ∧ Below W.heap.size W W' := by
  by_cases h : 65536 < n
  · have h1 := full_tt h
    have h2 : roomV (.slice sl n cap) n = .slice none 0 0 := by unfold roomV; rw [if_pos h]
    have hq : decide ((65536 : Int) < n) = true := by simp; omega
    rw [h1, h2]
    go_enter Tryd.func62, Tryd.ntmps62
    go_wp2
    refine bodyPost_ret (v := .tuple #[.slice none 0 0, .int .i64 3]) (by simp [results, Tryd.results62, go_sem]) rfl ⟨rfl, Below.refl _ _⟩
  · have h1 := full_ff h
    have h2 : roomV (.slice sl n cap) n = .slice sl n cap := by unfold roomV; rw [if_neg h]
    have hq : decide ((65536 : Int) < n) = false := by simp; omega
    rw [h1, h2]
    go_enter Tryd.func62, Tryd.ntmps62
    go_wp2
    refine bodyPost_ret (v := .tuple #[.slice sl n cap, .int .i64 0]) (by simp [results, Tryd.results62, go_sem]) rfl ⟨rfl, Below.refl _ _⟩

/-- what Put answers -/
def PD (W W' : World) (B : Nat) (out l : List UInt8) (v : Value) : Prop :=
  (out.length + l.length ≤ 65536 → W'.ownsRow B 5 1 v (out ++ l).length (u8s (out ++ l))) ∧ (65536 < out.length + l.length → v = .slice none 0 0) ∧ Fp W W' B

theorem own_str {W : World} {B : Nat} {v : Value} {out : List UInt8} {s : ByteArray} (h : W.ownsRow B 5 1 v (out.length + s.size) (u8s out ++ Lib.strCells s)) : W.ownsRow B 5 1 v (out ++ s.data.toList).length (u8s (out ++ s.data.toList)) := by
  have hlen : out.length + s.size = (out ++ s.data.toList).length := by rw [List.length_append, Lib.size_eq]
  rw [hlen] at h
  rw [u8s_app]
  exact h
theorem own_byte {W : World} {B : Nat} {v : Value} {out : List UInt8} {c : UInt8} (h : W.ownsRow B 5 1 v (out.length + 1) (u8s out ++ [.int .u8 (c.toNat : Int)])) : W.ownsRow B 5 1 v (out ++ [c]).length (u8s (out ++ [c])) := by
  rw [u8s_app, List.length_append]
  exact h

theorem lit_cells (w : World) (x : Value) (e : TypeId) : ∀ (j : Nat) (u : Value), [x][j]? = some u → (w.alloc (.cells #[x] e)).cell? ((⟨w.heap.size, 0, none⟩ : Addr).add j) = some u := by
  intro j u hj
  match j, hj with
  | 0, hj => simp at hj; subst hj; simp [Addr.add]
theorem lit_one (n : Int) : ∀ u ∈ [Value.int .u8 n], u.oneCell' = true := by
  intro u hu
  simp at hu
  subst hu
  rfl

set_option maxHeartbeats 2000000 in
set_option maxRecDepth 100000 in
theorem putr_leaf (W : World) (B : Nat) (out : List UInt8) (s : ByteArray) (v : Value) (deep : Int) (hE : Env W) (hB : B ≤ W.heap.size) (hown : W.ownsRow B 5 1 v out.length (u8s out)) (hl : out.length ≤ 65536) :
    Calls Tryd.prog 39 #[v, .agg #[.bool true, .string s, .slice none 0 0], .int .i64 deep] W fun e W' => ∃ v', e = .returned (.tuple #[v', .int .i64 (full (out.length + (enc (.leaf s)).length))]) ∧ PD W W' B out (enc (.leaf s)) v' := by
  obtain ⟨i0, hi0, hz0, hz1, hz2⟩ := info_parts info_u8
  have hX : Below W.heap.size W (W.alloc (.cells #[.bool true, .string s, .slice none 0 0] 43)) := (Below.refl _ _).alloc (Nat.le_refl _) _
  have hF0 : Fp W (W.alloc (.cells #[.bool true, .string s, .slice none 0 0] 43)) B := Fp.of_below hX hB
  by_cases hs : 65536 < s.size
  · have hN := full_tt (n := out.length + (enc (.leaf s)).length) (by have := Lib.size_eq s; simp [enc]; omega)
    have hq : decide ((65536 : Int) < s.size) = true := by simp; omega
    have hL := Lib.hid (show ¬ out.length + (enc (.leaf s)).length ≤ 65536 by have := Lib.size_eq s; simp [enc]; omega)
    rw [hN]
    go_enter Tryd.func39, Tryd.ntmps39
    go_wp2
    refine bodyPost_ret (v := .tuple #[.slice none 0 0, .int .i64 3]) (by simp [results, Tryd.results39, go_sem]) rfl ⟨_, rfl, fun h => absurd h hL.out, fun _ => rfl, hF0⟩
  · have hE0 := hE.below hX
    have hbox : (W.alloc (.cells #[.bool true, .string s, .slice none 0 0] 43)).heap[W.heap.size]? = some (.cells #[.bool true, .string s, .slice none 0 0] 43 (0, 0)) := heap_alloc_new W _
    have hown0 := hown.alloc (.cells #[.bool true, .string s, .slice none 0 0] 43)
    have hq : decide ((65536 : Int) < s.size) = false := by simp; omega
    have hle := Lib.hid (atom_le s hs)
    have hit := itoa_small s.size hs
    obtain ⟨h0c, h1c, h2c⟩ := box_cell hbox
    go_enter Tryd.func39, Tryd.ntmps39
    go_wp2_with fail
    refine (itoa_any _ (by omega) (by omega) _ hE0).mono ?_
    rintro e w1 ⟨rfl, hb1⟩
    have hF1 := hF0.trans (Fp.of_below hb1 (Nat.le_trans hB hX.size))
    have hbx1 := (Fp.of_below (B := B) hb1 (Nat.le_trans hB hX.size)).box hbox
    have hown1 := own_block hown0 (fun g hg => hb1.block g (hown0.lt g hg).2)
    have hs1 : B ≤ w1.heap.size := Nat.le_trans hB hF1.below.size
    clear hown hown0 hb1 hbox h0c h1c h2c
    go_wp2_with (first
      | (at_builtin; refine Lib.wpList_append_own_string _ rfl _ _ 66 9 rfl B 5 i0 Tryd.underlying66 Tryd.underlying9 hi0 hz0 hz1 hz2 v out.length (u8s out) rfl hown1 ⟨(Lib.itoa s.size).toArray⟩ rfl ?c1 ?c2 ?c3 ?_))
    case c1 => rw [size_mk]; unfold maxLen; omega
    case c2 => rw [size_mk]; omega
    case c3 => exact hs1
    intro v2 w2 hown2 hg2 _
    have hF2 := Fp.of_grown hown1 hg2 hs1
    have hbx2 := hF2.box hbx1
    have hFF2 := hF1.trans hF2
    have hs2 : B ≤ w2.heap.size := Nat.le_trans hB hFF2.below.size
    have hown2' : (w2.alloc (.cells #[.int .u8 58] 5)).ownsRow B 5 1 v2 (out ++ Lib.itoa s.size).length (u8s (out ++ Lib.itoa s.size)) := (own_str hown2).alloc (.cells #[.int .u8 58] 5)
    have hFF3 := hFF2.trans (Fp.of_below ((Below.refl _ _).alloc (Nat.le_refl _) (.cells #[.int .u8 58] 5)) hs2)
    have hbx3 := (Fp.of_below (B := B) ((Below.refl _ w2).alloc (Nat.le_refl _) (.cells #[.int .u8 58] 5)) hs2).box hbx2
    have hl2 : (out ++ Lib.itoa s.size).length ≤ 65600 := by rw [List.length_append]; omega
    clear hown1 hown2 hg2 hF1 hbx1 hF2 hbx2 hFF2
    go_wp2_with (first
      | (at_builtin; refine wpList_append_own _ rfl _ _ 66 rfl B 5 i0 _ 1 1 Tryd.underlying66 hi0 hz0 hz1 hz2 rfl (by decide) v2 _ _ rfl hown2' ⟨w2.heap.size, 0, none⟩ 1 1 [.int .u8 58] rfl rfl (lit_cells _ _ _) (lit_one _) (by unfold maxLen; omega) (by omega) (by simp; omega) ?_))
    intro v4 w4 hown4 hg4 _
    have hF4 := Fp.of_grown hown2' hg4 (by simp; omega)
    have hbx4 := hF4.box hbx3
    have hFF4 := hFF3.trans hF4
    have hs4 : B ≤ w4.heap.size := Nat.le_trans hB hFF4.below.size
    have hown4' : w4.ownsRow B 5 1 v4 (out ++ Lib.itoa s.size ++ [58]).length (u8s (out ++ Lib.itoa s.size ++ [58])) := own_byte (c := 58) (by rw [List.length_append]; exact hown4)
    obtain ⟨h0c, h1c, h2c⟩ := box_cell hbx4
    have hl4 : (out ++ Lib.itoa s.size ++ [58]).length ≤ 65601 := by rw [List.length_append]; show _ + 1 ≤ _; omega
    clear hown2' hown4 hg4 hFF3 hbx3 hF4
    go_wp2_with (first
      | (at_builtin; refine Lib.wpList_append_own_string _ rfl _ _ 66 9 rfl B 5 i0 Tryd.underlying66 Tryd.underlying9 hi0 hz0 hz1 hz2 v4 _ _ rfl hown4' s rfl ?c1 ?c2 ?c3 ?_))
    case c1 => unfold maxLen; omega
    case c2 => omega
    case c3 => exact hs4
    intro v5 w5 hown5 hg5 _
    have hF5 := hFF4.trans (Fp.of_grown hown4' hg5 hs4)
    have hown5' := own_str (out := out ++ (Lib.itoa s.size ++ [58])) (s := s) (by rw [List.length_append, List.length_append]; exact hown5)
    have heq : out ++ (Lib.itoa s.size ++ [58]) ++ s.data.toList = out ++ enc (.leaf s) := by simp [enc]
    rw [heq] at hown5'
    have HO := Lib.hid hown5'
    have hlen : (out ++ enc (.leaf s)).length = out.length + (enc (.leaf s)).length := List.length_append
    rw [hlen] at hown5'
    obtain ⟨sl, cap, rfl⟩ := own_form hown5'
    clear hown4' hown5 hown5' hg5 hFF4 hbx4 h0c h1c h2c heq hlen hl4 hl2
    generalize hnn : out.length + (enc (.leaf s)).length = nn at *
    go_wp2_with fail
    refine (room_any sl nn cap _).mono ?_
    rintro e w6 ⟨rfl, hb6⟩
    go_wp2
    refine bodyPost_ret (v := .tuple #[roomV (.slice sl nn cap) nn, .int .i64 (full nn)]) (by simp [results, Tryd.results39, go_sem]) rfl ⟨roomV (.slice sl nn cap) nn, by rw [hnn], fun hle => ?_, fun _ => roomV_tt (by omega), hF5.trans (Fp.of_below hb6 (Nat.le_trans hB hF5.below.size))⟩
    have hr : roomV (.slice sl nn cap) nn = .slice sl nn cap := by unfold roomV; rw [if_neg (by omega)]
    rw [hr]
    exact own_block HO.out (fun g hg => hb6.block g (HO.out.lt g hg).2)
end Sx
end Go.Proofs.YtbhngjhfeejeiaaDoor
