/-
  Walks: the reference's room and Put.
-/
import Derived.Test.YtbhngjhfeejeiaaGreatDoorSxK
namespace Go.Proofs.YtbhngjhfeejeiaaGreatDoor
open Go.RowKit
namespace Sx

/-- from W to W' nothing below B is written, and of what is there rows of bytes alone -/
structure Fp (W W' : World) (B : Nat) : Prop where
  below : Below B W W'
  block : ∀ k, k < W.heap.size → (∀ cur, W.heap[k]? ≠ some (.cells cur 5 (0, 0))) → W'.heap[k]? = W.heap[k]?
theorem Fp.trans {W W' W'' : World} {B : Nat} (h : Fp W W' B) (g : Fp W' W'' B) : Fp W W'' B := by
  refine ⟨h.below.trans g.below, fun k hk h2 => ?_⟩
  have e := h.block k hk h2
  refine (g.block k (Nat.lt_of_lt_of_le hk h.below.size) ?_).trans e
  rw [e]
  exact h2
theorem Fp.of_below {W W' : World} {B : Nat} (h : Below W.heap.size W W') (hlt : B ≤ W.heap.size) : Fp W W' B := ⟨h.mono hlt, fun k hk _ => h.block k hk⟩
theorem Fp.of_grown {W W' : World} {B n : Nat} {v : Value} {xs : List Value} (hown : W.ownsRow B 5 1 v n xs) (hg : W.grownBy W' v.ownBlock) (hB : B ≤ W.heap.size) : Fp W W' B := by
  refine ⟨(Below.refl B W).grown hg hB (fun k hk => (hown.lt k hk).1), fun k hk h2 => hg.block k hk (fun e => ?_)⟩
  obtain ⟨cur, hcur⟩ := own_u8 hown e.symm
  exact h2 cur hcur
theorem Fp.box {W W' : World} {B k : Nat} {cs : Array Value} (h : Fp W W' B) (hb : W.heap[k]? = some (.cells cs 39 (0, 0))) : W'.heap[k]? = some (.cells cs 39 (0, 0)) := by
  have hk : k < W.heap.size := (Array.getElem?_eq_some_iff.1 hb).1
  exact (h.block k hk (by rw [hb]; intro cur e; cases e)).trans hb
theorem box_cell {W : World} {k : Nat} {x y z : Value} (h : W.heap[k]? = some (.cells #[x, y, z] 39 (0, 0))) : W.cell? ⟨k, 0, none⟩ = some x ∧ W.cell? ⟨k, 1, none⟩ = some y ∧ W.cell? ⟨k, 2, none⟩ = some z := by
  simp [World.cell?, h]

def roomV (v : Value) (n : Nat) : Value := if 65536 < n then .slice none 0 0 else v
theorem roomV_ff {v : Value} {n : Nat} (h : ¬ 65536 < n) : roomV v n = v := by unfold roomV; rw [if_neg h]
theorem roomV_tt {v : Value} {n : Nat} (h : 65536 < n) : roomV v n = .slice none 0 0 := by unfold roomV; rw [if_pos h]
/-- what Put answers -/
def PD (W W' : World) (B : Nat) (out l : List UInt8) (v : Value) : Prop :=
  (out.length + l.length ≤ 65536 → W'.ownsRow B 5 1 v (out ++ l).length (u8s (out ++ l))) ∧ (65536 < out.length + l.length → v = .slice none 0 0) ∧ Fp W W' B

theorem own_str {W : World} {B : Nat} {v : Value} {out : List UInt8} {s : ByteArray} (h : W.ownsRow B 5 1 v (out.length + s.size) (u8s out ++ Lib.strCells s)) : W.ownsRow B 5 1 v (out ++ s.data.toList).length (u8s (out ++ s.data.toList)) := by
  have hlen : out.length + s.size = (out ++ s.data.toList).length := by rw [List.length_append, Lib.size_eq]
  rw [hlen] at h
  rw [u8s_app]
  exact h
theorem own_byte {W : World} {B : Nat} {v : Value} {out : List UInt8} {c : UInt8} (h : W.ownsRow B 5 1 v (out.length + 1) (u8s out ++ [.int .u8 (c.toNat : Int)])) : W.ownsRow B 5 1 v (out ++ [c]).length (u8s (out ++ [c])) := by
  rw [u8s_app, List.length_append]
  exact h

theorem lit_cells (w : World) (x : Value) (e : TypeId) : ∀ (j : Nat) (u : Value), [x][j]? = some u → (w.alloc (.cells #[x] e)).cell? ((⟨w.heap.size, 0, none⟩ : Addr).add j) = some u := by
  intro j u hj
  match j, hj with
  | 0, hj => simp at hj; subst hj; simp [Addr.add]
theorem lit_one (n : Int) : ∀ u ∈ [Value.int .u8 n], u.oneCell' = true := by
  intro u hu
  simp at hu
  subst hu
  rfl

end Sx
end Go.Proofs.YtbhngjhfeejeiaaGreatDoor
