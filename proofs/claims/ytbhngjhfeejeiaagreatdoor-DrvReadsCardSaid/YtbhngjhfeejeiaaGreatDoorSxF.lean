/-
  Trees and their bytes; the writer's state; the walk of put.
-/
import Derived.Test.YtbhngjhfeejeiaaGreatDoorSxA
import Derived.Test.YtbhngjhfeejeiaaGreatDoorShelf
import Derived.Lib.AppendStr
import Derived.Lib.ItoaLen
namespace Go.Proofs.YtbhngjhfeejeiaaGreatDoor
open Go.RowKit
namespace Sx

inductive T
  | leaf (s : ByteArray)
  | list (ks : List T)
mutual
def enc : T → List UInt8
  | .leaf s => Lib.itoa s.size ++ (58 :: s.data.toList)
  | .list ks => 40 :: (encs ks ++ [41])
def encs : List T → List UInt8
  | [] => []
  | k :: ks => enc k ++ encs ks
end

/-- the value v is the tree t, of at most so many lists within one another, in blocks below B -/
inductive Rep (W : World) (B : Nat) : Nat → T → Value → Prop
  | leaf (h : Nat) (s : ByteArray) : Rep W B h (.leaf s) (.agg #[.bool true, .string s, .slice none 0 0])
  | list (h : Nat) (ks : List T) (sl : Option Addr) (cap : Nat) (x y z : Nat → Value) (hc : ∀ i k, ks[i]? = some k → ∃ b o, sl = some ⟨b, o, none⟩ ∧ b < B ∧ W.cell? ⟨b, o + i * 3, none⟩ = some (x i) ∧ W.cell? ⟨b, o + i * 3 + 1, none⟩ = some (y i) ∧ W.cell? ⟨b, o + i * 3 + 2, none⟩ = some (z i))
      (hr : ∀ i k, ks[i]? = some k → Rep W B h k (.agg #[x i, y i, z i])) : Rep W B (h + 1) (.list ks) (.agg #[.bool false, .string ⟨#[]⟩, .slice sl ks.length cap])
theorem Rep.same {W W' : World} {B : Nat} (hW : ∀ b o, b < B → W'.cell? ⟨b, o, none⟩ = W.cell? ⟨b, o, none⟩) {h : Nat} {t : T} {v : Value} (hr : Rep W B h t v) : Rep W' B h t v := by
  induction hr with
  | leaf h s => exact .leaf h s
  | list h ks sl cap x y z hc _ ih =>
    refine .list h ks sl cap x y z (fun i k hk => ?_) ih
    obtain ⟨b, o, e, hb, h1, h2, h3⟩ := hc i k hk
    exact ⟨b, o, e, hb, (hW _ _ hb).trans h1, (hW _ _ hb).trans h2, (hW _ _ hb).trans h3⟩
theorem Rep.lift {W : World} {B B' : Nat} (hB : B ≤ B') {h : Nat} {t : T} {v : Value} (hr : Rep W B h t v) : Rep W B' h t v := by
  induction hr with
  | leaf h s => exact .leaf h s
  | list h ks sl cap x y z hc _ ih =>
    refine .list h ks sl cap x y z (fun i k hk => ?_) ih
    obtain ⟨b, o, e, hb, h1, h2, h3⟩ := hc i k hk
    exact ⟨b, o, e, Nat.lt_of_lt_of_le hb hB, h1, h2, h3⟩

def u8s (l : List UInt8) : List Value := l.map fun b => Value.int .u8 (b.toNat : Int)
theorem u8s_app (a b : List UInt8) : u8s (a ++ b) = u8s a ++ u8s b := List.map_append
theorem info_u8 : (Tryz.prog.info? 5).map (fun i => (i.zero, i.size, i.bytes)) = some (some (.int .u8 0), 1, 1) := by kernel_rfl

theorem own_block {w w' : World} {B e size n : Nat} {v : Value} {xs : List Value} (h : w.ownsRow B e size v n xs) (hb : ∀ k, v.ownBlock = some k → w'.heap[k]? = w.heap[k]?) : w'.ownsRow B e size v n xs := by
  refine ⟨h.1, ?_⟩
  rcases h.2 with hn | ⟨g, cap, cur, rfl, hg, hgg, rest⟩
  · exact .inl hn
  · exact .inr ⟨g, cap, cur, rfl, hg, by rw [hb g rfl]; exact hgg, rest⟩
/-- the writer: its row of bytes, its fault -/
structure WS (W : World) (bw : Nat) (out : List UInt8) (f : Int) (v : Value) : Prop where
  lt : bw < W.heap.size
  c0 : W.cell? ⟨bw, 0, none⟩ = some v
  c1 : W.cell? ⟨bw, 1, none⟩ = some (.int .i64 f)
  fz : ∀ j, W.frozen? ⟨bw, j, none⟩ = false
  own : W.ownsRow (bw + 1) 5 1 v out.length (u8s out)
/-- from W to W' nothing is written but the writer, rows of bytes, and what lies above the writer as such a row -/
structure Fr (W W' : World) (bw : Nat) : Prop where
  below : Below bw W W'
  block : ∀ k, k < W.heap.size → k ≠ bw → (∀ cur, W.heap[k]? ≠ some (.cells cur 5 (0, 0))) → W'.heap[k]? = W.heap[k]?
theorem Fr.refl (W : World) (bw : Nat) : Fr W W bw := ⟨Below.refl _ _, fun _ _ _ _ => rfl⟩
theorem Fr.trans {W W' W'' : World} {bw : Nat} (h : Fr W W' bw) (g : Fr W' W'' bw) : Fr W W'' bw := by
  refine ⟨h.below.trans g.below, fun k hk h1 h2 => ?_⟩
  have e := h.block k hk h1 h2
  refine (g.block k (Nat.lt_of_lt_of_le hk h.below.size) h1 ?_).trans e
  rw [e]
  exact h2
theorem Fr.of_below {W W' : World} {bw : Nat} (h : Below W.heap.size W W') (hlt : bw ≤ W.heap.size) : Fr W W' bw := ⟨h.mono hlt, fun k hk _ _ => h.block k hk⟩
theorem WS.keep {W W' : World} {bw : Nat} {out : List UInt8} {f : Int} {v : Value} (h : WS W bw out f v) (hb : Below W.heap.size W W') : WS W' bw out f v := by
  obtain ⟨hc, hf⟩ := bcell hb
  refine ⟨Nat.lt_of_lt_of_le h.lt hb.size, (hc _ _ h.lt).trans h.c0, (hc _ _ h.lt).trans h.c1, fun j => (hf _ _ h.lt).trans (h.fz j), ?_⟩
  exact own_block h.own (fun k hk => hb.block k ((h.own.lt k hk).2))
theorem WS.lt2 {W : World} {bw : Nat} {out : List UInt8} {f : Int} {v : Value} (h : WS W bw out f v) : ∀ k, v.ownBlock = some k → bw + 1 ≤ k ∧ k < W.heap.size := fun k hk => h.own.lt k hk


theorem own_form {W : World} {B e size n : Nat} {v : Value} {xs : List Value} (h : W.ownsRow B e size v n xs) : ∃ sl cap, v = .slice sl n cap := by
  rcases h.2 with ⟨rfl, rfl⟩ | ⟨g, cap, cur, rfl, hg, hgg, rest⟩
  · exact ⟨_, _, rfl⟩
  · exact ⟨_, _, rfl⟩
theorem own_u8 {W : World} {B e size n : Nat} {v : Value} {xs : List Value} (h : W.ownsRow B e size v n xs) {k : Nat} (hk : v.ownBlock = some k) : ∃ cur, W.heap[k]? = some (.cells cur e (0, 0)) := by
  rcases h.2 with ⟨rfl, _⟩ | ⟨g, cap, cur, rfl, hg, hgg, rest⟩
  · simp [Value.ownBlock] at hk
  · simp [Value.ownBlock] at hk
    subst hk
    exact ⟨cur, hgg⟩
theorem put_world {W W1 : World} {bw : Nat} {out : List UInt8} {s : ByteArray} {v v' : Value} (h : WS W bw out 0 v) (hown : W1.ownsRow (bw + 1) 5 1 v' (out.length + s.size) (u8s out ++ Lib.strCells s)) (hg : W.grownBy W1 v.ownBlock) :
    WS (W1.setCell ⟨bw, 0, none⟩ v') bw (out ++ s.data.toList) 0 v' ∧ Fr W (W1.setCell ⟨bw, 0, none⟩ v') bw := by
  have hne : some bw ≠ v.ownBlock := fun e => by have := (h.own.lt bw e.symm).1; omega
  have hblk := hg.block bw h.lt hne
  have hc : ∀ o, W1.cell? ⟨bw, o, none⟩ = W.cell? ⟨bw, o, none⟩ := fun o => World.cell?_of_block hblk
  have hlen : out.length + s.size = (out ++ s.data.toList).length := by rw [List.length_append, Lib.size_eq]
  rw [hlen] at hown
  have hne' : ∀ k, v'.ownBlock = some k → bw + 1 ≤ k := fun k hk => (hown.lt k hk).1
  refine ⟨⟨by have := h.lt; have := hg.size; simp [World.setCell]; omega, World.cell?_setCell_same _ _ _ ((hc 0).trans h.c0), ?_, fun j => ?_, ?_⟩, ⟨?_, fun k hk h1 h2 => ?_⟩⟩
  · rw [World.cell?_setCell_other _ _ _ _ (by simp)]; exact (hc 1).trans h.c1
  · rw [World.frozen?_setCell]; exact (World.frozen?_of_block hblk).trans (h.fz j)
  · have e : u8s (out ++ s.data.toList) = u8s out ++ Lib.strCells s := u8s_app _ _
    rw [e]
    exact own_block hown (fun k hk => Below.heap_setCell _ _ _ _ (by have := hne' k hk; show k ≠ bw; omega))
  · exact ((Below.refl bw W).grown hg (Nat.le_of_lt h.lt) (fun k hk => by have := (h.own.lt k hk).1; omega)).setCell (Nat.le_refl _) _
  · refine (Below.heap_setCell _ _ _ _ h1).trans (hg.block k hk (fun e => ?_))
    obtain ⟨cur, hcur⟩ := own_u8 h.own e.symm
    exact h2 cur hcur
theorem WS.fault {W : World} {bw : Nat} {out : List UInt8} {v : Value} {f : Int} (h : WS W bw out f v) (f' : Int) : WS (W.setCell ⟨bw, 1, none⟩ (.int .i64 f')) bw out f' v := by
  refine ⟨by simpa [World.setCell] using h.lt, ?_, World.cell?_setCell_same _ _ _ h.c1, fun j => ?_, ?_⟩
  · rw [World.cell?_setCell_other _ _ _ _ (by simp)]; exact h.c0
  · rw [World.frozen?_setCell]; exact h.fz j
  · exact own_block h.own (fun k hk => Below.heap_setCell _ _ _ _ (by have := (h.own.lt k hk).1; show k ≠ bw; omega))
theorem fr_fault {W : World} {bw : Nat} {u : Value} : Fr W (W.setCell ⟨bw, 1, none⟩ u) bw :=
  ⟨(Below.refl bw W).setCell (p := ⟨bw, 1, none⟩) (Nat.le_refl _) _, fun _ _ h1 _ => Below.heap_setCell _ _ _ _ h1⟩

set_option maxHeartbeats 1000000 in
set_option maxRecDepth 100000 in
theorem put_any (W : World) (bw : Nat) (out : List UInt8) (s : ByteArray) (v : Value) (h : WS W bw out 0 v) (hl : out.length + s.size ≤ 1048576) :
    Calls Tryz.prog 54 #[.pointer (some ⟨bw, 0, none⟩), .string s] W fun e W' => e = .returned (.tuple #[]) ∧ (∃ v', WS W' bw (out ++ s.data.toList) (if 65536 < out.length + s.size then 3 else 0) v') ∧ Fr W W' bw := by
  obtain ⟨i0, hi0, hz0, hz1, hz2⟩ := info_parts info_u8
  have hc0 := h.c0
  go_enter Tryz.func54, Tryz.ntmps54
  go_wp2_with (first
    | (at_builtin; refine Lib.wpList_append_own_string _ rfl _ _ 78 9 rfl (bw + 1) 5 i0 Tryz.underlying78 Tryz.underlying9 hi0 hz0 hz1 hz2 v out.length (u8s out) rfl h.own s rfl ?c1 ?c2 ?c3 ?_))
  case c1 => unfold maxLen; omega
  case c2 => omega
  case c3 => have := h.lt; omega
  intro v' W1 hown hg _
  obtain ⟨hws, hfr⟩ := put_world h hown hg
  clear hc0
  have hne : some bw ≠ v.ownBlock := fun e => by have := (h.own.lt bw e.symm).1; omega
  have hblk := hg.block bw h.lt hne
  have hd0 : W1.cell? ⟨bw, 0, none⟩ = some v := (World.cell?_of_block hblk).trans h.c0
  have hfz : ∀ o, W1.frozen? ⟨bw, o, none⟩ = false := fun o => (World.frozen?_of_block hblk).trans (h.fz o)
  have hd1 : W1.cell? ⟨bw, 1, none⟩ = some (.int .i64 0) := (World.cell?_of_block hblk).trans h.c1
  have hlt1 : bw < W1.heap.size := Nat.lt_of_lt_of_le h.lt hg.size
  obtain ⟨sl, cap, rfl⟩ := own_form hown
  have HW := Lib.hid hws
  have HF := Lib.hid hfr
  clear hws hfr hown hg h hne hblk
  by_cases hL : 65536 < out.length + s.size
  · have hq : decide ((65536 : Int) < (out.length : Int) + s.size) = true := by simp; omega
    go_wp2
    go_end0
    exact ⟨rfl, ⟨_, HW.out.fault 3⟩, HF.out.trans fr_fault⟩
  · have hq : decide ((65536 : Int) < (out.length : Int) + s.size) = false := by simp; omega
    go_wp2
    go_end0
    exact ⟨rfl, ⟨_, HW.out⟩, HF.out⟩
end Sx
end Go.Proofs.YtbhngjhfeejeiaaGreatDoor
