/-
  The reader's state, and trees in a set of blocks.
-/
import Derived.Test.YtbhngjhfeejeiaaGreatDoorSxRP
import Derived.Test.YtbhngjhfeejeiaaGreatDoorSxK
import Derived.Deep.AppendLies
import Derived.Deep.RegionHeld3
import Derived.Deep.CutBlock
import Derived.Deep.DeepCutAuto
namespace Go.Proofs.YtbhngjhfeejeiaaGreatDoor
open Go.RowKit
namespace Sx

/-- the value v is the tree t, of at most so many lists within one another, in blocks of the set S -/
inductive RepS (W : World) (S : Nat → Prop) : Nat → T → Value → Prop
  | leaf (h : Nat) (s : ByteArray) : RepS W S h (.leaf s) (.agg #[.bool true, .string s, .slice none 0 0])
  | list (h : Nat) (ks : List T) (sl : Option Addr) (cap : Nat) (x y z : Nat → Value) (hcap : ks.length ≤ cap) (hc : ∀ i k, ks[i]? = some k → ∃ b o, sl = some ⟨b, o, none⟩ ∧ S b ∧ W.cell? ⟨b, o + i * 3, none⟩ = some (x i) ∧ W.cell? ⟨b, o + i * 3 + 1, none⟩ = some (y i) ∧ W.cell? ⟨b, o + i * 3 + 2, none⟩ = some (z i))
      (hr : ∀ i k, ks[i]? = some k → RepS W S h k (.agg #[x i, y i, z i])) : RepS W S (h + 1) (.list ks) (.agg #[.bool false, .string ⟨#[]⟩, .slice sl ks.length cap])
theorem RepS.same {W W' : World} {S : Nat → Prop} (hW : ∀ b o, S b → W'.cell? ⟨b, o, none⟩ = W.cell? ⟨b, o, none⟩) {h : Nat} {t : T} {v : Value} (hr : RepS W S h t v) : RepS W' S h t v := by
  induction hr with
  | leaf h s => exact .leaf h s
  | list h ks sl cap x y z hcap hc _ ih =>
    refine .list h ks sl cap x y z hcap (fun i k hk => ?_) ih
    obtain ⟨b, o, e, hb, h1, h2, h3⟩ := hc i k hk
    exact ⟨b, o, e, hb, (hW _ _ hb).trans h1, (hW _ _ hb).trans h2, (hW _ _ hb).trans h3⟩
theorem RepS.sub {W : World} {S S' : Nat → Prop} (hS : ∀ b, S b → S' b) {h : Nat} {t : T} {v : Value} (hr : RepS W S h t v) : RepS W S' h t v := by
  induction hr with
  | leaf h s => exact .leaf h s
  | list h ks sl cap x y z hcap hc _ ih =>
    refine .list h ks sl cap x y z hcap (fun i k hk => ?_) ih
    obtain ⟨b, o, e, hb, h1, h2, h3⟩ := hc i k hk
    exact ⟨b, o, e, hS _ hb, h1, h2, h3⟩
theorem RepS.rep {W : World} {S : Nat → Prop} {B : Nat} (hS : ∀ b, S b → b < B) {h : Nat} {t : T} {v : Value} (hr : RepS W S h t v) : Rep W B h t v := by
  induction hr with
  | leaf h s => exact .leaf h s
  | list h ks sl cap x y z hcap hc _ ih =>
    refine .list h ks sl cap x y z (fun i k hk => ?_) ih
    obtain ⟨b, o, e, hb, h1, h2, h3⟩ := hc i k hk
    exact ⟨b, o, e, hS _ hb, h1, h2, h3⟩
theorem RepS.more {W : World} {S : Nat → Prop} {h : Nat} {t : T} {v : Value} (hr : RepS W S h t v) : RepS W S (h + 1) t v := by
  induction hr with
  | leaf h s => exact .leaf _ s
  | list h ks sl cap x y z hcap hc _ ih => exact .list _ ks sl cap x y z hcap hc ih
theorem RepS.form {W : World} {S : Nat → Prop} {h : Nat} {t : T} {v : Value} (hr : RepS W S h t v) : ∃ x y z, v = .agg #[x, y, z] := by
  cases hr with
  | leaf _ s => exact ⟨_, _, _, rfl⟩
  | list _ ks sl cap x y z hcap hc hr => exact ⟨_, _, _, rfl⟩
theorem RepS.one {W : World} {S : Nat → Prop} {h : Nat} {t : T} {x y z : Value} (hr : RepS W S h t (.agg #[x, y, z])) : x.oneCell' = true ∧ y.oneCell' = true ∧ z.oneCell' = true := by
  cases hr with
  | leaf _ s => exact ⟨rfl, rfl, rfl⟩
  | list _ ks sl cap x y z hcap hc hr => exact ⟨rfl, rfl, rfl⟩
theorem RepS.room {W : World} {S : Nat → Prop} {h : Nat} {t : T} {x y : Value} {sl : Option Addr} {n cap : Nat} (hr : RepS W S h t (.agg #[x, y, .slice sl n cap])) : n ≤ cap := by
  cases hr with
  | leaf _ s => exact Nat.le_refl _
  | list _ ks sl cap x y z hcap hc hr => exact hcap
theorem RepS.nil (W : World) (S : Nat → Prop) (h : Nat) : RepS W S (h + 1) (.list []) (.agg #[.bool false, .string ⟨#[]⟩, .slice none 0 0]) :=
  .list h [] none 0 (fun _ => .nilIface) (fun _ => .nilIface) (fun _ => .nilIface) (Nat.le_refl _) (fun i k hk => by simp at hk) (fun i k hk => by simp at hk)

/-- a reader: its text, its place, its fault -/
structure RS (W : World) (b : Nat) (s : ByteArray) (m : Nat) (f : Int) : Prop where
  lt : b < W.heap.size
  c0 : W.cell? ⟨b, 0, none⟩ = some (.string s)
  c1 : W.cell? ⟨b, 1, none⟩ = some (.int .i64 m)
  c2 : W.cell? ⟨b, 2, none⟩ = some (.int .i64 f)
  fz : ∀ j, W.frozen? ⟨b, j, none⟩ = false
theorem RS.keep {W W' : World} {b : Nat} {s : ByteArray} {m : Nat} {f : Int} (h : RS W b s m f) (hb : Below W.heap.size W W') : RS W' b s m f := by
  obtain ⟨hc, hf⟩ := bcell hb
  exact ⟨Nat.lt_of_lt_of_le h.lt hb.size, (hc _ _ h.lt).trans h.c0, (hc _ _ h.lt).trans h.c1, (hc _ _ h.lt).trans h.c2, fun j => (hf _ _ h.lt).trans (h.fz j)⟩
theorem RS.same {W W' : World} {b : Nat} {s : ByteArray} {m : Nat} {f : Int} (h : RS W b s m f) (hs : W.heap.size ≤ W'.heap.size) (hb : W'.heap[b]? = W.heap[b]?) : RS W' b s m f :=
  ⟨Nat.lt_of_lt_of_le h.lt hs, (World.cell?_of_block hb).trans h.c0, (World.cell?_of_block hb).trans h.c1, (World.cell?_of_block hb).trans h.c2, fun j => (World.frozen?_of_block hb).trans (h.fz j)⟩
theorem RS.move {W : World} {b : Nat} {s : ByteArray} {m : Nat} {f : Int} (h : RS W b s m f) (m' : Nat) : RS (W.setCell ⟨b, 1, none⟩ (.int .i64 m')) b s m' f := by
  refine ⟨by simpa [World.setCell] using h.lt, ?_, World.cell?_setCell_same _ _ _ h.c1, ?_, fun j => ?_⟩
  · rw [World.cell?_setCell_other _ _ _ _ (by simp)]; exact h.c0
  · rw [World.cell?_setCell_other _ _ _ _ (by simp)]; exact h.c2
  · rw [World.frozen?_setCell]; exact h.fz j
theorem RS.fault {W : World} {b : Nat} {s : ByteArray} {m : Nat} {f : Int} (h : RS W b s m f) (f' : Int) : RS (W.setCell ⟨b, 2, none⟩ (.int .i64 f')) b s m f' := by
  refine ⟨by simpa [World.setCell] using h.lt, ?_, ?_, World.cell?_setCell_same _ _ _ h.c2, fun j => ?_⟩
  · rw [World.cell?_setCell_other _ _ _ _ (by simp)]; exact h.c0
  · rw [World.cell?_setCell_other _ _ _ _ (by simp)]; exact h.c1
  · rw [World.frozen?_setCell]; exact h.fz j
/-- a store elsewhere -/
theorem RS.far {W : World} {b : Nat} {s : ByteArray} {m : Nat} {f : Int} (h : RS W b s m f) (p : Addr) (hp : b ≠ p.block) (v : Value) : RS (W.setCell p v) b s m f :=
  h.same (by simp [World.setCell]) (Below.heap_setCell _ _ _ _ hp)

/-- from W to W' nothing that was there is written but block b -/
structure Fq (W W' : World) (b : Nat) : Prop where
  below : Below b W W'
  block : ∀ k, k < W.heap.size → k ≠ b → W'.heap[k]? = W.heap[k]?
theorem Fq.refl (W : World) (b : Nat) : Fq W W b := ⟨Below.refl _ _, fun _ _ _ => rfl⟩
theorem Fq.trans {W W' W'' : World} {b : Nat} (h : Fq W W' b) (g : Fq W' W'' b) : Fq W W'' b :=
  ⟨h.below.trans g.below, fun k hk h1 => (g.block k (Nat.lt_of_lt_of_le hk h.below.size) h1).trans (h.block k hk h1)⟩
theorem Fq.of_below {W W' : World} {b : Nat} (h : Below W.heap.size W W') (hlt : b ≤ W.heap.size) : Fq W W' b := ⟨h.mono hlt, fun k hk _ => h.block k hk⟩
theorem Fq.step {W W' W'' : World} {b : Nat} (h : Fq W W' b) (hb : b < W.heap.size) (g : Below W'.heap.size W' W'') : Fq W W'' b :=
  h.trans (Fq.of_below g (Nat.le_trans (Nat.le_of_lt hb) h.below.size))
theorem Fq.set {W W' : World} {b : Nat} (h : Fq W W' b) (j : Nat) (v : Value) : Fq W (W'.setCell ⟨b, j, none⟩ v) b :=
  ⟨h.below.setCell (p := ⟨b, j, none⟩) (Nat.le_refl _) _, fun k hk h1 => (Below.heap_setCell _ _ _ _ h1).trans (h.block k hk h1)⟩
/-- a store into what is new -/
theorem Fq.new {W W' : World} {b : Nat} (h : Fq W W' b) (hb : b < W.heap.size) (p : Addr) (hp : W.heap.size ≤ p.block) (v : Value) : Fq W (W'.setCell p v) b :=
  ⟨h.below.setCell (by omega) _, fun k hk h1 => (Below.heap_setCell _ _ _ _ (by omega)).trans (h.block k hk h1)⟩
theorem Fq.drew {W W' : World} {b : Nat} (h : Fq W W' b) (n : Nat) : Fq W (W'.drewN n) b := ⟨below_drewN h.below n, h.block⟩
theorem RS.drewN {W : World} {b : Nat} {s : ByteArray} {m : Nat} {f : Int} (h : RS W b s m f) (n : Nat) : RS (W.drewN n) b s m f := ⟨h.lt, h.c0, h.c1, h.c2, h.fz⟩

/-- what a reading does -/
def RN (W : World) (b : Nat) (s : ByteArray) (a h : Nat) (o : Out) (e : Ending) (W' : World) : Prop :=
  (∃ x y z, e = .returned (.agg #[x, y, z]) ∧ match o with
    | .ok t n => RepS W' (fun k => W.heap.size ≤ k ∧ k < W'.heap.size) h t (.agg #[x, y, z]) ∧ RS W' b s (a + n) 0
    | .bad f => x = .bool false ∧ y = .string ⟨#[]⟩ ∧ z = .slice none 0 0 ∧ (f = 4 ∨ f = 5) ∧ ∃ c, RS W' b s c f) ∧ Fq W W' b
end Sx
end Go.Proofs.YtbhngjhfeejeiaaGreatDoor
