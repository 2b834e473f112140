/-
  Memory lemmas for the walks of a recipe's reading; fail. (printed by gen_RcM.py)
-/
import Derived.Test.YtcigggffaofkhaaRcA
import Derived.Test.YtcigggffaofkhaaSxExt
import Derived.Lib.AppendStr
import Derived.Laws.AppendOwn
import Derived.Deep.AppendLies
import Derived.Laws.IdiomStrings
namespace Go.Proofs.Ytcigggffaofkhaa
open Go.RowKit
namespace Rc

def u8s (l : List UInt8) : List Value := l.map fun b => Value.int .u8 (b.toNat : Int)
theorem u8s_app (a b : List UInt8) : u8s (a ++ b) = u8s a ++ u8s b := List.map_append
theorem info_u8 : (Try.prog.info? 5).map (fun i => (i.zero, i.size, i.bytes)) = some (some (.int .u8 0), 1, 1) := by kernel_rfl
theorem own_block {w w' : World} {B e size n : Nat} {v : Value} {xs : List Value} (h : w.ownsRow B e size v n xs) (hb : ∀ k, v.ownBlock = some k → w'.heap[k]? = w.heap[k]?) : w'.ownsRow B e size v n xs := by
  refine ⟨h.1, ?_⟩
  rcases h.2 with hn | ⟨g, cap, cur, rfl, hg, hgg, rest⟩
  · exact .inl hn
  · exact .inr ⟨g, cap, cur, rfl, hg, by rw [hb g rfl]; exact hgg, rest⟩
theorem own_form {W : World} {B e size n : Nat} {v : Value} {xs : List Value} (h : W.ownsRow B e size v n xs) : ∃ sl cap, v = .slice sl n cap := by
  rcases h.2 with ⟨rfl, rfl⟩ | ⟨g, cap, cur, rfl, hg, hgg, rest⟩
  · exact ⟨_, _, rfl⟩
  · exact ⟨_, _, rfl⟩
theorem own_conv {W : World} {B : Nat} {v : Value} {l : List UInt8} (h : W.ownsRow B 5 1 v l.length (u8s l)) (hl : 0 < l.length) : (convert 72 9 v).run Try.prog W = .ok (.string ⟨l.toArray⟩) W := by
  obtain ⟨g, cap, rfl, _, _⟩ := h.form hl
  refine run_convert_bytes_back W 72 9 5 ⟨g, 0, none⟩ cap l Try.underlying72 Try.underlying5 Try.underlying9 (fun j hj => ?_)
  refine h.cells (g := g) rfl j _ ?_
  simp [u8s, List.getElem?_eq_getElem hj]
theorem own_mono {W : World} {B B' e size n : Nat} {v : Value} {xs : List Value} (hB : B ≤ B') (h : W.ownsRow B' e size v n xs) : W.ownsRow B e size v n xs := by
  refine ⟨h.1, ?_⟩
  rcases h.2 with hn | ⟨g, cap, cur, rfl, hg, rest⟩
  · exact .inl hn
  · exact .inr ⟨g, cap, cur, rfl, Nat.le_trans hB hg, rest⟩
/-- from W to W' nothing that was there is written but block b -/
structure Fq (W W' : World) (b : Nat) : Prop where
  below : Below b W W'
  block : ∀ k, k < W.heap.size → k ≠ b → W'.heap[k]? = W.heap[k]?
theorem Fq.refl (W : World) (b : Nat) : Fq W W b := ⟨Below.refl _ _, fun _ _ _ => rfl⟩
theorem Fq.trans {W W' W'' : World} {b : Nat} (h : Fq W W' b) (g : Fq W' W'' b) : Fq W W'' b :=
  ⟨h.below.trans g.below, fun k hk h1 => (g.block k (Nat.lt_of_lt_of_le hk h.below.size) h1).trans (h.block k hk h1)⟩
theorem Fq.of_below {W W' : World} {b : Nat} (h : Below W.heap.size W W') (hlt : b ≤ W.heap.size) : Fq W W' b := ⟨h.mono hlt, fun k hk _ => h.block k hk⟩
theorem Fq.step {W W' W'' : World} {b : Nat} (h : Fq W W' b) (hb : b < W.heap.size) (g : Below W'.heap.size W' W'') : Fq W W'' b :=
  h.trans (Fq.of_below g (Nat.le_trans (Nat.le_of_lt hb) h.below.size))
theorem Fq.set {W W' : World} {b : Nat} (h : Fq W W' b) (j : Nat) (v : Value) : Fq W (W'.setCell ⟨b, j, none⟩ v) b :=
  ⟨h.below.setCell (p := ⟨b, j, none⟩) (Nat.le_refl _) _, fun k hk h1 => (Below.heap_setCell _ _ _ _ h1).trans (h.block k hk h1)⟩
/-- a store into what is new -/
theorem Fq.new {W W' : World} {b : Nat} (h : Fq W W' b) (hb : b < W.heap.size) (p : Addr) (hp : W.heap.size ≤ p.block) (v : Value) : Fq W (W'.setCell p v) b :=
  ⟨h.below.setCell (by omega) _, fun k hk h1 => (Below.heap_setCell _ _ _ _ (by omega)).trans (h.block k hk h1)⟩
theorem Fq.drew {W W' : World} {b : Nat} (h : Fq W W' b) (n : Nat) : Fq W (W'.drewN n) b := ⟨below_drewN h.below n, h.block⟩
theorem sne_tt {a b : ByteArray} (h : a ≠ b) : (a.toList != b.toList) = true := by unfold bne; rw [Sx.seq_ff h]; rfl
theorem sne_ff {a b : ByteArray} (h : a = b) : (a.toList != b.toList) = false := by unfold bne; rw [Sx.seq_tt h]; rfl
/-- the reader: its text, its place, the token that stands next, how deep it is -/
structure RD (W : World) (b : Nat) (s : ByteArray) (m : Nat) (tx : Bool) (ts : ByteArray) (tp : Nat) (dp : Int) : Prop where
  lt : b < W.heap.size
  c0 : W.cell? ⟨b, 0, none⟩ = some (.string s)
  c1 : W.cell? ⟨b, 1, none⟩ = some (.int .i64 m)
  c2 : W.cell? ⟨b, 2, none⟩ = some (.bool tx)
  c3 : W.cell? ⟨b, 3, none⟩ = some (.string ts)
  c4 : W.cell? ⟨b, 4, none⟩ = some (.int .i64 tp)
  c5 : W.cell? ⟨b, 5, none⟩ = some (.int .i64 dp)
  fz : ∀ j, W.frozen? ⟨b, j, none⟩ = false
section
variable {W W' : World} {b : Nat} {s : ByteArray} {m : Nat} {tx : Bool} {ts : ByteArray} {tp : Nat} {dp : Int}
theorem RD.block (h : RD W b s m tx ts tp dp) (hs : W.heap.size ≤ W'.heap.size) (hb : W'.heap[b]? = W.heap[b]?) : RD W' b s m tx ts tp dp :=
  ⟨Nat.lt_of_lt_of_le h.lt hs, (World.cell?_of_block hb).trans h.c0, (World.cell?_of_block hb).trans h.c1, (World.cell?_of_block hb).trans h.c2, (World.cell?_of_block hb).trans h.c3, (World.cell?_of_block hb).trans h.c4, (World.cell?_of_block hb).trans h.c5, fun j => (World.frozen?_of_block hb).trans (h.fz j)⟩
theorem RD.keep (h : RD W b s m tx ts tp dp) (hb : Below W.heap.size W W') : RD W' b s m tx ts tp dp := h.block hb.size (hb.block b h.lt)
theorem RD.drewN (h : RD W b s m tx ts tp dp) (n : Nat) : RD (W.drewN n) b s m tx ts tp dp := h.block (Nat.le_refl _) rfl
theorem RD.move (h : RD W b s m tx ts tp dp) (m' : Nat) {z : Int} (hz : z = m') : RD (W.setCell ⟨b, 1, none⟩ (.int .i64 z)) b s m' tx ts tp dp := by
  subst hz
  refine ⟨by simpa [World.setCell] using h.lt, ?_, World.cell?_setCell_same _ _ _ h.c1, ?_, ?_, ?_, ?_, fun j => ?_⟩
  · rw [World.cell?_setCell_other _ _ _ _ (by simp)]; exact h.c0
  · rw [World.cell?_setCell_other _ _ _ _ (by simp)]; exact h.c2
  · rw [World.cell?_setCell_other _ _ _ _ (by simp)]; exact h.c3
  · rw [World.cell?_setCell_other _ _ _ _ (by simp)]; exact h.c4
  · rw [World.cell?_setCell_other _ _ _ _ (by simp)]; exact h.c5
  · rw [World.frozen?_setCell]; exact h.fz j
theorem RD.dep (h : RD W b s m tx ts tp dp) (d : Int) : RD (W.setCell ⟨b, 5, none⟩ (.int .i64 d)) b s m tx ts tp d := by
  refine ⟨by simpa [World.setCell] using h.lt, ?_, ?_, ?_, ?_, ?_, World.cell?_setCell_same _ _ _ h.c5, fun j => ?_⟩
  · rw [World.cell?_setCell_other _ _ _ _ (by simp)]; exact h.c0
  · rw [World.cell?_setCell_other _ _ _ _ (by simp)]; exact h.c1
  · rw [World.cell?_setCell_other _ _ _ _ (by simp)]; exact h.c2
  · rw [World.cell?_setCell_other _ _ _ _ (by simp)]; exact h.c3
  · rw [World.cell?_setCell_other _ _ _ _ (by simp)]; exact h.c4
  · rw [World.frozen?_setCell]; exact h.fz j
theorem RD.now (h : RD W b s m tx ts tp dp) (tx' : Bool) (ts' : ByteArray) (tp' : Nat) : RD (((W.setCell ⟨b, 2, none⟩ (.bool tx')).setCell ⟨b, 3, none⟩ (.string ts')).setCell ⟨b, 4, none⟩ (.int .i64 tp')) b s m tx' ts' tp' dp := by
  have h2 := World.cell?_setCell_same W ⟨b, 2, none⟩ (.bool tx') h.c2
  have h3 := World.cell?_setCell_same (W.setCell ⟨b, 2, none⟩ (.bool tx')) ⟨b, 3, none⟩ (.string ts') (by rw [World.cell?_setCell_other _ _ _ _ (by simp)]; exact h.c3)
  have h4 := World.cell?_setCell_same ((W.setCell ⟨b, 2, none⟩ (.bool tx')).setCell ⟨b, 3, none⟩ (.string ts')) ⟨b, 4, none⟩ (.int .i64 tp') (by rw [World.cell?_setCell_other _ _ _ _ (by simp), World.cell?_setCell_other _ _ _ _ (by simp)]; exact h.c4)
  refine ⟨by simpa [World.setCell] using h.lt, ?_, ?_, ?_, ?_, h4, ?_, fun j => ?_⟩
  · rw [World.cell?_setCell_other _ _ _ _ (by simp), World.cell?_setCell_other _ _ _ _ (by simp), World.cell?_setCell_other _ _ _ _ (by simp)]; exact h.c0
  · rw [World.cell?_setCell_other _ _ _ _ (by simp), World.cell?_setCell_other _ _ _ _ (by simp), World.cell?_setCell_other _ _ _ _ (by simp)]; exact h.c1
  · rw [World.cell?_setCell_other _ _ _ _ (by simp), World.cell?_setCell_other _ _ _ _ (by simp)]; exact h2
  · rw [World.cell?_setCell_other _ _ _ _ (by simp)]; exact h3
  · rw [World.cell?_setCell_other _ _ _ _ (by simp), World.cell?_setCell_other _ _ _ _ (by simp), World.cell?_setCell_other _ _ _ _ (by simp)]; exact h.c5
  · rw [World.frozen?_setCell, World.frozen?_setCell, World.frozen?_setCell]; exact h.fz j
end
/-- so much is left -/
def mz (s : ByteArray) (b : Nat) (W : World) : Nat := s.size - (intOf ((W.cell? ⟨b, 1, none⟩).getD (.int .i64 0))).toNat
theorem mz_of {W : World} {b : Nat} {s : ByteArray} {m : Nat} {tx : Bool} {ts : ByteArray} {tp : Nat} {dp : Int} (h : RD W b s m tx ts tp dp) : mz s b W = s.size - m := by
  unfold mz
  rw [h.c1]
  simp [intOf]
/-- the panic of fail -/
abbrev stopC (p : Nat) (f : Int) : List PanicEntry := [{ v := .iface 56 (.agg #[.int .i64 p, .int .i64 f]), recovered := false }]
/-- a reading that gave up -/
def PB (W W' : World) (b : Nat) (s : ByteArray) (p : Nat) (f : Int) (e : Ending) : Prop := e = .panicked (stopC p f) ∧ (∃ m tx ts tp dp, RD W' b s m tx ts tp dp) ∧ Fq W W' b
set_option maxHeartbeats 400000 in
theorem fail_any (p : Nat) (f : Int) (w : World) : Calls Try.prog 49 #[.int .i64 p, .int .i64 f] w fun e w' => e = .panicked (stopC p f) ∧ w' = w := by
  go_enter Try.func49, Try.ntmps49
  go_wp2
  exact ⟨rfl, rfl, rfl⟩
end Rc
end Go.Proofs.Ytcigggffaofkhaa
