/-
  Walk: Assemble.
-/
import Derived.Test.YtipcockcndnipaaDoorMAwL
import Derived.Test.YtipcockcndnipaaDoorMAwX
import Derived.Test.YtipcockcndnipaaDoorRg
import Derived.Test.YtipcockcndnipaaDoorMSpl
import Derived.RangeFuncNested
import Derived.Shelf.Abstract
import Derived.Shelf.RegionOpen
import Derived.WalkKit
import Derived.OwnWalkIn
import Derived.TacticsInMore
import Derived.LoopNIn
import Derived.LoopIn
namespace Go.Proofs.YtipcockcndnipaaDoor
open Go.RowKit
attribute [local go_sem] Oper.semAt_some
namespace Mix
/-- the end without a panic -/
def noP (Q : Exit → Act → World → Prop) : Exit → Act → World → Prop
  | .panic _, _, _ => False
  | .normal, a, w => Q .normal a w
  | .ret, a, w => Q .ret a w
  | .exit id, a, w => Q (.exit id) a w
  | .goto t, a, w => Q (.goto t) a w
  | .outgrown, a, w => Q .outgrown a w
theorem noP_n (Q : Exit → Act → World → Prop) (a : Act) (w : World) : noP Q .normal a w = Q .normal a w := rfl
theorem noP_imp {Q : Exit → Act → World → Prop} (e : Exit) (a : Act) (w : World) (h : noP Q e a w) : Q e a w := by
  cases e <;> first | exact h | exact h.elim
end Mix
namespace Aw
open As

/-- a fault in a part is the whole's -/
theorem asm_bad {s : ByteArray} {pre : List ByteArray} {n : Nat} {e : Int} (hp : Spl.Pre s pre) (hs : scan 0 (pre.map Spl.bL) ⟨[], [], [], []⟩ = .bad n e) (hl : s.data.toList.length ≤ 65536) : asmP s.data.toList = ([], (n : Int), e) := by
  obtain ⟨more, hm⟩ := hp
  unfold asmP
  rw [if_neg (by omega), show linesL s.data.toList = pre.map Spl.bL ++ more from hm.symm, scan_append, hs]
theorem lk_new {w : World} {o : Obj} {k : Nat} (hk : k = w.heap.size) : (w.alloc o).heap[k]? = some o := by subst hk; exact heap_alloc_new w o
theorem lk_old {w : World} {o x : Obj} {k : Nat} (hk : k < w.heap.size) (h : w.heap[k]? = some x) : (w.alloc o).heap[k]? = some x := (heap_alloc_old _ _ hk).trans h
/-- what assembling does -/
def AQ (W : World) (l : List UInt8) (e : Ending) (W' : World) : Prop := ∃ v, e = .returned (.tuple #[v, .int .i64 (asmP l).2.1, .int .i64 (asmP l).2.2]) ∧ Cd.PS W' v (asmP l).1 ∧ Below W.heap.size W W'
theorem ps_nil (W : World) : Cd.PS W (.slice none 0 0) [] := ⟨by simp, (fun x h => by cases h), none, 0, rfl, fun k x h => by simp at h⟩
theorem WK.grown {W W' : World} {B bw bl : Nat} {st : St} {vp vl vw : Value} {ll : List ShS.KV} {row : Option Nat} (h : WK W B bw bl st vp vl vw ll) (hg : W.grownBy W' row) (hr : ∀ r, row = some r → ∃ o : Obj, W.heap[r]? = some o ∧ o.isCells = false) : WK W' B bw bl st vp vl vw ll := by
  have key : ∀ {k : Nat} {cs : Array Value} {t : TypeId} {f : Nat × Nat}, W.heap[k]? = some (.cells cs t f) → W'.heap[k]? = W.heap[k]? := fun hk => hg.block _ (Array.getElem?_eq_some_iff.1 hk).1 (fun e => by
    obtain ⟨o, ho, hc⟩ := hr _ e.symm
    rw [hk] at ho
    cases ho
    cases hc)
  have own : ∀ {k e size n : Nat} {v : Value} {xs : List Value}, W.ownsRow B e size v n xs → v.ownBlock = some k → W'.heap[k]? = W.heap[k]? := fun hO hk => by
    obtain ⟨cs, hcs⟩ := own_type hO hk
    exact key hcs
  obtain ⟨v, hb, hO⟩ := h.sh
  exact ⟨(key h.blk).trans h.blk, own_block h.op fun k hk => own h.op hk, own_block h.ol fun k hk => own h.ol hk, own_block h.ow fun k hk => own h.ow hk, ⟨v, (key hb).trans hb, own_block hO fun k hk => own hO hk⟩, h.lb⟩
/-- what the function's own cells hold: its three results, the work's place, the line's number -/
structure CL (W : World) (h : Nat) (v : Value) (l e n : Int) (X : World) : Prop where
  b0 : X.heap[h]? = some (.cells #[v] 28 (0, 0))
  b1 : X.heap[h + 1]? = some (.cells #[.int .i64 l] 3 (0, 0))
  b2 : X.heap[h + 2]? = some (.cells #[.int .i64 e] 25 (0, 0))
  b5 : X.heap[h + 5]? = some (.cells #[.pointer (some ⟨h + 4, 0, none⟩)] 51 (0, 0))
  b6 : X.heap[h + 6]? = some (.cells #[.int .i64 n] 3 (0, 0))
  below : Below h W X
theorem CL.keep {W X X' : World} {h : Nat} {v : Value} {l e n : Int} (g : CL W h v l e n X) (hb : ∀ k, h ≤ k → k < h + 7 → k ≠ h + 3 → k ≠ h + 4 → X'.heap[k]? = X.heap[k]?) (hB : Below h W X') : CL W h v l e n X' :=
  ⟨(hb _ (by omega) (by omega) (by omega) (by omega)).trans g.b0, (hb _ (by omega) (by omega) (by omega) (by omega)).trans g.b1, (hb _ (by omega) (by omega) (by omega) (by omega)).trans g.b2, (hb _ (by omega) (by omega) (by omega) (by omega)).trans g.b5, (hb _ (by omega) (by omega) (by omega) (by omega)).trans g.b6, hB⟩
theorem CL.grown {W X X' : World} {h D : Nat} {v : Value} {l e n : Int} {row : Option Nat} (g : CL W h v l e n X) (hD : h + 7 ≤ D) (hX : D ≤ X.heap.size) (hg : X.grownBy X' row) (hr : ∀ r, row = some r → D ≤ r) : CL W h v l e n X' :=
  g.keep (fun k _ h2 _ _ => hg.block k (by omega) (fun e => by have := hr k e.symm; omega)) (g.below.grown hg (by omega) (fun k e => by have := hr k e; omega))
theorem CL.lt {W X : World} {h : Nat} {v : Value} {l e n : Int} (g : CL W h v l e n X) : h + 6 < X.heap.size := (Array.getElem?_eq_some_iff.1 g.b6).1
abbrev st0 : St := ⟨[], [], [], []⟩
/-- between two rounds -/
def AI (W : World) (h : Nat) (pre : List ByteArray) (X : World) : Prop := h + 10 ≤ X.heap.size ∧ CL W h (.slice none 0 0) 0 0 (pre.length : Nat) X ∧ ∃ st vp vl vw ll, scan 0 (pre.map Spl.bL) st0 = .ok st ∧ WK X (h + 10) (h + 4) (h + 3) st vp vl vw ll
/-- a round has left -/
def AX (W : World) (h : Nat) (k : Code) (pre : List ByteArray) (X : World) : Prop := h + 10 ≤ X.heap.size ∧ k = .ret ∧ ∃ (n : Nat) (e c : Int), scan 0 (pre.map Spl.bL) st0 = .bad n e ∧ CL W h (.slice none 0 0) n e c X
theorem AI.own (W : World) (h : Nat) : OwnFrom (h + 10) (AI W h) := fun s X X' row hs hg hr => by
  obtain ⟨h1, h2, st, vp, vl, vw, ll, h3, h4⟩ := hs
  exact ⟨Nat.le_trans h1 hg.size, h2.grown (by omega) h1 hg (fun r e => (hr r e).1), st, vp, vl, vw, ll, h3, h4.grown hg (fun r e => (hr r e).2)⟩
theorem AX.own (W : World) (h : Nat) (k : Code) : OwnFrom (h + 10) (AX W h k) := fun s X X' row hs hg hr => by
  obtain ⟨h1, h2, n, e, c, h3, h4⟩ := hs
  exact ⟨Nat.le_trans h1 hg.size, h2, n, e, c, h3, h4.grown (by omega) h1 hg (fun r e => (hr r e).1)⟩
theorem AI.cell (W : World) (h : Nat) (s : List ByteArray) (X : World) (v : Value) (hs : AI W h s X) : AI W h s (X.setCell ⟨h + 7, 0, none⟩ v) := by
  obtain ⟨h1, h2, st, vp, vl, vw, ll, h3, h4⟩ := hs
  have key : ∀ k, k ≠ h + 7 → (X.setCell ⟨h + 7, 0, none⟩ v).heap[k]? = X.heap[k]? := fun k hk => Below.heap_setCell _ _ _ _ hk
  have own : ∀ {k e size n : Nat} {v : Value} {xs : List Value}, X.ownsRow (h + 10) e size v n xs → v.ownBlock = some k → k ≠ h + 7 := fun hO hk => by have := (hO.lt _ hk).1; omega
  refine ⟨by simpa [World.setCell] using h1, h2.keep (fun k _ g _ _ => key k (by omega)) (h2.below.setCell (by show h ≤ h + 7; omega) _), st, vp, vl, vw, ll, h3, (key _ (by omega)).trans h4.blk, own_block h4.op fun k hk => key k (own h4.op hk), own_block h4.ol fun k hk => key k (own h4.ol hk), own_block h4.ow fun k hk => key k (own h4.ow hk), ?_, h4.lb⟩
  obtain ⟨v, hb, hO⟩ := h4.sh
  exact ⟨v, (key _ (by omega)).trans hb, own_block hO fun k hk => key k (own hO hk)⟩
theorem obj_one {W : World} {g : Nat} {u0 : Value} {T : TypeId} (h : W.heap[g]? = some (.cells #[u0] T (0, 0))) : W.cell? ⟨g, 0, none⟩ = some u0 ∧ W.frozen? ⟨g, 0, none⟩ = false := ⟨by simp [World.cell?, h], by simp [World.frozen?, h]⟩
theorem scan_snoc {a : List (List UInt8)} {l : List UInt8} {st : St} (h : scan 0 a st0 = .ok st) : scan 0 (a ++ [l]) st0 = match lineP (a.length + 1) l st with | .ok st' => .ok st' | .bad e => .bad (a.length + 1) e := by
  rw [scan_append, h]
  show scan (0 + a.length) [l] st = _
  rw [scan, Nat.zero_add]
  cases lineP (a.length + 1) l st <;> rfl
theorem line_err {n : Nat} {l : List UInt8} {st : St} {e : Int} (h : lineP n l st = .bad e) : e = 11 ∨ e = 50 := by
  unfold lineP at h
  split at h
  · cases h
  · split at h
    · split at h
      · cases h; exact .inl rfl
      · cases h
    · split at h
      · cases h; exact .inr rfl
      · cases h
theorem WK.stored {X : World} {B bw bl : Nat} {st : St} {vp vl vw : Value} {ll : List ShS.KV} (h : WK X B bw bl st vp vl vw ll) {c : Addr} (hc : c.block < B) (h1 : bw ≠ c.block) (h2 : bl ≠ c.block) (v : Value) : WK (X.setCell c v) B bw bl st vp vl vw ll := by
  have key : ∀ k, k ≠ c.block → (X.setCell c v).heap[k]? = X.heap[k]? := fun k hk => Below.heap_setCell _ _ _ _ hk
  have own : ∀ {k e size n : Nat} {v : Value} {xs : List Value}, X.ownsRow B e size v n xs → v.ownBlock = some k → k ≠ c.block := fun hO hk => by have := (hO.lt _ hk).1; omega
  obtain ⟨v, hb, hO⟩ := h.sh
  exact ⟨(key _ h1).trans h.blk, own_block h.op fun k hk => key k (own h.op hk), own_block h.ol fun k hk => key k (own h.ol hk), own_block h.ow fun k hk => key k (own h.ow hk), ⟨v, (key _ h2).trans hb, own_block hO fun k hk => key k (own hO hk)⟩, h.lb⟩
theorem CL.set6 {W X : World} {h : Nat} {v : Value} {l e n : Int} (g : CL W h v l e n X) (m : Int) : CL W h v l e m (X.setCell ⟨h + 6, 0, none⟩ (.int .i64 m)) := by
  have key : ∀ k, k ≠ h + 6 → (X.setCell ⟨h + 6, 0, none⟩ (.int .i64 m)).heap[k]? = X.heap[k]? := fun k hk => Below.heap_setCell _ _ _ _ hk
  exact ⟨(key _ (by omega)).trans g.b0, (key _ (by omega)).trans g.b1, (key _ (by omega)).trans g.b2, (key _ (by omega)).trans g.b5, heap_setCell_same X (h + 6) 0 _ _ _ g.b6, g.below.setCell (by show h ≤ h + 6; omega) _⟩
theorem CL.fw {W X X' : World} {h : Nat} {v : Value} {l e n : Int} (g : CL W h v l e n X) (f : FW X X' (h + 10) (h + 4) (h + 3)) : CL W h v l e n X' :=
  g.keep (fun k _ h2 h3 h4 => f.block k (by omega) h4 h3) (g.below.trans (f.below (by omega) (by omega) (by omega)))
theorem FW.keeps {X X' : World} {B bw bl D : Nat} (f : FW X X' B bw bl) : KeepsFrom D X X' := ⟨f.size, fun k o _ hk ho => f.walk k o hk ho⟩
theorem FW.kp {X X' : World} {h : Nat} (f : FW X X' (h + 10) (h + 4) (h + 3)) : Spl.Kp (h + 7) X X' := ⟨f.size, fun k h1 h2 => f.block k (by omega) (by omega) (by omega)⟩
/-- the three results stored -/
theorem CL.res {W X : World} {h : Nat} {v v' : Value} {l e n l' e' : Int} (g : CL W h v l e n X) : CL W h v' l' e' n (((X.setCell ⟨h, 0, none⟩ v').setCell ⟨h + 1, 0, none⟩ (.int .i64 l')).setCell ⟨h + 2, 0, none⟩ (.int .i64 e')) := by
  have key : ∀ k, k ≠ h → k ≠ h + 1 → k ≠ h + 2 → (((X.setCell ⟨h, 0, none⟩ v').setCell ⟨h + 1, 0, none⟩ (.int .i64 l')).setCell ⟨h + 2, 0, none⟩ (.int .i64 e')).heap[k]? = X.heap[k]? := fun k h1 h2 h3 => (Below.heap_setCell _ _ _ _ h3).trans ((Below.heap_setCell _ _ _ _ h2).trans (Below.heap_setCell _ _ _ _ h1))
  refine ⟨?_, ?_, ?_, (key _ (by omega) (by omega) (by omega)).trans g.b5, (key _ (by omega) (by omega) (by omega)).trans g.b6, ((g.below.setCell (Nat.le_refl _) _).setCell (by show h ≤ h + 1; omega) _).setCell (by show h ≤ h + 2; omega) _⟩
  · exact (Below.heap_setCell _ _ _ _ (by show h ≠ h + 2; omega)).trans ((Below.heap_setCell _ _ _ _ (by show h ≠ h + 1; omega)).trans (heap_setCell_same X h 0 _ _ _ g.b0))
  · exact (Below.heap_setCell _ _ _ _ (by show h + 1 ≠ h + 2; omega)).trans (heap_setCell_same _ (h + 1) 0 _ _ _ ((Below.heap_setCell _ _ _ _ (by show h + 1 ≠ h; omega)).trans g.b1))
  · exact heap_setCell_same _ (h + 2) 0 _ _ _ ((Below.heap_setCell _ _ _ _ (by show h + 2 ≠ h + 1; omega)).trans ((Below.heap_setCell _ _ _ _ (by show h + 2 ≠ h; omega)).trans g.b2))
theorem keeps_set {D : Nat} {X X' : World} (g : KeepsFrom D X X') (c : Addr) (v : Value) (hc : ∃ cs t f, X'.heap[c.block]? = some (.cells cs t f)) : KeepsFrom D X (X'.setCell c v) :=
  ⟨by simpa [World.setCell] using g.size, fun k o hk h1 h2 => (Below.heap_setCell _ _ _ _ (fun e => by
    obtain ⟨cs, t, f, hcs⟩ := hc
    have h3 := g.same k o hk h1 h2
    rw [e, hcs] at h3
    cases h3
    cases h2)).trans (g.same k o hk h1 h2)⟩
theorem CL.drew {W X : World} {h : Nat} {v : Value} {l e n : Int} (g : CL W h v l e n X) : CL W h v l e n X.drew := ⟨g.b0, g.b1, g.b2, g.b5, g.b6, g.below.drew⟩
theorem CL.res_keeps {W X X2 : World} {h D : Nat} {v v' : Value} {l e n l' e' : Int} (g : CL W h v l e n X2) (hk : KeepsFrom D X X2) : KeepsFrom D X (((X2.setCell ⟨h, 0, none⟩ v').setCell ⟨h + 1, 0, none⟩ (.int .i64 l')).setCell ⟨h + 2, 0, none⟩ (.int .i64 e')).drew :=
  ⟨by have := hk.size; show _ ≤ (((X2.setCell ⟨h, 0, none⟩ v').setCell ⟨h + 1, 0, none⟩ (.int .i64 l')).setCell ⟨h + 2, 0, none⟩ (.int .i64 e')).heap.size; simp [World.setCell]; exact this, fun k o h1 h2 h3 => by
    have h4 := hk.same k o h1 h2 h3
    have key : k ≠ h ∧ k ≠ h + 1 ∧ k ≠ h + 2 := ⟨fun e => (by rw [e, g.b0] at h4; cases h4; cases h3), fun e => (by rw [e, g.b1] at h4; cases h4; cases h3), fun e => (by rw [e, g.b2] at h4; cases h4; cases h3)⟩
    exact ((Below.heap_setCell _ _ _ _ key.2.2).trans ((Below.heap_setCell _ _ _ _ key.2.1).trans (Below.heap_setCell _ _ _ _ key.1))).trans h4⟩
theorem asm_results {tmps : Array Value} {X : World} {h : Nat} {sl : Option Addr} {n c : Nat} {l e : Int} (t2 : tmps[2]? = some (.pointer (some ⟨h, 0, none⟩))) (t3 : tmps[3]? = some (.pointer (some ⟨h + 1, 0, none⟩))) (t4 : tmps[4]? = some (.pointer (some ⟨h + 2, 0, none⟩)))
    (b0 : X.heap[h]? = some (.cells #[.slice sl n c] 28 (0, 0))) (b1 : X.heap[h + 1]? = some (.cells #[.int .i64 l] 3 (0, 0))) (b2 : X.heap[h + 2]? = some (.cells #[.int .i64 e] 25 (0, 0))) :
    (results Tryd.f6 tmps).run Tryd.prog X = .ok (.tuple #[.slice sl n c, .int .i64 l, .int .i64 e]) X := by
  obtain ⟨c0, -⟩ := obj_one b0
  obtain ⟨c1, -⟩ := obj_one b1
  obtain ⟨c2, -⟩ := obj_one b2
  simp [results, Tryd.results6, go_sem, t2, t3, t4, c0, c1, c2]
theorem CL.shut {W X : World} {h D : Nat} {v : Value} {l e n : Int} (g : CL W h v l e n X) (hD : h + 10 ≤ D) (o : Obj) : CL W h v l e n (X.putObj D o) :=
  g.keep (fun k _ h2 _ _ => World.putObj_heap_other (by omega)) ⟨g.below.os, g.below.tape, g.below.output, by have := g.below.size; simpa [World.putObj] using this, fun k hk => (World.putObj_heap_other (by omega)).trans (g.below.block k hk)⟩
theorem own_cells {W : World} {B e size n cap : Nat} {sl : Option Addr} {xs : List Value} (h : W.ownsRow B e size (.slice sl n cap) n xs) (hn : 0 < n) :
    ∃ g, sl = some ⟨g, 0, none⟩ ∧ B ≤ g ∧ g < W.heap.size ∧ (∀ j u, xs[j]? = some u → W.cell? ⟨g, j, none⟩ = some u) ∧ (∀ j, W.frozen? ⟨g, j, none⟩ = false) ∧ ∃ cs, W.heap[g]? = some (.cells cs e (0, 0)) := by
  have h0 := h
  rcases h.2 with ⟨_, hz⟩ | ⟨g, cap', cur, he, hb, hg, _⟩
  · omega
  · cases he
    have hadd : ∀ j, (⟨g, 0, none⟩ : Addr).add j = ⟨g, j, none⟩ := fun j => by unfold Addr.add; split <;> simp_all
    exact ⟨g, rfl, hb, (Array.getElem?_eq_some_iff.1 hg).1, fun j u hu => by have h1 := h0.cells (g := g) rfl j u hu; rw [hadd] at h1; exact h1, fun j => by simp [World.frozen?, hg], cur, hg⟩
theorem rowI_set {q : List Cd.I} {k : Nat} {x : Cd.I} (h : q[k]? = some x) (m : Int) : (rowI q).set (k * 3 + 1) (.int .i64 m) = rowI (q.set k { x with n := m }) := by
  induction q generalizing k with
  | nil => simp at h
  | cons y q ih =>
    cases k with
    | zero => simp at h; subst h; rfl
    | succ k =>
      have := ih (k := k) (by simpa using h)
      rw [show (k + 1) * 3 + 1 = k * 3 + 1 + 1 + 1 + 1 by omega]
      show Value.int .i64 y.op :: .int .i64 y.n :: .string y.s :: (rowI q).set (k * 3 + 1) (.int .i64 m) = _
      rw [this]
      rfl
theorem CL.bel {W X X' : World} {h : Nat} {v : Value} {l e n : Int} (g : CL W h v l e n X) (hb : Below X.heap.size X X') : CL W h v l e n X' := by
  have := g.lt
  exact g.keep (fun k _ h2 _ _ => hb.block k (by omega)) (g.below.trans (hb.mono (by omega)))
theorem res_D {X : World} {h D : Nat} {v' : Value} {l' e' : Int} (hD : X.heap[D]? = some (.deferred (some []))) (hh : h + 10 ≤ D) : (((X.setCell ⟨h, 0, none⟩ v').setCell ⟨h + 1, 0, none⟩ (.int .i64 l')).setCell ⟨h + 2, 0, none⟩ (.int .i64 e')).heap[D]? = some (.deferred (some [])) :=
  ((Below.heap_setCell _ _ _ _ (by show D ≠ h + 2; omega)).trans ((Below.heap_setCell _ _ _ _ (by show D ≠ h + 1; omega)).trans (Below.heap_setCell _ _ _ _ (by show D ≠ h; omega)))).trans hD
theorem res_bad {s : List UInt8} {st : St} {n : Nat} {e : Int} (hl : s.length ≤ 65536) (hs : scan 0 (linesL s) ⟨[], [], [], []⟩ = .ok st) (hr : As.resolve st.labs st.prog st.wants st.lines = .bad n e) : asmP s = ([], (n : Int), e) := by
  unfold asmP
  rw [if_neg (by omega), hs]
  dsimp only
  rw [hr]
theorem res_ok {s : List UInt8} {st : St} {p : List Cd.I} (hl : s.length ≤ 65536) (hs : scan 0 (linesL s) ⟨[], [], [], []⟩ = .ok st) (hr : As.resolve st.labs st.prog st.wants st.lines = .ok p) :
    asmP s = if (Cd.check p).2 = 13 then ([], 0, 13) else if (Cd.check p).2 ≠ 0 then ([], ((st.lines.getD (Cd.check p).1.toNat 0 : Nat) : Int), (Cd.check p).2) else (p, 0, 0) := by
  unfold asmP
  rw [if_neg (by omega), hs]
  dsimp only
  rw [hr]
theorem at_le {labs : List (List UInt8 × Nat)} {w : List UInt8} {a K : Nat} (h : at? labs w = some a) (hl : ∀ y ∈ labs, y.2 ≤ K) : a ≤ K := by
  unfold at? at h
  cases hf : labs.find? (fun x => x.1 == w) with
  | none => rw [hf] at h; cases h
  | some y =>
    rw [hf] at h
    cases h
    exact hl y (List.mem_of_find?_eq_some hf)
theorem res_bd {labs : List (List UInt8 × Nat)} {K : Nat} (hK : K ≤ 1000000) (hl : ∀ y ∈ labs, y.2 ≤ K) : ∀ (p : List Cd.I) (ws : List (List UInt8)) (ks : List Nat) (q : List Cd.I), (∀ x ∈ p, -9223372036854775808 ≤ x.n ∧ x.n ≤ 9223372036854775807) → As.resolve labs p ws ks = .ok q → ∀ x ∈ q, -9223372036854775808 ≤ x.n ∧ x.n ≤ 9223372036854775807
  | [], ws, ks, q, hp, h => by
    have : As.resolve labs [] ws ks = .ok [] := by cases ws <;> rfl
    rw [this] at h
    cases h
    exact fun x hx => by cases hx
  | x :: p, [], ks, q, hp, h => by cases h; exact hp
  | x :: p, w :: ws, [], q, hp, h => by cases h; exact hp
  | x :: p, w :: ws, k :: ks, q, hp, h => by
    have ih := fun q' => res_bd hK hl p ws ks q' (fun y hy => hp y (.tail _ hy))
    have fin : ∀ (x' : Cd.I), (-9223372036854775808 ≤ x'.n ∧ x'.n ≤ 9223372036854775807) → Rs.pre [x'] (As.resolve labs p ws ks) = .ok q → ∀ x ∈ q, -9223372036854775808 ≤ x.n ∧ x.n ≤ 9223372036854775807 := fun x' hx' h' => by
      cases hr : As.resolve labs p ws ks with
      | bad n e => rw [hr] at h'; cases h'
      | ok q' =>
        rw [hr] at h'
        cases h'
        intro y hy
        rcases List.mem_cons.1 hy with rfl | hy
        · exact hx'
        · exact ih q' hr y hy
    by_cases hw : w = []
    · subst hw
      rw [res_skip] at h
      exact fin x (hp x (.head _)) h
    · cases ha : at? labs w with
      | none => rw [res_none hw ha] at h; cases h
      | some a =>
        rw [res_some hw ha] at h
        have := at_le ha hl
        exact fin _ ⟨by show (-9223372036854775808 : Int) ≤ (a : Int); omega, by show (a : Int) ≤ 9223372036854775807; omega⟩ h
theorem fb_lt {c : Int} : ∀ {p : List Cd.I} {i : Nat}, Cd.firstBad c p = some i → i < p.length
  | [], i, h => by cases h
  | x :: p, i, h => by
    unfold Cd.firstBad at h
    split at h
    · cases hf : Cd.firstBad c p with
      | none => rw [hf] at h; cases h
      | some j =>
        rw [hf] at h
        cases h
        have := fb_lt hf
        simp only [List.length_cons]
        omega
    · cases h
      simp
open Classical in
/-- worlds that are as w but in blocks h, h + 1 -/
noncomputable def keepH (w : World) (h : Nat) (Y : World) : World := if ∀ k, k ≠ h → k ≠ h + 1 → Y.heap[k]? = w.heap[k]? then Y else w
theorem keepH_blk (w : World) (h : Nat) (Y : World) {k : Nat} (h1 : k ≠ h) (h2 : k ≠ h + 1) : (keepH w h Y).heap[k]? = w.heap[k]? := by
  unfold keepH
  split
  · rename_i g; exact g k h1 h2
  · rfl
theorem keepH_of {w w' : World} {h : Nat} (g : ∀ k, k ≠ h → k ≠ h + 1 → w'.heap[k]? = w.heap[k]?) : ∃ Y, w' = keepH w h Y := ⟨w', by unfold keepH; rw [if_pos g]⟩
/-- a place put in -/
theorem WK.putN {X : World} {B bw bl cap g k : Nat} {q : List Cd.I} {ws : List (List UInt8)} {ls : List Nat} {labs : List (List UInt8 × Nat)} {vl vw : Value} {ll : List ShS.KV} {x : Cd.I} (h : WK X B bw bl ⟨q, ws, ls, labs⟩ (.slice (some ⟨g, 0, none⟩) q.length cap) vl vw ll) (hx : q[k]? = some x) (m : Int) :
    WK (X.setCell ⟨g, k * 3 + 1, none⟩ (.int .i64 m)) B bw bl ⟨q.set k { x with n := m }, ws, ls, labs⟩ (.slice (some ⟨g, 0, none⟩) q.length cap) vl vw ll := by
  have hgo : (Value.slice (some ⟨g, 0, none⟩) q.length cap).ownBlock = some g := rfl
  obtain ⟨cs, hcs⟩ := own_type h.op hgo
  have key : ∀ k', k' ≠ g → (X.setCell ⟨g, k * 3 + 1, none⟩ (.int .i64 m)).heap[k']? = X.heap[k']? := fun k' hk => Below.heap_setCell _ _ _ _ hk
  have own : ∀ {k' e size n : Nat} {v : Value} {xs : List Value}, X.ownsRow B e size v n xs → e ≠ 23 → v.ownBlock = some k' → k' ≠ g := fun hO he hk e => own_apart h.op hO (fun e' => he e'.symm) hgo (by rw [hk, e])
  obtain ⟨v, hb, hO⟩ := h.sh
  refine ⟨(key _ (ne_obj h.blk hcs (by decide))).trans h.blk, ?_, own_block h.ol fun k' hk => key k' (own h.ol (by decide) hk), own_block h.ow fun k' hk => key k' (own h.ow (by decide) hk), ⟨v, (key _ (ne_obj hb hcs (by decide))).trans hb, own_block hO fun k' hk => key k' (own hO (by decide) hk)⟩, h.lb⟩
  have h1 := (h.op.stored (k * 3 + 1) (.int .i64 m)).1
  show World.ownsRow _ _ _ _ _ (q.set k { x with n := m }).length (rowI (q.set k { x with n := m }))
  rw [rowI_set hx] at h1
  rw [List.length_set]
  exact h1
/-- the program in memory as a slice of instructions -/
theorem ps_of {W : World} {B : Nat} {v : Value} {p : List Cd.I} (h : OI W B v p) (hl : p.length ≤ 1000000) (hn : ∀ x ∈ p, -9223372036854775808 ≤ x.n ∧ x.n ≤ 9223372036854775807) : Cd.PS W v p := by
  obtain ⟨sl, cap, rfl⟩ := own_form h
  refine ⟨by omega, hn, sl, cap, rfl, fun k x hx => ?_⟩
  obtain ⟨g, rfl, _, hg, hc, _⟩ := own_cells h (by have := (List.getElem?_eq_some_iff.1 hx).1; omega)
  obtain ⟨r1, r2, r3⟩ := rowI_at p k x hx
  have h1 := hc _ _ r1
  have h2 := hc _ _ r2
  have h3 := hc _ _ r3
  exact ⟨g, 0, rfl, hg, by simpa using h1, by simpa using h2, by simpa using h3⟩
set_option maxHeartbeats 8000000 in
set_option maxRecDepth 100000 in
theorem assemble_any (s : ByteArray) (W : World) (hE : Env W) :
    Calls Tryd.prog 6 #[.string s] W fun e W' => AQ W s.data.toList e W' := by
  have hz := Lib.size_eq s
  by_cases hl : 65536 < s.size
  · have HR := Lib.hid (show asmP s.data.toList = ([], 0, 3) by unfold asmP; rw [if_pos (by omega)])
    have k0 : (65536 : Int) < (s.size : Int) := by omega
    clear hz hl
    go_enter Tryd.func6, Tryd.ntmps6
    go_wp2_with fail
    refine ⟨rfl, _, asm_results (h := W.heap.size) (sl := none) (n := 0) (c := 0) (l := 0) (e := 3) rfl rfl rfl ?_ ?_ ?_, .slice none 0 0, by rw [HR.out], by rw [HR.out]; exact ps_nil _, ?_⟩
    · repeat (first | (refine lk_new ?_; ((repeat rw [World.size_alloc]) <;> omega); done) | (refine lk_old ?_ ?_; · (repeat rw [World.size_alloc]) <;> omega))
    · repeat (first | (refine lk_new ?_; ((repeat rw [World.size_alloc]) <;> omega); done) | (refine lk_old ?_ ?_; · (repeat rw [World.size_alloc]) <;> omega))
    · repeat (first | (refine lk_new ?_; ((repeat rw [World.size_alloc]) <;> omega); done) | (refine lk_old ?_ ?_; · (repeat rw [World.size_alloc]) <;> omega))
    · refine ((((Below.refl _ W).alloc ?_ _).alloc ?_ _).alloc ?_ _)
      all_goals simp
      all_goals omega
  · have k0 : ¬ (65536 : Int) < (s.size : Int) := by omega
    refine (callsIn_wide (n := 9)).1 ?_
    refine callsIn_of_wp_marks Tryd.func6 rfl trivial ?_ rfl
    simp only [Tryd.ntmps6, List.size_toArray, List.length_cons, List.length_nil, Nat.reduceAdd, Nat.reduceSub, Array.replicate_succ, Array.replicate_zero, List.push_toArray, List.append_toArray, List.nil_append, List.cons_append]
    have HZ := Lib.hid hz
    clear hz hl
    gi_wp2_with (first
      | (refine ⟨trivial, ?_⟩; gi_at_call 17; refine (callsIn_wide.2 (ShS.new_any _)).mono ?_; rintro e w0 ⟨rfl, rfl⟩)
      | (refine ⟨trivial, ?_⟩; gi_at_call 18; refine (callsIn_wide.2 (Spl.seq_any s _ _)).mono ?_; rintro e w0 ⟨rfl, rfl⟩))
    simp only [Nat.add_assoc, Nat.reduceAdd]
    obtain ⟨W7, hW7⟩ : ∃ X, X = ((((((W.alloc (.cells #[.slice none 0 0] 28)).alloc (.cells #[.int .i64 0] 3)).alloc (.cells #[.int .i64 0] 25)).alloc (.cells #[.slice none 0 0] 78)).alloc (.cells #[.slice none 0 0, .slice none 0 0, .slice none 0 0, .pointer (some ⟨W.heap.size + 3, 0, none⟩)] 57)).alloc (.cells #[.pointer (some ⟨W.heap.size + 4, 0, none⟩)] 51)).alloc (.cells #[.int .i64 0] 3) := ⟨_, rfl⟩
    rw [← hW7]
    have hO3 := Spl.own3_new s W7
    have hs7 : W7.heap.size = W.heap.size + 7 := by rw [hW7]; simp
    obtain ⟨X0, hX0⟩ : ∃ X, X = ((W7.alloc (.cells #[.string s] 9)).alloc (.cells #[.string ⟨#[10]⟩] 9)).alloc (.cells #[.int .i64 0] 3) := ⟨_, rfl⟩
    rw [← hX0] at hO3 ⊢
    rw [hs7] at hO3
    have hs0 : X0.heap.size = W.heap.size + 10 := by rw [hX0]; simp [hs7]
    have h0 : AI W W.heap.size [] X0 := by
      have hB : Below W.heap.size W X0 := by
        rw [hX0, hW7]
        refine (((((((((((Below.refl _ W).alloc ?_ _).alloc ?_ _).alloc ?_ _).alloc ?_ _).alloc ?_ _).alloc ?_ _).alloc ?_ _).alloc ?_ _).alloc ?_ _).alloc ?_ _)
        all_goals simp
        all_goals omega
      refine ⟨by omega, ⟨?_, ?_, ?_, ?_, ?_, hB⟩, st0, .slice none 0 0, .slice none 0 0, .slice none 0 0, [], rfl, ⟨?_, World.ownsRow_nil _ _ _ _, World.ownsRow_nil _ _ _ _, World.ownsRow_nil _ _ _ _, ⟨.slice none 0 0, ?_, World.ownsRow_nil _ _ _ _⟩, Lb.nil⟩⟩
      all_goals rw [hX0, hW7]
      all_goals repeat (first | (refine lk_new ?_; ((repeat rw [World.size_alloc]) <;> omega); done) | (refine lk_old ?_ ?_; · (repeat rw [World.size_alloc]) <;> omega))
    clear hX0 hs7 hW7
    generalize hh : W.heap.size = h at *
    refine Rg.wpIn_range (lb := #[.pointer (some ⟨h + 7 + 1, 0, none⟩), .pointer (some ⟨h + 7, 0, none⟩), .pointer (some ⟨h + 7 + 2, 0, none⟩)]) rfl (by omega) rfl trivial (enters_of Tryd.func40 (by kernel_rfl) rfl) (Spl.split_stops 8 (by omega) s (by unfold maxLen; omega) (h + 7) X0 (by omega) hO3) (fun {A B C} h1 h2 => ⟨Nat.le_trans h1.1 h2.1, fun k g1 g2 => (h2.2 k g1 g2).trans (h1.2 k g1 g2)⟩) (fun X l o o' hl ho hc => ⟨by simp [World.putObj], fun k g1 g2 => World.putObj_heap_other (by omega)⟩) (Below.refl _ _) (by show h + 7 < _; omega) (fun _ => rfl) (AI W h) (AX W h) (hs0 ▸ AI.own W h) (AI.cell W h) (fun k => hs0 ▸ AX.own W h k) h0 ?a1 ?assign ?body ?done ?stop
    case assign =>
      intro l x X K hK
      gi_wp2
      exact hK
    case body =>
      rintro l pre x X hsp ⟨hX, hC, st, vp, vl, vw, ll, hsc, hK⟩
      have HS := Lib.hid (scan_snoc (l := Spl.bL x) hsc)
      have hbd : Bd st (0 + (pre.map Spl.bL).length) ∧ pre.length ≤ 65536 ∧ x.size ≤ 65536 := by
        obtain ⟨more, hm⟩ := hsp
        obtain ⟨g1, g2⟩ := lines_small (Spl.bL s)
        have hz : (Spl.bL s).length ≤ 65536 := by have := HZ.out; show s.data.toList.length ≤ _; omega
        have hz2 : x.size = (Spl.bL x).length := Lib.size_eq x
        rw [← hm] at g1 g2
        have g3 := g2 (Spl.bL x) (by simp)
        simp only [List.length_append, List.length_map, List.length_cons, List.length_nil] at g1
        refine ⟨scan_bd _ 0 0 _ _ bd_0 hsc (by rw [List.length_map]; omega), by omega, by omega⟩
      obtain ⟨hbd, hpl, hxs⟩ := hbd
      rw [List.length_map, Nat.zero_add] at hbd
      rw [List.length_map] at HS
      have q1 : IntKind.i64.wrap ((pre.length : Int) + 1) = (pre.length : Int) + 1 := IntWalk.i64_in _ (by omega)
      obtain ⟨f5, -⟩ := obj_one hC.b5
      obtain ⟨f6, z6⟩ := obj_one hC.b6
      have hC1 := hC.set6 ((pre.length : Int) + 1)
      have hK1 := hK.stored (c := ⟨h + 6, 0, none⟩) (by show h + 6 < h + 10; omega) (by show h + 4 ≠ h + 6; omega) (by show h + 3 ≠ h + 6; omega) (.int .i64 ((pre.length : Int) + 1))
      have hK0 : KeepsFrom (h + 10) X (X.setCell ⟨h + 6, 0, none⟩ (.int .i64 ((pre.length : Int) + 1))) := keeps_set (KeepsFrom.refl _ _) _ _ ⟨_, _, _, hC.b6⟩
      have hP0 : Spl.Kp (h + 7) X (X.setCell ⟨h + 6, 0, none⟩ (.int .i64 ((pre.length : Int) + 1))) := ⟨by simp [World.setCell], fun k g1 g2 => Below.heap_setCell _ _ _ _ (by show k ≠ h + 6; omega)⟩
      have hx := line_any (pre.length + 1) x (X.setCell ⟨h + 6, 0, none⟩ (.int .i64 ((pre.length : Int) + 1))) (h + 10) (h + 4) (h + 3) st vp vl vw ll hK1 (hE.below (hh ▸ hC1.below)) (by simpa [World.setCell] using hX) (by omega) (by have := hbd.p; omega) (by have := hbd.p; have := hbd.w; omega) (by have := hbd.p; have := hbd.l; omega) (by have := hbd.b; omega)
      rw [show ((pre.length + 1 : Nat) : Int) = (pre.length : Int) + 1 by omega] at hx
      obtain ⟨f56, -⟩ := obj_one hC1.b5
      obtain ⟨f66, -⟩ := obj_one hC1.b6
      have HH := Lib.hid (And.intro hC1 (And.intro hK0 hP0))
      have HX := Lib.hid hX
      cases hli : lineP (pre.length + 1) (Spl.bL x) st with
      | ok st' =>
        have hx : Calls Tryd.prog 19 #[.pointer (some ⟨h + 4, 0, none⟩), .int .i64 ((pre.length : Int) + 1), .string x] (X.setCell ⟨h + 6, 0, none⟩ (.int .i64 ((pre.length : Int) + 1))) fun e W' => LQ (X.setCell ⟨h + 6, 0, none⟩ (.int .i64 ((pre.length : Int) + 1))) (h + 10) (h + 4) (h + 3) (.ok st') e W' := by rw [← hli]; exact hx
        have HS := Lib.hid (HS.out.trans (by rw [hli]))
        clear hli hC hC1 hK hK1 hK0 hP0 hbd hsc hsp hpl hxs hX
        gi_wp2_with (first
          | (refine ⟨trivial, ?_⟩; gi_at_call 19; refine (CallsIn.inRound l (callsIn_wide.2 hx)).mono ?_; rintro e X2 ⟨hF, rfl, vp', vl', vw', ll', hK2⟩))
        obtain ⟨hC1, hK0, hP0⟩ := HH.out
        rw [hs0]
        refine ⟨hK0.trans hF.keeps, ⟨Nat.le_trans hP0.1 hF.kp.1, fun k g1 g2 => (hF.kp.2 k g1 g2).trans (hP0.2 k g1 g2)⟩, Nat.le_trans HX.out (Nat.le_trans hK0.size hF.size), ?_, st', vp', vl', vw', ll', by rw [List.map_append]; exact HS.out, hK2⟩
        rw [List.length_append]
        exact hC1.fw hF
      | bad er =>
        have her := line_err hli
        have hx : Calls Tryd.prog 19 #[.pointer (some ⟨h + 4, 0, none⟩), .int .i64 ((pre.length : Int) + 1), .string x] (X.setCell ⟨h + 6, 0, none⟩ (.int .i64 ((pre.length : Int) + 1))) fun e W' => LQ (X.setCell ⟨h + 6, 0, none⟩ (.int .i64 ((pre.length : Int) + 1))) (h + 10) (h + 4) (h + 3) (.bad er) e W' := by rw [← hli]; exact hx
        have HS := Lib.hid (HS.out.trans (by rw [hli]))
        have hne : er ≠ 0 := by omega
        clear hli hC hC1 hK hK1 hK0 hP0 hbd hsc hsp hpl hxs hX
        gi_wp2_with (first
          | (refine ⟨trivial, ?_⟩; gi_at_call 19; refine (CallsIn.inRound l (callsIn_wide.2 hx)).mono ?_; rintro e X2 ⟨hF, rfl⟩))
        obtain ⟨hC1, hK0, hP0⟩ := HH.out
        have hC2 := hC1.fw hF
        obtain ⟨y0, z0⟩ := obj_one hC2.b0
        obtain ⟨y1, z1⟩ := obj_one hC2.b1
        obtain ⟨y2, z2⟩ := obj_one hC2.b2
        obtain ⟨y6, -⟩ := obj_one hC2.b6
        have HE := Lib.hid (show KeepsFrom X0.heap.size X _ ∧ AX W h .ret (pre ++ [x]) _ from ⟨hC2.res_keeps (v' := .slice none 0 0) (l' := (pre.length : Int) + 1) (e' := er) (by rw [hs0]; exact hK0.trans hF.keeps), by have := HX.out; have := hK0.size; have := hF.size; show h + 10 ≤ (((X2.setCell ⟨h, 0, none⟩ (.slice none 0 0)).setCell ⟨h + 1, 0, none⟩ (.int .i64 ((pre.length : Int) + 1))).setCell ⟨h + 2, 0, none⟩ (.int .i64 er)).heap.size; simp [World.setCell] at *; omega, rfl, pre.length + 1, er, _, by rw [List.map_append]; exact HS.out, hC2.res.drew⟩)
        clear f5 f6 z6 f56 f66 hx q1 hC1 hK0 hP0 hC2
        gi_region
        all_goals gi_wp2
        all_goals exact HE.out
    case stop =>
      rintro k pre X hsp ⟨hX, rfl, n, er, c, hsc, hC⟩ hD
      obtain ⟨y0, -⟩ := obj_one hC.b0
      obtain ⟨y1, -⟩ := obj_one hC.b1
      obtain ⟨y2, -⟩ := obj_one hC.b2
      gi_wp2
      refine ⟨by simp, .inl ⟨_, _, rfl, run_takeDeferred hD, ?_⟩⟩
      have hC9 := hC.shut (D := X0.heap.size) (by omega) (.deferred none)
      refine ⟨_, asm_results rfl rfl rfl hC9.b0 hC9.b1 hC9.b2, .slice none 0 0, ?_, ?_, hh ▸ hC9.below⟩
      · rw [asm_bad hsp hsc (by have := HZ.out; omega)]
      · rw [asm_bad hsp hsc (by have := HZ.out; omega)]
        exact ps_nil _
    case done =>
      rintro xs X hS ⟨hX, hC, st, vp, vl, vw, ll, hsc, hK⟩ hD
      rw [hs0] at hD
      have HSC := Lib.hid (show scan 0 (linesL s.data.toList) ⟨[], [], [], []⟩ = .ok st by rw [show linesL s.data.toList = xs.map Spl.bL from hS.symm]; exact hsc)
      have hbd := scan_bd _ 0 0 _ _ bd_0 HSC.out (by have := (lines_small s.data.toList).1; have := HZ.out; omega)
      rw [Nat.zero_add] at hbd
      have hll : (linesL s.data.toList).length ≤ 65537 := by have := (lines_small s.data.toList).1; have := HZ.out; omega
      have HBD := Lib.hid hbd
      obtain ⟨g5, -⟩ := obj_one hC.b5
      obtain ⟨c0, c1, c2, c3, -, -, -, -⟩ := obj_four hK.blk
      obtain ⟨slw, cpw, rfl⟩ := own_form hK.ow
      obtain ⟨m, hm⟩ : ∃ m, m = st.wants.length := ⟨_, rfl⟩
      rw [← hm] at c2
      have HH := Lib.hid (And.intro hX (And.intro hC (And.intro hK hD)))
      clear hsc hS hbd hX hC hK hD h0 hO3
      rename_i hKK
      refine hKK _ _ (wpIn_wide.2 ?_)
      clear hKK
      go_wp2_with fail
      clear c0 c1 c2 c3 g5
      go_loopw [39] (fun v wr => ∃ (k : Nat) (q : List Cd.I) (vp' : Value), v = .int .i64 (k : Int) ∧ k ≤ m ∧ RK st.labs st.prog st.wants st.lines k q ∧ WK wr (h + 10) (h + 4) (h + 3) ⟨q, st.wants, st.lines, st.labs⟩ vp' vl (.slice slw m cpw) ll ∧ CL W h (.slice none 0 0) 0 0 (xs.length : Nat) wr ∧ wr.heap[h + 10]? = some (.deferred (some [])) ∧ X.heap.size ≤ wr.heap.size) (fun v _ => m - (intOf v).toNat)
      case atStart =>
        obtain ⟨h1, h2, h3, h4⟩ := HH.out
        exact ⟨0, st.prog, vp, rfl, Nat.zero_le _, RK.start _ _ _ _, by rw [hm]; exact h3, h2, h4, Nat.le_refl _⟩
      case round =>
        obtain ⟨k, q, vp', rfl, hk, hR, hK, hC, hD, hsz⟩ := hrel
        obtain ⟨g5, -⟩ := obj_one hC.b5
        obtain ⟨c0, c1, c2, c3, -, -, -, -⟩ := obj_four hK.blk
        obtain ⟨slp, cpp, rfl⟩ := own_form hK.op
        obtain ⟨sll, cpl, rfl⟩ := own_form hK.ol
        have hbd := HBD.out
        have hw1 := hbd.w
        have hl1 := hbd.l
        have hp1 := hbd.p
        by_cases hkm : k < m
        · obtain ⟨wt, hwt⟩ : ∃ wt, st.wants[k]? = some wt := ⟨_, List.getElem?_eq_getElem (by omega)⟩
          obtain ⟨x, hx⟩ : ∃ x, st.prog[k]? = some x := ⟨_, List.getElem?_eq_getElem (by omega)⟩
          obtain ⟨ln, hln⟩ : ∃ ln, st.lines[k]? = some ln := ⟨_, List.getElem?_eq_getElem (by omega)⟩
          have how : wr.ownsRow (h + 10) 9 1 (.slice slw m cpw) m (rowS st.wants) := Eq.mp (congrArg (fun z => wr.ownsRow (h + 10) 9 1 (.slice slw m cpw) z (rowS st.wants)) hm.symm) hK.ow
          obtain ⟨gw, rfl, -, -, hcw, -, -⟩ := own_cells how (by omega)
          have d0 : wr.cell? ⟨gw, k, none⟩ = some (.string ⟨wt.toArray⟩) := hcw k _ (by unfold rowS; rw [List.getElem?_map, hwt]; rfl)
          have q1 : IntKind.i64.wrap ((k : Int) + 1) = (k : Int) + 1 := IntWalk.i64_in _ (by omega)
          have q2 : ((k : Int) < (m : Int)) := by omega
          have HQ := Lib.hid (And.intro hR (And.intro hK (And.intro hC (And.intro hD hsz))))
          have HX := Lib.hid (And.intro hwt (And.intro hx hln))
          by_cases hwe : wt = []
          · subst hwe
            have k2 := Sx.emp_tt (a := ⟨([] : List UInt8).toArray⟩) rfl
            clear hbd hw1 hl1 hp1 how hcw hR hK hC hD hsz hwt hx hln
            go_wp2_with fail
            go_roundw
            case rel =>
              obtain ⟨hR, hK, hC, hD, hsz⟩ := HQ.out
              obtain ⟨hwt, hx, hln⟩ := HX.out
              exact ⟨k + 1, q, _, by go_num, by omega, hR.skip hx hwt hln, hK, hC, hD, hsz⟩
            case measure => simp [intOf]; omega
          · obtain ⟨σ, hσ⟩ : ∃ σ : ByteArray, σ = ⟨wt.toArray⟩ := ⟨_, rfl⟩
            have k2 := Sx.emp_ff (a := ⟨wt.toArray⟩) (fun e => hwe (by have h9 := congrArg (fun b : ByteArray => b.data.toList) e; simpa using h9))
            have hq := hR.at hx
            have hql : k < q.length := (List.getElem?_eq_some_iff.1 hq).1
            obtain ⟨gp, rfl, hBg, hgl, hcp, hzp, csp, hcsp⟩ := own_cells hK.op (by show 0 < q.length; omega)
            have hG := ShS.get_any ⟨wt.toArray⟩ (h + 10) (h + 3) ll wr hK.sh hK.lb.srt (by have := hK.lb.len; have := hbd.b; show ll.length ≤ 1000000; have : ll.length ≤ st.labs.length := hK.lb.len; omega)
            rw [hK.lb.look] at hG
            rw [← hσ] at d0 k2
            cases ha : at? st.labs wt with
            | none =>
              have HA := Lib.hid ha
              have hG : Calls Tryd.prog 20 #[.pointer (some ⟨h + 3, 0, none⟩), .string σ] wr fun e w' => e = .returned (.tuple #[.int .i64 0, .bool false]) ∧ Below wr.heap.size wr w' := by
                have h9 := hG
                rw [show at? st.labs (⟨wt.toArray⟩ : ByteArray).data.toList = none from ha] at h9
                rw [hσ]
                exact h9
              obtain ⟨gl, rfl, hBl, hgl2, hcl, hzl, -⟩ := own_cells hK.ol (by show 0 < st.lines.length; omega)
              have d9 := hcl k (.int .i64 (ln : Int)) (by unfold rowN; rw [List.getElem?_map, hln]; rfl)
              clear hσ
              have q3 : k < st.lines.length := by omega
              have HB1 := Lib.hid hgl2
              have HRES := Lib.hid (res_bad (by have := HZ.out; omega) HSC.out (hR.miss hx hwt hwe hln ha))
              clear hbd hw1 hl1 hp1 how hcw hR hK hC hD hsz hwt hx hln ha hBg hgl hcsp hq hcp hzp hcl hzl hgl2
              go_wp2_with (first
                | (go_at_call 20; refine hG.mono ?_; rintro e w1 ⟨rfl, hb1⟩; clear hG; obtain ⟨hR, hK, hC, hD, hsz⟩ := HQ.out; have hK1 := hK.below hb1; have hC1 := hC.bel hb1; have hD1 := (hb1.block _ (Array.getElem?_eq_some_iff.1 hD).1).trans hD; obtain ⟨g5, -⟩ := obj_one hC1.b5; obtain ⟨y0, z0⟩ := obj_one hC1.b0; obtain ⟨y1, z1⟩ := obj_one hC1.b1; obtain ⟨y2, z2⟩ := obj_one hC1.b2; obtain ⟨c0, c1, c2, c3, -, -, -, -⟩ := obj_four hK1.blk; have d1 : w1.cell? ⟨gl, k, none⟩ = some (.int .i64 (ln : Int)) := ((hb1.cell (p := ⟨gl, k, none⟩) HB1.out).trans d9); have HC1 := Lib.hid (And.intro hC1 hD1); have HB4 := Lib.hid hK1.blk; clear hR hK hC hD hsz hK1 hC1 hD1 hb1 d9 d0))
              obtain ⟨hC1, hD1⟩ := HC1.out
              have HC9 := Lib.hid ((hC1.drew.res (v' := .slice none 0 0) (l' := (ln : Int)) (e' := 31)).shut (D := h + 10) (by omega) (.deferred none))
              have HD9 := Lib.hid (res_D (X := w1.drew) (v' := .slice none 0 0) (l' := (ln : Int)) (e' := 31) hD1 (h := h) (by omega))
              have e5 := fun Y => (obj_one ((keepH_blk w1 h Y (k := h + 5) (by omega) (by omega)).trans hC1.b5)).1
              have e4 := fun Y => (obj_four ((keepH_blk w1 h Y (k := h + 4) (by omega) (by omega)).trans HB4.out)).2.1
              have e1 := fun Y => (World.cell?_of_block (w := w1) (a := ⟨gl, k, none⟩) (keepH_blk w1 h Y (k := gl) (by omega) (by omega))).trans d1
              clear hC1 hD1 HQ HX g5 c0 c1 c2 c3 d1
              refine wp_mono ?_ Mix.noP_imp
              refine Mix.region (fun w' => ∃ Y, w' = keepH w1 h Y) 8 [0, 0, 0, 0, 0, 0, 0, 1, 9, 9] [true, false] (by kernel_rfl) (fun _ _ _ _ _ h => h) (by rfl) (by kernel_rfl) (keepH_of fun _ _ _ => rfl) ?_
              simp only [Mix.selP_cons, Mix.selP_nil, Mix.sel_cons, Mix.sel_nil, Nat.reduceBEq, Nat.reduceAdd, cond_true, cond_false, List.drop_succ_cons, List.drop_zero]
              refine Mix.parts_q ?_
              repeat (go_big_quiet_step (fail))
              refine wpQuiet_nil ?_
              refine Mix.parts_e ?_
              refine Mix.eff_step (fun K hK => ?_)
              go_simp
              refine hK _ _ (keepH_of fun k' g1 _ => Below.heap_setCell _ _ _ _ g1) ?_
              clear hK K e5 e4 e1
              refine Mix.eff_nil (Mix.parts_n ?_)
              go_wp2_with fail
              rw [Mix.noP_n]
              go_wp2_with fail
              refine ⟨by simp, .inl ⟨_, _, rfl, run_takeDeferred HD9.out, _, asm_results rfl rfl rfl HC9.out.b0 HC9.out.b1 HC9.out.b2, .slice none 0 0, ?_, ?_, ?_⟩⟩
              · rw [HRES.out]
              · rw [HRES.out]
                exact ps_nil _
              · rw [hh]
                exact HC9.out.below
            | some a =>
              have HA := Lib.hid ha
              have hG : Calls Tryd.prog 20 #[.pointer (some ⟨h + 3, 0, none⟩), .string σ] wr fun e w' => e = .returned (.tuple #[.int .i64 (a : Int), .bool true]) ∧ Below wr.heap.size wr w' := by
                have h9 := hG
                rw [show at? st.labs (⟨wt.toArray⟩ : ByteArray).data.toList = some a from ha] at h9
                rw [hσ]
                exact h9
              clear hσ
              have HP := Lib.hid (And.intro hBg (And.intro hgl (And.intro hcsp hq)))
              clear hbd hw1 hl1 hp1 how hcw hR hK hC hD hsz hwt hx hln ha hBg hgl hcsp hq hcp hzp
              go_wp2_with (first
                | (go_at_call 20; refine hG.mono ?_; rintro e w1 ⟨rfl, hb1⟩; clear hG; obtain ⟨hR, hK, hC, hD, hsz⟩ := HQ.out; have hK1 := hK.below hb1; have hC1 := hC.bel hb1; obtain ⟨g5, -⟩ := obj_one hC1.b5; obtain ⟨c0, c1, c2, c3, -, -, -, -⟩ := obj_four hK1.blk; obtain ⟨gp', e', -, -, hcp, hzp, -, -⟩ := own_cells hK1.op (by show 0 < q.length; omega); cases e'; obtain ⟨-, hy, -⟩ := rowI_at _ _ _ HP.out.2.2.2; have d1 := hcp _ _ hy; have zf := hzp (k * 3 + 1); have HK1 := Lib.hid (And.intro hb1 (And.intro hK1 hC1)); clear hR hK hC hD hsz hK1 hC1 hcp hzp hy hb1))
              go_roundw
              case rel =>
                obtain ⟨hR, -, -, hD, hsz⟩ := HQ.out
                obtain ⟨hwt, hx, hln⟩ := HX.out
                obtain ⟨hb1, hK1, hC1⟩ := HK1.out
                obtain ⟨hBg, hgl, hcsp, hq⟩ := HP.out
                refine ⟨k + 1, _, _, by go_num, by omega, hR.put hx hwt hwe hln HA.out, hK1.putN hq (a : Int), ?_, ?_, ?_⟩
                · exact hC1.keep (fun k' _ h2 _ _ => Below.heap_setCell _ _ _ _ (by show k' ≠ gp; omega)) (hC1.below.setCell (by show h ≤ gp; omega) _)
                · exact (Below.heap_setCell _ _ _ _ (fun e => by rw [show (h + 10) = gp from e, hcsp] at hD; cases hD)).trans ((hb1.block _ (Array.getElem?_eq_some_iff.1 hD).1).trans hD)
                · have := hb1.size
                  simp [World.setCell]
                  omega
              case measure => simp [intOf]; omega
        · obtain rfl : k = m := by omega
          have hRes := hR
          rw [show k = st.prog.length by omega] at hRes
          have HRES := Lib.hid (res_ok (by have := HZ.out; omega) HSC.out hRes.done)
          have hql : q.length = st.prog.length := hR.len
          have hqn : ∀ y ∈ q, -9223372036854775808 ≤ y.n ∧ y.n ≤ 9223372036854775807 := res_bd (by omega) HBD.out.a _ _ _ _ HBD.out.n hRes.done
          have hps := ps_of hK.op (by show q.length ≤ 1000000; omega) hqn
          have hch := Cd.check_any q _ wr hps (hE.below (hh ▸ hC.below)).tab
          have HQ := Lib.hid (And.intro hK (And.intro hC (And.intro hD hsz)))
          have HQL := Lib.hid hql
          have HQN := Lib.hid hqn
          clear hR hRes hK hC hD hps hql hqn hp1 hw1 hl1 hbd hsz
          by_cases hlq : q.length = 0 ∨ 256 < q.length
          · rw [Cd.ck_many hlq] at hch
            have HRES := Lib.hid (show asmP s.data.toList = ([], 0, 13) by rw [HRES.out, show Cd.check q = (0, 13) by unfold Cd.check; rw [if_pos hlq]]; rfl)
            clear hlq
            go_wp2_with (first
              | (go_at_call 7; refine hch.mono ?_; rintro e w1 ⟨rfl, hb1⟩; clear hch; obtain ⟨hK, hC, hD, hsz⟩ := HQ.out; have hK1 := hK.below hb1; have hC1 := hC.bel hb1; have hD1 := (hb1.block _ (Array.getElem?_eq_some_iff.1 hD).1).trans hD; obtain ⟨g5, -⟩ := obj_one hC1.b5; obtain ⟨y0, z0⟩ := obj_one hC1.b0; obtain ⟨y1, z1⟩ := obj_one hC1.b1; obtain ⟨y2, z2⟩ := obj_one hC1.b2; obtain ⟨c0, c1, c2, c3, -, -, -, -⟩ := obj_four hK1.blk; have HC1 := Lib.hid (And.intro hC1 hD1); clear hK hC hD hsz hK1 hC1 hD1 hb1))
            obtain ⟨hC1, hD1⟩ := HC1.out
            have hC9 := (hC1.res (v' := .slice none 0 0) (l' := 0) (e' := 13)).shut (D := h + 10) (by omega) (.deferred none)
            have hD9 := res_D (X := w1) (v' := .slice none 0 0) (l' := 0) (e' := 13) hD1 (h := h) (by omega)
            refine ⟨by simp, .inl ⟨_, _, rfl, run_takeDeferred hD9, _, asm_results rfl rfl rfl hC9.b0 hC9.b1 hC9.b2, .slice none 0 0, ?_, ?_, ?_⟩⟩
            · rw [HRES.out]
            · rw [HRES.out]
              exact ps_nil _
            · rw [hh]
              exact hC9.below
          · cases hfb : Cd.firstBad q.length q with
            | none =>
              rw [Cd.ck_ok hlq hfb] at hch
              have HRES := Lib.hid (show asmP s.data.toList = (q, 0, 0) by rw [HRES.out, show Cd.check q = (0, 0) by unfold Cd.check; rw [if_neg hlq, hfb]]; rfl)
              clear hlq hfb
              go_wp2_with (first
                | (go_at_call 7; refine hch.mono ?_; rintro e w1 ⟨rfl, hb1⟩; clear hch; obtain ⟨hK, hC, hD, hsz⟩ := HQ.out; have hK1 := hK.below hb1; have hC1 := hC.bel hb1; have hD1 := (hb1.block _ (Array.getElem?_eq_some_iff.1 hD).1).trans hD; obtain ⟨g5, -⟩ := obj_one hC1.b5; obtain ⟨y0, z0⟩ := obj_one hC1.b0; obtain ⟨y1, z1⟩ := obj_one hC1.b1; obtain ⟨y2, z2⟩ := obj_one hC1.b2; obtain ⟨c0, c1, c2, c3, -, -, -, -⟩ := obj_four hK1.blk; have HC1 := Lib.hid (And.intro hC1 (And.intro hD1 hK1)); clear hK hC hD hsz hK1 hC1 hD1 hb1))
              obtain ⟨hC1, hD1, hK1⟩ := HC1.out
              have hC9 := (hC1.res (v' := .slice slp q.length cpp) (l' := 0) (e' := 0)).shut (D := h + 10) (by omega) (.deferred none)
              have hD9 := res_D (X := w1) (v' := .slice slp q.length cpp) (l' := 0) (e' := 0) hD1 (h := h) (by omega)
              refine ⟨by simp, .inl ⟨_, _, rfl, run_takeDeferred hD9, _, asm_results rfl rfl rfl hC9.b0 hC9.b1 hC9.b2, .slice slp q.length cpp, ?_, ?_, ?_⟩⟩
              · rw [HRES.out]
              · rw [HRES.out]
                refine ps_of (B := h + 10) (own_block hK1.op fun k' hk' => ?_) (by have := HQL.out; have := HBD.out.p; show q.length ≤ 1000000; omega) HQN.out
                have h9 := (hK1.op.lt k' hk').1
                obtain ⟨cs9, hcs9⟩ := own_type hK1.op hk'
                exact (World.putObj_heap_other (fun e => by rw [e, hD1] at hcs9; cases hcs9)).trans ((Below.heap_setCell _ _ _ _ (by show k' ≠ h + 2; omega)).trans ((Below.heap_setCell _ _ _ _ (by show k' ≠ h + 1; omega)).trans (Below.heap_setCell _ _ _ _ (by show k' ≠ h; omega))))
              · rw [hh]
                exact hC9.below
            | some i =>
              rw [Cd.ck_bad hlq hfb] at hch
              have hil := fb_lt hfb
              have q3 : i < st.lines.length := by have := HQL.out; have := HBD.out.l; omega
              obtain ⟨hK, -, -, -⟩ := HQ.out
              obtain ⟨ln, hln⟩ : ∃ ln, st.lines[i]? = some ln := ⟨_, List.getElem?_eq_getElem q3⟩
              have HRES := Lib.hid (show asmP s.data.toList = ([], (ln : Int), 30) by
                rw [HRES.out, show Cd.check q = ((i : Int), 30) by unfold Cd.check; rw [if_neg hlq, hfb]]
                simp [hln])
              obtain ⟨gl, rfl, hBl, hgl2, hcl, hzl, -⟩ := own_cells hK.ol (by show 0 < st.lines.length; omega)
              have HB1 := Lib.hid hgl2
              have HD8 := Lib.hid (hcl i (.int .i64 (ln : Int)) (by unfold rowN; rw [List.getElem?_map, hln]; rfl))
              clear hlq hfb hil hK hln hgl2 hcl hzl
              go_wp2_with (first
                | (go_at_call 7; refine hch.mono ?_; rintro e w1 ⟨rfl, hb1⟩; clear hch; obtain ⟨hK, hC, hD, hsz⟩ := HQ.out; have hK1 := hK.below hb1; have hC1 := hC.bel hb1; have hD1 := (hb1.block _ (Array.getElem?_eq_some_iff.1 hD).1).trans hD; obtain ⟨g5, -⟩ := obj_one hC1.b5; obtain ⟨y0, z0⟩ := obj_one hC1.b0; obtain ⟨y1, z1⟩ := obj_one hC1.b1; obtain ⟨y2, z2⟩ := obj_one hC1.b2; obtain ⟨c0, c1, c2, c3, -, -, -, -⟩ := obj_four hK1.blk; have d1 : w1.cell? ⟨gl, i, none⟩ = some (.int .i64 (ln : Int)) := ((hb1.cell (p := ⟨gl, i, none⟩) HB1.out).trans HD8.out); have HC1 := Lib.hid (And.intro hC1 hD1); have HB4 := Lib.hid hK1.blk; clear hK hC hD hsz hK1 hC1 hD1 hb1))
              obtain ⟨hC1, hD1⟩ := HC1.out
              have HC9 := Lib.hid ((hC1.drew.res (v' := .slice none 0 0) (l' := (ln : Int)) (e' := 30)).shut (D := h + 10) (by omega) (.deferred none))
              have HD9 := Lib.hid (res_D (X := w1.drew) (v' := .slice none 0 0) (l' := (ln : Int)) (e' := 30) hD1 (h := h) (by omega))
              have e5 := fun Y => (obj_one ((keepH_blk w1 h Y (k := h + 5) (by omega) (by omega)).trans hC1.b5)).1
              have e4 := fun Y => (obj_four ((keepH_blk w1 h Y (k := h + 4) (by omega) (by omega)).trans HB4.out)).2.1
              have e1 := fun Y => (World.cell?_of_block (w := w1) (a := ⟨gl, i, none⟩) (keepH_blk w1 h Y (k := gl) (by omega) (by omega))).trans d1
              clear hC1 hD1 HQ g5 c0 c1 c2 c3 d1
              refine wp_mono ?_ Mix.noP_imp
              refine Mix.region (fun w' => ∃ Y, w' = keepH w1 h Y) 10 [0, 0, 0, 0, 0, 0, 0, 0, 1, 1, 9] [true, false] (by kernel_rfl) (fun _ _ _ _ _ h => h) (by rfl) (by kernel_rfl) (keepH_of fun _ _ _ => rfl) ?_
              simp only [Mix.selP_cons, Mix.selP_nil, Mix.sel_cons, Mix.sel_nil, Nat.reduceBEq, Nat.reduceAdd, cond_true, cond_false, List.drop_succ_cons, List.drop_zero]
              refine Mix.parts_q ?_
              repeat (go_big_quiet_step (fail))
              refine wpQuiet_nil ?_
              refine Mix.parts_e ?_
              refine Mix.eff_step (fun K hK => ?_)
              go_simp
              refine hK _ _ (keepH_of fun k' g1 _ => Below.heap_setCell _ _ _ _ g1) ?_
              clear hK K
              refine Mix.eff_step (fun K hK => ?_)
              go_simp
              refine hK _ _ (keepH_of fun k' g1 g2 => (Below.heap_setCell _ _ _ _ g2).trans (Below.heap_setCell _ _ _ _ g1)) ?_
              clear hK K e5 e4 e1
              refine Mix.eff_nil (Mix.parts_n ?_)
              go_wp2_with fail
              rw [Mix.noP_n]
              go_wp2_with fail
              refine ⟨by simp, .inl ⟨_, _, rfl, run_takeDeferred HD9.out, _, asm_results rfl rfl rfl HC9.out.b0 HC9.out.b1 HC9.out.b2, .slice none 0 0, ?_, ?_, ?_⟩⟩
              · rw [HRES.out]
              · rw [HRES.out]
                exact ps_nil _
              · rw [hh]
                exact HC9.out.below
end Aw
end Go.Proofs.YtipcockcndnipaaDoor
