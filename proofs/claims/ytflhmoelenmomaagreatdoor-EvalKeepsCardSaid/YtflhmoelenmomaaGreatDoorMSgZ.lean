/-
  Walk: Parse of the program.
-/
import Derived.Test.YtflhmoelenmomaaGreatDoorMSgT
import Derived.Test.YtflhmoelenmomaaGreatDoorMSgS
import Derived.Test.YtflhmoelenmomaaGreatDoorMRg
namespace Go.Proofs.YtflhmoelenmomaaGreatDoor
open Go.RowKit Go.Shelf Go.Lib
namespace Sg
attribute [local go_sem] Oper.semAt_some

theorem own_block {w w' : World} {B e size n : Nat} {v : Value} {xs : List Value} (h : w.ownsRow B e size v n xs) (hb : ∀ k, v.ownBlock = some k → w'.heap[k]? = w.heap[k]?) : w'.ownsRow B e size v n xs := by
  refine ⟨h.1, h.2.imp id ?_⟩
  rintro ⟨g, cap, cur, rfl, h1, h2, h3⟩
  exact ⟨g, cap, cur, rfl, h1, (hb g rfl).trans h2, h3⟩
theorem own_type {W : World} {B e size n : Nat} {v : Value} {xs : List Value} (h : W.ownsRow B e size v n xs) {k : Nat} (hk : v.ownBlock = some k) : ∃ cs, W.heap[k]? = some (.cells cs e (0, 0)) := by
  rcases h.2 with ⟨rfl, _⟩ | ⟨g, cap, cur, rfl, _, h2, _⟩
  · cases hk
  · cases hk
    exact ⟨cur, h2⟩
theorem obj_one {W : World} {g : Nat} {u0 : Value} {T : TypeId} (h : W.heap[g]? = some (.cells #[u0] T (0, 0))) : W.cell? ⟨g, 0, none⟩ = some u0 ∧ W.frozen? ⟨g, 0, none⟩ = false := ⟨by simp [World.cell?, h], by simp [World.frozen?, h]⟩
theorem lk_new {w : World} {o : Obj} {k : Nat} (hk : k = w.heap.size) : (w.alloc o).heap[k]? = some o := by subst hk; exact heap_alloc_new w o
theorem lk_old {w : World} {o x : Obj} {k : Nat} (hk : k < w.heap.size) (h : w.heap[k]? = some x) : (w.alloc o).heap[k]? = some x := (heap_alloc_old _ _ hk).trans h
theorem GO.pushIn {F : Fence} {nF : Nat} {w : World} {B : Nat} {v : Value} {l : List G} (h : GO w B v l) (g : G) (hn : l.length ≤ 1000000) (hBw : B ≤ w.heap.size) {ops : Array Oper} {rest : List Oper} {o : Oper} {a : Act} {Q : Exit → Act → World → Prop} (hgd : o.guard = none) (sl xo : Operand)
    (ho : o.op = .call { callee := .builtin .append, args := #[sl, xo], argTypes := #[40, 40] }) (hv : a.eval sl = v) {A : Nat} (hx : a.eval xo = .slice (some ⟨A, 0, none⟩) 1 1) (hA : A = w.heap.size)
    (hK : ∀ v' w', GO w' B v' (l ++ [g]) → w.heap.size ≤ w'.heap.size → (∀ B' w0, B' ≤ B → Below B' w0 w → Below B' w0 w') → (∀ k, k < w.heap.size → v.ownBlock ≠ some k → w'.heap[k]? = w.heap[k]?) → wpListIn F nF Tryz.prog ops Q rest (a.put o.dst v') w') : wpListIn F nF Tryz.prog ops Q (o :: rest) a (w.alloc (.cells #[.int .i64 g.1, .int .i64 g.2] 55)) := by
  subst hA
  obtain ⟨i0, hi0, hz⟩ := Option.map_eq_some_iff.1 info_gap
  obtain ⟨z1, z2⟩ := Prod.mk.inj hz
  obtain ⟨z2, z3⟩ := Prod.mk.inj z2
  have h1 : GO (w.alloc (.cells #[.int .i64 g.1, .int .i64 g.2] 55)) B v l := h.below ((Below.refl _ _).alloc (Nat.le_refl _) _)
  refine wpListIn_append_own _ hgd sl xo 40 ho B 55 i0 _ 2 16 Tryz.underlying40 hi0 z1 z2 z3 rfl (by decide) v l.length _ hv h1 ⟨w.heap.size, 0, none⟩ 1 1 [.int .i64 g.1, .int .i64 g.2] hx rfl (World.news_of_block (cs := #[.int .i64 g.1, .int .i64 g.2]) (heap_alloc_new w _)) ?_ (by unfold maxLen; omega) (by omega) (by simp; omega) ?_
  · intro q hq
    simp only [List.mem_cons, List.not_mem_nil, or_false] at hq
    rcases hq with rfl | rfl <;> rfl
  intro v' w2 hown2 hg2 _
  refine hK v' w2 ?_ (by have := hg2.size; simp at this; omega) (fun B' w0 hb h0 => (h0.alloc (Nat.le_trans hb hBw) _).grown hg2 (by simp; omega) (fun k hk => Nat.le_trans hb (h.lt k hk).1)) (fun k hk hne => (hg2.block k (by simp; omega) (fun e => hne e.symm)).trans (heap_alloc_old w _ hk))
  unfold GO
  rw [List.length_append, row_app]
  exact hown2
theorem terms_snoc {ts : List (List UInt8)} {t : List UInt8} : termsF (ts ++ [t]) [] = (termsF ts []).bind fun out => (termF t).map fun g => out ++ [g] := by
  rw [terms_app]
  cases termsF ts [] with
  | none => rfl
  | some out =>
    show termsF [t] out = (termF t).map fun g => out ++ [g]
    rw [termsF]
    cases termF t <;> rfl
theorem words_snoc {ws : List (List UInt8)} {w : List UInt8} : wordsF (ws ++ [w]) top = (wordsF ws top).bind fun g => (boundL w).map (meet g) := by
  rw [words_app]
  cases wordsF ws top with
  | none => rfl
  | some g =>
    show wordsF [w] g = (boundL w).map (meet g)
    rw [wordsF]
    cases boundL w <;> rfl
theorem in9_bd {g : G} (h : In9 g) : Bd g := ⟨⟨h.1, h.2.1⟩, h.2.2.1, h.2.2.2⟩
/-- what a text means: an error, or its gaps -/
def setF (l : List UInt8) : Except Int (List G) := if 256 < l.length then .error 3 else if l = noneL then .ok [] else match allF l with
  | none => .error 21
  | some r => .ok r
/-- what Parse answers -/
def PQ (B : Nat) : Except Int (List G) → Ending → World → Prop
  | .error c, e, _ => e = .returned (.tuple #[.slice none 0 0, .int .i64 c])
  | .ok l, e, W' => ∃ r, SetP B (fun n => inR l n) r e W'
theorem parse_results {tmps : Array Value} {X : World} {h : Nat} {sl : Option Addr} {n c : Nat} {e : Int} (t2 : tmps[2]? = some (.pointer (some ⟨h, 0, none⟩))) (t3 : tmps[3]? = some (.pointer (some ⟨h + 1, 0, none⟩)))
    (b0 : X.heap[h]? = some (.cells #[.slice sl n c] 40 (0, 0))) (b1 : X.heap[h + 1]? = some (.cells #[.int .i64 e] 27 (0, 0))) :
    (results Tryz.f30 tmps).run Tryz.prog X = .ok (.tuple #[.slice sl n c, .int .i64 e]) X := by
  obtain ⟨c0, -⟩ := obj_one b0
  obtain ⟨c1, -⟩ := obj_one b1
  simp [results, Tryz.results30, go_sem, t2, t3, c0, c1]
/-- the function's own cells: its two results, the gaps so far -/
structure ZC (W : World) (h : Nat) (va : Value) (out : List G) (X : World) : Prop where
  b0 : X.heap[h]? = some (.cells #[.slice none 0 0] 40 (0, 0))
  b1 : X.heap[h + 1]? = some (.cells #[.int .i64 0] 27 (0, 0))
  b2 : X.heap[h + 2]? = some (.cells #[va] 40 (0, 0))
  own : GO X (h + 6) va out
  below : Below h W X
theorem ZC.keep {W X X' : World} {h : Nat} {va : Value} {out : List G} (z : ZC W h va out X) (hb : ∀ k, h ≤ k → k < h + 3 → X'.heap[k]? = X.heap[k]?) (ho : ∀ k, va.ownBlock = some k → X'.heap[k]? = X.heap[k]?) (hB : Below h W X') : ZC W h va out X' :=
  ⟨(hb _ (by omega) (by omega)).trans z.b0, (hb _ (by omega) (by omega)).trans z.b1, (hb _ (by omega) (by omega)).trans z.b2, own_block z.own ho, hB⟩
theorem ZC.lt {W X : World} {h : Nat} {va : Value} {out : List G} (z : ZC W h va out X) : h + 2 < X.heap.size := (Array.getElem?_eq_some_iff.1 z.b2).1
theorem ZC.bel {W X X' : World} {h : Nat} {va : Value} {out : List G} (z : ZC W h va out X) (hB : Below X.heap.size X X') : ZC W h va out X' :=
  z.keep (fun k _ h2 => hB.block k (by have := z.lt; omega)) (fun k hk => hB.block k (z.own.lt k hk).2) (z.below.trans (hB.mono (by have := z.lt; omega)))
theorem ZC.grown {W X X' : World} {h : Nat} {va : Value} {out : List G} {row : Option Nat} (z : ZC W h va out X) (hg : X.grownBy X' row) (hr : ∀ r, row = some r → h + 6 ≤ r ∧ ∃ o : Obj, X.heap[r]? = some o ∧ o.isCells = false) : ZC W h va out X' :=
  z.keep (fun k _ h2 => hg.block k (by have := z.lt; omega) (fun e => by have := (hr k e.symm).1; omega))
    (fun k hk => hg.block k (z.own.lt k hk).2 (fun e => by
      obtain ⟨_, o, ho, hc⟩ := hr k e.symm
      obtain ⟨cs, hcs⟩ := own_type z.own hk
      rw [hcs] at ho
      cases ho
      cases hc))
    (z.below.grown hg (by have := z.lt; omega) (fun k e => by have := (hr k e).1; omega))
/-- between two rounds -/
def ZI (W : World) (h : Nat) (pre : List ByteArray) (X : World) : Prop := h + 6 ≤ X.heap.size ∧ ∃ va out, ZC W h va out X ∧ termsF (pre.map Sps.bL) [] = some out
/-- a round has left -/
def ZX (W : World) (h : Nat) (k : Code) (pre : List ByteArray) (X : World) : Prop := h + 6 ≤ X.heap.size ∧ k = .ret ∧ termsF (pre.map Sps.bL) [] = none ∧ X.heap[h]? = some (.cells #[.slice none 0 0] 40 (0, 0)) ∧ X.heap[h + 1]? = some (.cells #[.int .i64 21] 27 (0, 0)) ∧ Below h W X
theorem ZI.own (W : World) (h : Nat) : OwnFrom (h + 6) (ZI W h) := fun s X X' row hs hg hr => by
  obtain ⟨h1, va, out, h2, h3⟩ := hs
  exact ⟨Nat.le_trans h1 hg.size, va, out, h2.grown hg hr, h3⟩
theorem ZX.own (W : World) (h : Nat) (k : Code) : OwnFrom (h + 6) (ZX W h k) := fun s X X' row hs hg hr => by
  obtain ⟨h1, h2, h3, h4, h5, h6⟩ := hs
  exact ⟨Nat.le_trans h1 hg.size, h2, h3, (hg.block h (by omega) (fun e => by have := (hr h e.symm).1; omega)).trans h4, (hg.block (h + 1) (by omega) (fun e => by have := (hr (h + 1) e.symm).1; omega)).trans h5, h6.grown hg (by omega) (fun k e => by have := (hr k e).1; omega)⟩
theorem ZI.cell (W : World) (h : Nat) (s : List ByteArray) (X : World) (v : Value) (hs : ZI W h s X) : ZI W h s (X.setCell ⟨h + 3, 0, none⟩ v) := by
  obtain ⟨h1, va, out, h2, h3⟩ := hs
  refine ⟨by simpa [World.setCell] using h1, va, out, h2.keep (fun k _ g2 => Below.heap_setCell _ _ _ _ (by show k ≠ h + 3; omega)) (fun k hk => Below.heap_setCell _ _ _ _ (by have := (h2.own.lt k hk).1; show k ≠ h + 3; omega)) (h2.below.setCell (by show h ≤ h + 3; omega) _), h3⟩
/-- the inner loop, between two rounds: the gap's block is the round's first new one -/
def YI (X0 : World) (pre : List ByteArray) (Y : World) : Prop := X0.heap.size + 4 ≤ Y.heap.size ∧ Below X0.heap.size X0 Y ∧ ∃ g : G, Y.heap[X0.heap.size]? = some (.cells #[.int .i64 g.1, .int .i64 g.2] 55 (0, 0)) ∧ wordsF (pre.map Sps.bL) top = some g ∧ In9 g
/-- a round of it has left -/
def YX (W X0 : World) (h : Nat) (k : Code) (pre : List ByteArray) (Y : World) : Prop := X0.heap.size + 4 ≤ Y.heap.size ∧ k = .ret ∧ wordsF (pre.map Sps.bL) top = none ∧ Y.heap[h]? = some (.cells #[.slice none 0 0] 40 (0, 0)) ∧ Y.heap[h + 1]? = some (.cells #[.int .i64 21] 27 (0, 0)) ∧ Below h W Y ∧ ∀ k, h + 2 ≤ k → k < X0.heap.size → Y.heap[k]? = X0.heap[k]?
theorem YI.own (X0 : World) : OwnFrom (X0.heap.size + 4) (YI X0) := fun s X X' row hs hg hr => by
  obtain ⟨h1, h2, g, h3, h4, h5⟩ := hs
  exact ⟨Nat.le_trans h1 hg.size, h2.grown hg (by omega) (fun k e => by have := (hr k e).1; omega), g, (hg.block _ (by omega) (fun e => by have := (hr _ e.symm).1; omega)).trans h3, h4, h5⟩
theorem YX.own (W X0 : World) (h : Nat) (hh : h + 2 ≤ X0.heap.size) (k : Code) : OwnFrom (X0.heap.size + 4) (YX W X0 h k) := fun s X X' row hs hg hr => by
  obtain ⟨h1, h2, h3, h4, h5, h6, h7⟩ := hs
  refine ⟨Nat.le_trans h1 hg.size, h2, h3, (hg.block h (by omega) (fun e => by have := (hr h e.symm).1; omega)).trans h4, (hg.block (h + 1) (by omega) (fun e => by have := (hr (h + 1) e.symm).1; omega)).trans h5, h6.grown hg (by omega) (fun k e => by have := (hr k e).1; omega), fun k g1 g2 => (hg.block k (by omega) (fun e => by have := (hr k e.symm).1; omega)).trans (h7 k g1 g2)⟩
theorem YI.cell (X0 : World) (s : List ByteArray) (X : World) (v : Value) (hs : YI X0 s X) : YI X0 s (X.setCell ⟨X0.heap.size + 1, 0, none⟩ v) := by
  obtain ⟨h1, h2, g, h3, h4, h5⟩ := hs
  exact ⟨by simpa [World.setCell] using h1, h2.setCell (by show X0.heap.size ≤ X0.heap.size + 1; omega) _, g, (Below.heap_setCell _ _ _ _ (by show X0.heap.size ≠ X0.heap.size + 1; omega)).trans h3, h4, h5⟩
theorem kp_t {B : Nat} {X Y Z : World} (h1 : Sps.Kp B X Y) (h2 : Sps.Kp B Y Z) : Sps.Kp B X Z := ⟨Nat.le_trans h1.1 h2.1, fun k g1 g2 => (h2.2.1 k g1 g2).trans (h1.2.1 k g1 g2), h2.2.2.trans h1.2.2⟩
theorem kp_b {B D : Nat} (hB : B + 3 ≤ D) (h2 : 2 < D) (X : World) (l : Nat) (o o' : Obj) (hl : D ≤ l) (_ : X.heap[l]? = some o) (_ : o.isCells = false) : Sps.Kp B X (X.putObj l o') :=
  ⟨by simp [World.putObj], fun k g1 g2 => World.putObj_heap_other (by omega), World.putObj_heap_other (by have := h2; omega)⟩
theorem pre_none {sep s : ByteArray} {pre : List ByteArray} (h : Sps.Pre sep s pre) : ∃ more, Sg.cuts (Sps.bL sep) (Sps.bL s) = pre.map Sps.bL ++ more := by
  obtain ⟨⟨more, hm⟩, _⟩ := h
  exact ⟨more, hm.symm⟩
theorem below_shut {R D : Nat} {W X : World} (h : Below R W X) (hD : R ≤ D) (o : Obj) : Below R W (X.putObj D o) :=
  ⟨h.os, h.tape, h.output, by have := h.size; simpa [World.putObj] using this, fun k hk => (World.putObj_heap_other (by omega)).trans (h.block k hk)⟩
theorem size_sets {α : Type} (a : Array α) (f : α → α) (i : Nat) : (a.modify i f).size = a.size := Array.size_modify
theorem keeps_two {D : Nat} {Y w : World} (hB : Below Y.heap.size Y w) {p q : Addr} (hp : p.block < D) (hq : q.block < D) (u v : Value) : KeepsFrom D Y ((w.setCell p u).setCell q v) :=
  ⟨by simpa [World.setCell] using hB.size, fun k o hk h0 _ => (Below.heap_setCell _ _ _ _ (by omega)).trans ((Below.heap_setCell _ _ _ _ (by omega)).trans ((hB.block k (Array.getElem?_eq_some_iff.1 h0).1).trans h0))⟩
theorem parse_fin {W X W8 : World} {R : Nat} {T1 T2 : TypeId} {u0 u1 : Value} (hX : R + 7 ≤ X.heap.size) (hB : Below R W X) (hB8 : Below X.heap.size X W8) (hb0 : X.heap[R]? = some (.cells #[u0] T1 (0, 0))) (hb1 : X.heap[R + 1]? = some (.cells #[u1] T2 (0, 0))) (hD : X.heap[R + 6]? = some (.deferred (some []))) (x y : Value) :
    ((W8.setCell ⟨R, 0, none⟩ x).setCell ⟨R + 1, 0, none⟩ y).heap[R + 6]? = some (.deferred (some [])) ∧ (((W8.setCell ⟨R, 0, none⟩ x).setCell ⟨R + 1, 0, none⟩ y).putObj (R + 6) (.deferred none)).heap[R]? = some (.cells #[x] T1 (0, 0)) ∧
    (((W8.setCell ⟨R, 0, none⟩ x).setCell ⟨R + 1, 0, none⟩ y).putObj (R + 6) (.deferred none)).heap[R + 1]? = some (.cells #[y] T2 (0, 0)) ∧ Below R W (((W8.setCell ⟨R, 0, none⟩ x).setCell ⟨R + 1, 0, none⟩ y).putObj (R + 6) (.deferred none)) ∧
    ∀ k, k ≠ R → k ≠ R + 1 → k ≠ R + 6 → (((W8.setCell ⟨R, 0, none⟩ x).setCell ⟨R + 1, 0, none⟩ y).putObj (R + 6) (.deferred none)).heap[k]? = W8.heap[k]? := by
  have key : ∀ k, k ≠ R → k ≠ R + 1 → ((W8.setCell ⟨R, 0, none⟩ x).setCell ⟨R + 1, 0, none⟩ y).heap[k]? = W8.heap[k]? := fun k h1 h2 => (Below.heap_setCell _ _ _ _ h2).trans (Below.heap_setCell _ _ _ _ h1)
  have e0 := (hB8.block R (by omega)).trans hb0
  have e1 := (hB8.block (R + 1) (by omega)).trans hb1
  refine ⟨(key _ (by omega) (by omega)).trans ((hB8.block _ (by omega)).trans hD), (World.putObj_heap_other (by omega)).trans ?_, (World.putObj_heap_other (by omega)).trans ?_, below_shut ((((hB.trans (hB8.mono (by omega))).setCell (p := ⟨R, 0, none⟩) (Nat.le_refl _) _).setCell (p := ⟨R + 1, 0, none⟩) (by show R ≤ R + 1; omega) _)) (by omega) _, fun k h1 h2 h3 => (World.putObj_heap_other h3).trans (key k h1 h2)⟩
  · exact (Below.heap_setCell _ _ _ _ (by show R ≠ R + 1; omega)).trans (heap_setCell_same _ R 0 _ _ _ e0)
  · exact heap_setCell_same _ (R + 1) 0 _ _ _ ((Below.heap_setCell _ _ _ _ (by show R + 1 ≠ R; omega)).trans e1)
set_option maxHeartbeats 8000000 in
set_option maxRecDepth 100000 in
theorem parse_any (s : ByteArray) (W : World) (hs : s.size ≤ 1048576) (hE : Vs.Env W) :
    Calls Tryz.prog 30 #[.string s] W fun e W' => PQ W.heap.size (setF s.data.toList) e W' ∧ Below W.heap.size W W' := by
  have hz := Lib.size_eq s
  have hbig := hE.big
  by_cases hl : 256 < s.size
  · have HR := Lib.hid (show setF s.data.toList = .error 3 by unfold setF; rw [if_pos (by omega)])
    have k0 : (256 : Int) < (s.size : Int) := by omega
    clear hz hl
    go_enter Tryz.func30, Tryz.ntmps30
    go_wp2_with fail
    refine ⟨rfl, _, parse_results (h := W.heap.size) (sl := none) (n := 0) (c := 0) (e := 3) rfl rfl ?_ ?_, by rw [HR.out]; exact rfl, ?_⟩
    · exact lk_old (by simp) (heap_alloc_new _ _)
    · exact lk_new (by simp)
    · exact ((Below.refl _ W).alloc (Nat.le_refl _) _).alloc (by simp) _
  · have k0 : ¬ (256 : Int) < (s.size : Int) := by omega
    by_cases hnn : s.data.toList = noneL
    · have HR := Lib.hid (show setF s.data.toList = .ok [] by unfold setF; rw [if_neg (by omega), if_pos hnn])
      have k1 := str_tt hnn
      clear hz hl hnn
      go_enter Tryz.func30, Tryz.ntmps30
      go_wp2_with fail
      refine ⟨rfl, _, parse_results (h := W.heap.size) (sl := none) (n := 0) (c := 0) (e := 0) rfl rfl ?_ ?_, by rw [HR.out]; exact ⟨[], Nm.nil, fun n => Iff.rfl, (fun g hg => by cases hg), .inr ⟨by simp, _, rfl, go_nil _ _⟩⟩, ?_⟩
      · exact lk_old (by simp) (heap_alloc_new _ _)
      · exact lk_new (by simp)
      · exact ((Below.refl _ W).alloc (Nat.le_refl _) _).alloc (by simp) _
    · have k1 := str_ff hnn
      have HS := Lib.hid (show setF s.data.toList = match allF s.data.toList with | none => .error 21 | some r => .ok r by unfold setF; rw [if_neg (by omega), if_neg hnn])
      have hs256 : s.size ≤ 256 := by omega
      clear hz hl hnn
      refine (callsIn_wide (n := 9)).1 ?_
      refine callsIn_of_wp_marks Tryz.func30 rfl trivial ?_ rfl
      simp only [Tryz.ntmps30, List.size_toArray, List.length_cons, List.length_nil, Nat.reduceAdd, Nat.reduceSub, Array.replicate_succ, Array.replicate_zero, List.push_toArray, List.append_toArray, List.nil_append, List.cons_append]
      gi_wp2_with (refine ⟨trivial, ?_⟩; gi_at_call 48; refine (callsIn_wide.2 (Sps.seq_any s _ _)).mono ?_; rintro e w0 ⟨rfl, rfl⟩)
      simp only [Nat.add_assoc, Nat.reduceAdd]
      obtain ⟨W3, hW3⟩ : ∃ X, X = ((W.alloc (.cells #[.slice none 0 0] 40)).alloc (.cells #[.int .i64 0] 27)).alloc (.cells #[.slice none 0 0] 40) := ⟨_, rfl⟩
      rw [← hW3]
      have hO3 := Sps.own3_new s ⟨#[32, 124, 32]⟩ W3
      have hs3 : W3.heap.size = W.heap.size + 3 := by rw [hW3]; simp
      obtain ⟨X0, hX0⟩ : ∃ X, X = ((W3.alloc (.cells #[.string s] 9)).alloc (.cells #[.string ⟨#[32, 124, 32]⟩] 9)).alloc (.cells #[.int .i64 0] 3) := ⟨_, rfl⟩
      rw [← hX0] at hO3 ⊢
      rw [hs3] at hO3
      have hs0 : X0.heap.size = W.heap.size + 6 := by rw [hX0]; simp [hs3]
      have hBX : Below W.heap.size W X0 := by
        rw [hX0, hW3]
        refine ((((((Below.refl _ W).alloc ?_ _).alloc ?_ _).alloc ?_ _).alloc ?_ _).alloc ?_ _).alloc ?_ _
        all_goals simp
        all_goals omega
      have h0 : ZI W W.heap.size [] X0 := by
        refine ⟨by omega, .slice none 0 0, [], ⟨?_, ?_, ?_, go_nil _ _, hBX⟩, rfl⟩
        all_goals rw [hX0, hW3]
        all_goals repeat (first | (refine lk_new ?_; ((repeat rw [World.size_alloc]) <;> omega); done) | (refine lk_old ?_ ?_; · (repeat rw [World.size_alloc]) <;> omega))
      have hM0 : Sps.Mx X0 := (hE.below (Nat.le_refl _) hBX).max
      clear hX0 hs3 hW3
      generalize hh : W.heap.size = R at *
      refine Rg.wpIn_rangeB (lb := #[.pointer (some ⟨R + 3 + 1, 0, none⟩), .pointer (some ⟨R + 3, 0, none⟩), .pointer (some ⟨R + 3 + 2, 0, none⟩)]) rfl (by omega) rfl trivial (enters_of Tryz.func102 (by kernel_rfl) rfl) (Sps.split_stops 8 (by omega) ⟨#[32, 124, 32]⟩ s (by decide) hs (by decide) (R + 3) (by omega) X0 (by omega) hO3 hM0) (fun {_ _ _} h1 h2 => kp_t h1 h2) (kp_b (by omega) (by omega)) (Below.refl _ _) (by show R + 3 < _; omega) (fun _ => rfl) (ZI W R) (ZX W R) (hs0 ▸ ZI.own W R) (ZI.cell W R) (fun k => hs0 ▸ ZX.own W R k) h0 ?a1 ?assign ?body ?done ?stop
      case assign =>
        intro l x X K hK
        gi_wp2
        exact hK
      case body =>
        rintro l pre x X hl0 ⟨r0, hr0⟩ hsp ⟨hX, va, out, hZ, hto⟩
        have hpl : out.length = pre.length := by have := (terms_in _ _ (fun g hg => by cases hg) _ hto).2; simpa using this
        have hpre : pre.length ≤ 300 := by
          obtain ⟨⟨more, hm⟩, _⟩ := hsp
          have h9 := cuts_len bar (Sps.bL s)
          rw [show Sps.bL ⟨#[32, 124, 32]⟩ = bar from rfl] at hm
          rw [← hm] at h9
          have h8 : (Sps.bL s).length = s.size := (Lib.size_eq s).symm
          simp only [List.length_append, List.length_map, List.length_cons, List.length_nil] at h9
          omega
        have hxs : x.size ≤ 1048576 := Nat.le_trans (hsp.2 x (by simp)) hs
        have hrl := (Array.getElem?_eq_some_iff.1 hr0).1
        have HTO := Lib.hid hto
        have HPL := Lib.hid (And.intro hpl hpre)
        clear hto hpl hpre
        gi_wp2_with (refine ⟨trivial, ?_⟩; gi_at_call 48; refine (CallsIn.inRound l (callsIn_wide.2 (Sps.seq_any x _ _))).mono ?_; rintro e w0 ⟨rfl, rfl⟩)
        simp only [Nat.add_assoc, Nat.reduceAdd]
        obtain ⟨X1, hX1⟩ : ∃ Y, Y = X.alloc (.cells #[.int .i64 0, .int .i64 1000000000] 55) := ⟨_, rfl⟩
        rw [← hX1]
        have hO4 := Sps.own3_new x ⟨#[32]⟩ X1
        have hs1 : X1.heap.size = X.heap.size + 1 := by rw [hX1]; simp
        obtain ⟨Y0, hY0⟩ : ∃ Y, Y = ((X1.alloc (.cells #[.string x] 9)).alloc (.cells #[.string ⟨#[32]⟩] 9)).alloc (.cells #[.int .i64 0] 3) := ⟨_, rfl⟩
        rw [← hY0] at hO4 ⊢
        rw [hs1] at hO4
        have hsY : Y0.heap.size = X.heap.size + 4 := by rw [hY0]; simp [hs1]
        have hBY0 : Below X.heap.size X Y0 := by
          rw [hY0, hX1]
          refine ((((Below.refl _ X).alloc ?_ _).alloc ?_ _).alloc ?_ _).alloc ?_ _
          all_goals simp
          all_goals omega
        have h0' : YI X [] Y0 := by
          refine ⟨by omega, hBY0, top, ?_, rfl, top_in⟩
          rw [hY0, hX1]
          repeat (first | (refine lk_new ?_; ((repeat rw [World.size_alloc]) <;> omega); done) | (refine lk_old ?_ ?_; · (repeat rw [World.size_alloc]) <;> omega))
        have hM1 : Sps.Mx Y0 := (hE.below (Nat.le_of_eq hh) (hZ.below.trans (hBY0.mono (by omega)))).max
        have hr1 : Y0.heap[l]? = some (.loop r0) := (hBY0.block l hrl).trans hr0
        clear hX1 hs1 hY0
        refine Rg.wpIn_rangeN (l₀ := l) (r₀ := r0) rfl hr1 (by omega) (lb := #[.pointer (some ⟨X.heap.size + 1 + 1, 0, none⟩), .pointer (some ⟨X.heap.size + 1, 0, none⟩), .pointer (some ⟨X.heap.size + 1 + 2, 0, none⟩)]) rfl trivial (enters_of Tryz.func102 (by kernel_rfl) rfl) ((Sps.split_stops 6 (by omega) ⟨#[32]⟩ x (by decide) hxs (by decide) (X.heap.size + 1) (by omega) Y0 (by omega) hO4 hM1).inRound l) (fun {_ _ _} h1 h2 => kp_t h1 h2) (kp_b (by omega) (by omega)) (Below.refl _ _) (by show X.heap.size + 1 < _; omega) (fun _ => rfl) (YI X) (YX W X R) (hsY ▸ YI.own X) (YI.cell X) (fun k => hsY ▸ YX.own W X R (by omega) k) h0' ?a2 ?assign2 ?body2 ?done2 ?stop2
        case assign2 =>
          intro l2 x2 Y K hK
          gi_wp2
          exact hK
        case body2 =>
          rintro l2 pre2 x2 Y hsp2 ⟨hY, hBY, g, hG, hwd, hg9⟩
          have hx2 : x2.size ≤ 1048576 := Nat.le_trans (hsp2.2 x2 (by simp)) hxs
          have hBWY : Below R W Y := hZ.below.trans (hBY.mono (by omega))
          have hba := bound_any x2 Y hx2 (hE.below (Nat.le_of_eq hh) hBWY)
          have HWS := Lib.hid (words_snoc (ws := pre2.map Sps.bL) (w := Sps.bL x2))
          have HWD := Lib.hid hwd
          have hcell : ∀ {k : Nat} {o : Obj}, k < X.heap.size → X.heap[k]? = some o → Y.heap[k]? = some o := fun hk ho => (hBY.block _ hk).trans ho
          have e0 := hcell (by omega) hZ.b0
          have e1 := hcell (by omega) hZ.b1
          have HY := Lib.hid (And.intro hY (And.intro hBY (And.intro hG (And.intro hBWY (And.intro e0 e1)))))
          have H9 := Lib.hid hg9
          cases hbl : boundL (Sps.bL x2) with
          | none =>
            have hba2 : Calls Tryz.prog 49 #[.string x2] Y fun e W' => (∃ g : G, e = .returned (.tuple #[gapV g, .bool false])) ∧ Below Y.heap.size Y W' := hba.mono fun e W' hq => by
              refine ⟨?_, hq.2⟩
              rcases hq.1 with ⟨k, hk, _⟩ | ⟨_, k, hk⟩
              · rw [show boundL x2.data.toList = none from hbl] at hk; cases hk
              · exact ⟨k, hk⟩
            have HN := Lib.hid (show wordsF (List.map Sps.bL (pre2 ++ [x2])) top = none by rw [List.map_append, List.map_cons, List.map_nil, HWS.out, hwd, hbl]; rfl)
            clear hba hbl hwd hg9 hG hY hBY e0 e1 hcell hBWY
            gi_wp2_with (refine ⟨trivial, ?_⟩; gi_at_call 49; refine (CallsIn.inRound l2 (CallsIn.inRound l (callsIn_wide.2 hba2))).mono ?_; rintro e Y1 ⟨⟨k, rfl⟩, hB1⟩; obtain ⟨hY, hBY, hG, hBWY, e0, e1⟩ := HY.out; have hB2 := hB1.alloc hB1.size (.cells #[.int .i64 k.1, .int .i64 k.2] 55); obtain ⟨c0, f0⟩ := obj_one ((hB2.block R (by omega)).trans e0); obtain ⟨c1, f1⟩ := obj_one ((hB2.block (R + 1) (by omega)).trans e1); have HB2 := Lib.hid hB2; clear hY hBY hG hBWY e0 e1 hB1 hB2)
            obtain ⟨hY, hBY, hG, hBWY, e0, e1⟩ := HY.out
            have hB2 := HB2.out
            have hX6 : R + 6 ≤ X.heap.size := hX
            refine ⟨keeps_two hB2 (by show R < _; omega) (by show R + 1 < _; omega) _ _, ?_⟩
            exact ⟨by have := hB2.size; simp only [World.setCell, size_sets]; omega, rfl, HN.out, (Below.heap_setCell _ _ _ _ (by show R ≠ R + 1; omega)).trans (heap_setCell_same _ R 0 _ _ _ ((hB2.block R (by omega)).trans e0)), heap_setCell_same _ (R + 1) 0 _ _ _ ((Below.heap_setCell _ _ _ _ (by show R + 1 ≠ R; omega)).trans ((hB2.block (R + 1) (by omega)).trans e1)), ((hBWY.trans (hB2.mono (by omega))).setCell (p := ⟨R, 0, none⟩) (Nat.le_refl _) _).setCell (p := ⟨R + 1, 0, none⟩) (by show R ≤ R + 1; omega) _, fun q g1 g2 => (Below.heap_setCell _ _ _ _ (by show q ≠ R + 1; omega)).trans ((Below.heap_setCell _ _ _ _ (by show q ≠ R; omega)).trans ((hB2.block q (by omega)).trans (hBY.block q g2)))⟩
          | some k =>
            have hba2 : Calls Tryz.prog 49 #[.string x2] Y fun e W' => e = .returned (.tuple #[gapV k, .bool true]) ∧ Below Y.heap.size Y W' := hba.mono fun e W' hq => by
              refine ⟨?_, hq.2⟩
              rcases hq.1 with ⟨k', hk, he⟩ | ⟨hk, _⟩
              · rw [show boundL x2.data.toList = some k from hbl] at hk; cases hk; exact he
              · rw [show boundL x2.data.toList = some k from hbl] at hk; cases hk
            have HN := Lib.hid (show wordsF (List.map Sps.bL (pre2 ++ [x2])) top = some (meet g k) by rw [List.map_append, List.map_cons, List.map_nil, HWS.out, hwd, hbl]; rfl)
            have HM := Lib.hid (meet_in hg9 (bound_in hbl))
            clear hba hbl hwd hg9 hG hY hBY e0 e1 hcell hBWY
            gi_wp2_with (refine ⟨trivial, ?_⟩; gi_at_call 49; refine (CallsIn.inRound l2 (CallsIn.inRound l (callsIn_wide.2 hba2))).mono ?_; rintro e Y1 ⟨rfl, hB1⟩; obtain ⟨hY, hBY, hG, hBWY, e0, e1⟩ := HY.out; have hB2 := hB1.alloc hB1.size (.cells #[.int .i64 k.1, .int .i64 k.2] 55); obtain ⟨c0, c1, f0, f1⟩ := obj_two ((hB2.block X.heap.size (by omega)).trans hG); obtain ⟨d0, d1, -, -⟩ := obj_two (heap_alloc_new Y1 (.cells #[.int .i64 k.1, .int .i64 k.2] 55)); have HB2 := Lib.hid hB2; clear hY hBY hG hBWY e0 e1 hB1 hB2)
            obtain ⟨hY, hBY, hG, hBWY, e0, e1⟩ := HY.out
            have hB2 := HB2.out
            have hX6 : R + 6 ≤ X.heap.size := hX
            refine ⟨keeps_two hB2 (by show X.heap.size < _; omega) (by show X.heap.size < _; omega) _ _, ⟨?_, ?_, ?_⟩, ?_⟩
            · have := hB2.size; simp only [World.setCell, size_sets]; omega
            · exact fun q g1 g2 => (Below.heap_setCell _ _ _ _ (by show q ≠ X.heap.size; omega)).trans ((Below.heap_setCell _ _ _ _ (by show q ≠ X.heap.size; omega)).trans (hB2.block q (by omega)))
            · exact (Below.heap_setCell _ _ _ _ (by show _ ≠ X.heap.size; omega)).trans ((Below.heap_setCell _ _ _ _ (by show _ ≠ X.heap.size; omega)).trans (hB2.block _ (by omega)))
            · exact ⟨by have := hB2.size; simp only [World.setCell, size_sets]; omega, ((hBY.trans (hB2.mono (by omega))).setCell (p := ⟨X.heap.size, 0, none⟩) (Nat.le_refl _) _).setCell (p := ⟨X.heap.size, 1, none⟩) (Nat.le_refl _) _, meet g k, two_set ((hB2.block X.heap.size (by omega)).trans hG) _ _, HN.out, HM.out⟩
        case stop2 =>
          rintro k pre2 Y hsp2 ⟨hY, rfl, hwd, b0, b1, hBW, hsame⟩
          have hT : termF (Sps.bL x) = none := by
            obtain ⟨more, hm⟩ := pre_none hsp2
            unfold termF
            rw [show ([32] : List UInt8) = Sps.bL ⟨#[32]⟩ from rfl, hm, words_app, hwd]
            rfl
          have HN := Lib.hid (show termsF ((pre ++ [x]).map Sps.bL) [] = none by rw [List.map_append, List.map_cons, List.map_nil, terms_snoc, HTO.out]; show (termF (Sps.bL x)).map _ = none; rw [hT]; rfl)
          clear hwd hT
          gi_wp2
          rw [hs0]
          exact ⟨⟨by omega, fun q o g1 g2 _ => (hsame q (by omega) (Array.getElem?_eq_some_iff.1 g2).1).trans g2⟩, by omega, rfl, HN.out, b0, b1, hBW⟩
        case done2 =>
          rintro xs Y hS ⟨hY, hBY, g, hG, hwd, hg9⟩
          have hT : termF (Sps.bL x) = some g := by
            unfold termF
            rw [show ([32] : List UInt8) = Sps.bL ⟨#[32]⟩ from rfl, ← hS]
            exact hwd
          have HN := Lib.hid (show termsF ((pre ++ [x]).map Sps.bL) [] = some (out ++ [g]) by rw [List.map_append, List.map_cons, List.map_nil, terms_snoc, HTO.out]; show (termF (Sps.bL x)).map _ = _; rw [hT]; rfl)
          have hZY := hZ.bel hBY
          obtain ⟨so, co, rfl⟩ := hZ.own.isl
          obtain ⟨c2, f2⟩ := obj_one hZY.b2
          obtain ⟨c0, c1, -, -⟩ := obj_two hG
          have HZ := Lib.hid hZY
          have HZX := Lib.hid hZ
          have HBY := Lib.hid hBY
          clear hwd hT hS hG hZY
          rename_i hKK
          refine hKK _ _ ?_
          clear hKK
          gi_wp2_with (refine GO.pushIn (B := R + 6) HZ.out.own g ?hl ?hk rfl _ _ rfl rfl rfl ?he ?_; (case hl => have := HPL.out; omega); (case hk => omega); (case he => simp); intro v9 w9 hO9 hs9 hb9 hk9; obtain ⟨so9, co9, rfl⟩ := hO9.isl; rw [show (out ++ [g]).length = out.length + 1 by simp] at hO9 ⊢; have hq9 : ∀ k, R ≤ k → k < R + 6 → w9.heap[k]? = Y.heap[k]? := fun k g1 g2 => hk9 k (by omega) (fun e => by have := (HZ.out.own.lt k e).1; omega); obtain ⟨e2, g2⟩ := obj_one ((hq9 (R + 2) (by omega) (by omega)).trans HZ.out.b2); have HO9 := Lib.hid hO9; have HK9 := Lib.hid hk9; have HB9 := Lib.hid hb9; have HQ9 := Lib.hid hq9; clear hO9 hk9 hb9 hq9 c2 f2 c0 c1)
          have hZ1 := HZ.out
          have hB1 := HBY.out
          have hlt := hZ1.lt
          rw [hs0]
          have hne : ∀ q, (Value.slice so out.length co).ownBlock = some q → R + 6 ≤ q ∧ ∃ cs, Y.heap[q]? = some (.cells cs 55 (0, 0)) := fun q hq => ⟨(hZ1.own.lt q hq).1, own_type hZ1.own hq⟩
          refine ⟨⟨by show X.heap.size ≤ (w9.setCell _ _).heap.size; simp only [World.setCell, size_sets]; omega, fun q o g1 g2 g3 => ?_⟩, ⟨by show X.heap.size ≤ (w9.setCell _ _).heap.size; simp only [World.setCell, size_sets]; omega, fun q g1 g2 => ?_, ?_⟩, by show R + 6 ≤ (w9.setCell _ _).heap.size; simp only [World.setCell, size_sets]; omega, .slice so9 (out.length + 1) co9, _, ⟨?_, ?_, ?_, ?_, ?_⟩, HN.out⟩
          · have h1 : Y.heap[q]? = some o := (hB1.block q (Array.getElem?_eq_some_iff.1 g2).1).trans g2
            refine (Below.heap_setCell _ _ _ _ (by show q ≠ R + 2; omega)).trans ((HK9.out q (Array.getElem?_eq_some_iff.1 h1).1 (fun e => ?_)).trans h1)
            obtain ⟨_, cs, hcs⟩ := hne q e
            rw [hcs] at h1
            cases h1
            cases g3
          · exact (Below.heap_setCell _ _ _ _ (by show q ≠ R + 2; omega)).trans ((HQ9.out q (by omega) (by omega)).trans (hB1.block q (by omega)))
          · refine (Below.heap_setCell _ _ _ _ (by show _ ≠ R + 2; omega)).trans ((HK9.out _ (by omega) (fun e => ?_)).trans (hB1.block _ (by omega)))
            have := (hne _ e).1
            omega
          · exact (Below.heap_setCell _ _ _ _ (by show R ≠ R + 2; omega)).trans ((HQ9.out R (by omega) (by omega)).trans hZ1.b0)
          · exact (Below.heap_setCell _ _ _ _ (by show R + 1 ≠ R + 2; omega)).trans ((HQ9.out (R + 1) (by omega) (by omega)).trans hZ1.b1)
          · exact heap_setCell_same _ (R + 2) 0 _ _ _ ((HQ9.out (R + 2) (by omega) (by omega)).trans hZ1.b2)
          · exact own_block HO9.out fun q hq => Below.heap_setCell _ _ _ _ (by have := (World.ownsRow.lt HO9.out q hq).1; show q ≠ R + 2; omega)
          · exact (HB9.out R W (by omega) hZ1.below).setCell (p := ⟨R + 2, 0, none⟩) (by show R ≤ R + 2; omega) _
      case stop =>
        rintro k pre X hsp ⟨hX, rfl, hto, b0, b1, hB⟩ hD
        have hN : allF s.data.toList = none := by
          obtain ⟨more, hm⟩ := pre_none hsp
          unfold allF
          rw [show s.data.toList = Sps.bL s from rfl, show bar = Sps.bL ⟨#[32, 124, 32]⟩ from rfl, hm, terms_app, hto]
          rfl
        have HR := Lib.hid (show setF s.data.toList = .error 21 by rw [HS.out, hN])
        clear hN hto
        gi_wp2
        refine ⟨by simp, .inl ⟨_, _, rfl, run_takeDeferred hD, _, parse_results rfl rfl ((World.putObj_heap_other (by omega)).trans b0) ((World.putObj_heap_other (by omega)).trans b1), ?_, below_shut (hh ▸ hB) (by omega) _⟩⟩
        rw [HR.out]
        exact rfl
      case done =>
        rintro xs X hS ⟨hX, va, out, hZ, hto⟩ hD
        rw [hs0] at hD
        have hN : allF s.data.toList = some out := by
          unfold allF
          rw [show s.data.toList = Sps.bL s from rfl, show bar = Sps.bL ⟨#[32, 124, 32]⟩ from rfl, ← hS]
          exact hto
        have HR := Lib.hid (show setF s.data.toList = .ok out by rw [HS.out, hN])
        obtain ⟨hin, hlen⟩ := terms_in _ _ (fun g hg => by cases hg) _ hto
        have hol : out.length ≤ 1000000 := by
          have h9 := cuts_len bar (Sps.bL s)
          have h8 : (Sps.bL s).length = s.size := (Lib.size_eq s).symm
          rw [show bar = Sps.bL ⟨#[32, 124, 32]⟩ from rfl, ← hS] at h9
          rw [List.length_nil, Nat.zero_add] at hlen
          omega
        have hj := joined_any out (fun g hg => in9_bd (hin g hg)) (R + 6) va X hZ.own hol
        obtain ⟨so, co, rfl⟩ := hZ.own.isl
        obtain ⟨c2, -⟩ := obj_one hZ.b2
        have HZ := Lib.hid hZ
        have HD := Lib.hid hD
        clear hN hto hlen hin hZ hD hS
        rename_i hKK
        refine hKK _ _ (wpIn_wide.2 ?_)
        clear hKK
        go_wp2_with (go_at_call 51; refine hj.mono ?_; rintro e W6 ⟨v6, r, rfl, hO6, hNm, hM, hR, -, hB6⟩; clear hj)
        have hBW := HZ.out.below
        have hX6 : R + 6 ≤ X.heap.size := hX
        have hO7 := hO6
        obtain ⟨so6, co6, rfl⟩ := hO6.isl
        have hq6 : ∀ k, k < R + 6 → W6.heap[k]? = X.heap[k]? := fun k g1 => hB6.block k (by omega)
        have HD6 := Lib.hid ((hB6.block (R + 6) (Array.getElem?_eq_some_iff.1 HD.out).1).trans HD.out)
        have HQ6 := Lib.hid hq6
        obtain ⟨y0, z0⟩ := obj_one ((hq6 R (by omega)).trans HZ.out.b0)
        obtain ⟨y1, z1⟩ := obj_one ((hq6 (R + 1) (by omega)).trans HZ.out.b1)
        have hX7 : R + 7 ≤ X.heap.size := (Array.getElem?_eq_some_iff.1 HD.out).1
        have hgs := hO7.gs fun g hg => (hR g hg).n64
        have HF := Lib.hid (fun (W8 : World) (h8 : Below W6.heap.size W6 W8) (x y : Value) => parse_fin (W8 := W8) (by have := hB6.size; omega) (hBW.trans (hB6.mono (by omega))) h8 ((hq6 R (by omega)).trans HZ.out.b0) ((hq6 (R + 1) (by omega)).trans HZ.out.b1) HD6.out x y)
        have HO7 := Lib.hid hO7
        clear hq6 hO6 hO7
        by_cases h16 : 16 < r.length
        · have hf := few_tt r _ W6 hgs h16
          have H16 := Lib.hid h16
          clear h16 hgs
          go_wp2_with (go_at_call 50; refine hf.mono ?_; rintro e W8 ⟨rfl, hB8⟩; have c0 := (hB8.cell (p := ⟨R, 0, none⟩) (World.block_lt_of_cell? W6 _ y0)).trans y0; have z0' := (hB8.frozen (p := ⟨R, 0, none⟩) (World.block_lt_of_cell? W6 _ y0)).trans z0; have c1 := (hB8.cell (p := ⟨R + 1, 0, none⟩) (World.block_lt_of_cell? W6 _ y1)).trans y1; have z1' := (hB8.frozen (p := ⟨R + 1, 0, none⟩) (World.block_lt_of_cell? W6 _ y1)).trans z1; clear y0 z0 y1 z1 hf)
          obtain ⟨f1, f2, f3, f4, f5⟩ := HF.out W8 hB8 (.slice none 0 0) (.int .i64 13)
          refine ⟨by simp, .inl ⟨_, _, rfl, run_takeDeferred f1, _, parse_results rfl rfl f2 f3, ?_, hh ▸ f4⟩⟩
          rw [HR.out]
          exact ⟨r, hNm, hM, hR, .inl ⟨H16.out, rfl⟩⟩
        · have hf := few_ff r _ W6 hgs h16
          have H16 := Lib.hid h16
          clear h16 hgs
          go_wp2_with (go_at_call 50; refine hf.mono ?_; rintro e W8 ⟨rfl, hB8⟩; have c0 := (hB8.cell (p := ⟨R, 0, none⟩) (World.block_lt_of_cell? W6 _ y0)).trans y0; have z0' := (hB8.frozen (p := ⟨R, 0, none⟩) (World.block_lt_of_cell? W6 _ y0)).trans z0; have c1 := (hB8.cell (p := ⟨R + 1, 0, none⟩) (World.block_lt_of_cell? W6 _ y1)).trans y1; have z1' := (hB8.frozen (p := ⟨R + 1, 0, none⟩) (World.block_lt_of_cell? W6 _ y1)).trans z1; clear y0 z0 y1 z1 hf)
          obtain ⟨f1, f2, f3, f4, f5⟩ := HF.out W8 hB8 (.slice so6 r.length co6) (.int .i64 0)
          refine ⟨by simp, .inl ⟨_, _, rfl, run_takeDeferred f1, _, parse_results rfl rfl f2 f3, ?_, hh ▸ f4⟩⟩
          rw [HR.out]
          refine ⟨r, hNm, hM, hR, .inr ⟨H16.out, _, rfl, ?_⟩⟩
          have h9 : GO W8 (R + 7) (.slice so6 r.length co6) r := (HO7.out.below hB8).le hX7
          rw [hh]
          refine GO.le (B := R + 7) (own_block h9 fun q hq => f5 q ?_ ?_ ?_) (by omega)
          all_goals
            have := (World.ownsRow.lt h9 q hq).1
            omega
end Sg
end Go.Proofs.YtflhmoelenmomaaGreatDoor
