/-
  Walk: the reference's Print. (printed by gen_RpK.py)
-/
import Derived.Test.YtcigggffaofkhaaMRpI
import Derived.Test.YtcigggffaofkhaaMRpD
import Derived.Test.YtcigggffaofkhaaMRpH
namespace Go.Proofs.Ytcigggffaofkhaa
open Go.RowKit
namespace Rc

def rfieldL (f : Int × E × E) : List UInt8 := wKw f.1 ++ ([32] ++ (rtx f.2.1 ++ ([32] ++ (rtx f.2.2 ++ [10]))))
def rpre (x : Src) : List UInt8 := wPack ++ (rtx x.name ++ (wVers ++ (rtx x.version ++ [10])))
def rtS (x : Src) : List UInt8 := rpre x ++ x.fields.flatMap rfieldL
theorem rfield_cut {f : Int × E × E} (h : goodF f) : Cut (rfieldL f) (fieldL f) := by
  have : fieldL f = wKw f.1 ++ ([32] ++ (textE f.2.1 ++ ([32] ++ (textE f.2.2 ++ [10])))) := by simp [fieldL, wKw_eq]
  rw [this]
  exact (Cut.refl _).app ((Cut.refl _).app ((rtx_cut _ h.2.1).app ((Cut.refl _).app ((rtx_cut _ h.2.2).app (Cut.refl _)))))
theorem rfields_cut : ∀ l : List (Int × E × E), (∀ f ∈ l, goodF f) → Cut (l.flatMap rfieldL) (l.flatMap fieldL)
  | [], _ => Cut.refl _
  | f :: l, h => by
    rw [List.flatMap_cons, List.flatMap_cons]
    exact (rfield_cut (h f (List.mem_cons_self ..))).app (rfields_cut l fun g hg => h g (List.mem_cons_of_mem _ hg))
theorem rtS_cut {x : Src} (h : goodS x = true) : Cut (rtS x) (textS x) := by
  obtain ⟨h1, h2, h3, h4⟩ := goodS_parts h
  rw [textS_pre]
  exact ((Cut.refl _).app ((rtx_cut _ h1).app ((Cut.refl _).app ((rtx_cut _ h2).app (Cut.refl _))))).app (rfields_cut _ h4)
theorem rprint_long {x : Src} (h : goodS x = true) (hl : 4096 < (rtS x).length) : printP x = ([], 3) := print_long h ((rtS_cut h).len.1.1 hl)
theorem rprint_yes {x : Src} (h : goodS x = true) (hl : ¬ 4096 < (rtS x).length) : printP x = (rtS x, 0) := by
  have := (rtS_cut h).len.2 hl
  rw [this] at hl ⊢
  exact print_yes h hl
theorem rkd_word {k : Int} (h : k = 1 ∨ k = 2 ∨ k = 3) : ∃ (j : Nat) (wd : ByteArray), j < 3 ∧ IntKind.i64.wrap (k - 1) = (j : Int) ∧ (#[.string ⟨#[116, 111, 111, 108]⟩, .string ⟨#[98, 117, 105, 108, 100]⟩, .string ⟨#[114, 117, 110]⟩] : Array Value)[j]? = some (.string wd) ∧ wd.data.toList = wKw k ∧ wd.size ≤ 6 := by
  rcases h with rfl | rfl | rfl
  · exact ⟨0, ⟨#[116, 111, 111, 108]⟩, by decide, by decide, rfl, by decide, by decide⟩
  · exact ⟨1, ⟨#[98, 117, 105, 108, 100]⟩, by decide, by decide, rfl, by decide, by decide⟩
  · exact ⟨2, ⟨#[114, 117, 110]⟩, by decide, by decide, rfl, by decide, by decide⟩
theorem take_rfields {l : List (Int × E × E)} {k : Nat} {t : Int × E × E} (h : l[k]? = some t) : (l.take (k + 1)).flatMap rfieldL = (l.take k).flatMap rfieldL ++ rfieldL t := by
  obtain ⟨hk, e⟩ := List.getElem?_eq_some_iff.1 h
  rw [List.take_succ_eq_append_getElem hk, e, List.flatMap_append]
  simp
/-- the reference's Print's own block: the argument -/
structure QV (W w : World) (cs : Array Value) : Prop where
  below : Below W.heap.size W w
  bx : w.heap[W.heap.size]? = some (.cells cs 29 (0, 0))
theorem QV.start (W : World) (cs : Array Value) : QV W (W.alloc (.cells cs 29)) cs := ⟨(Below.refl _ _).alloc (Nat.le_refl _) _, heap_alloc_new W _⟩
theorem QV.lt {W w : World} {cs : Array Value} (h : QV W w cs) : W.heap.size < w.heap.size := by
  obtain ⟨h, -⟩ := Array.getElem?_eq_some_iff.1 h.bx
  exact h
theorem QV.keep {W w w' : World} {cs : Array Value} (h : QV W w cs) (hb : Below w.heap.size w w') : QV W w' cs :=
  ⟨h.below.trans (hb.mono h.below.size), (hb.block _ h.lt).trans h.bx⟩
theorem rret_arg {W w : World} {cs : Array Value} (h : QV W w cs) {x : Src} (hx : goodS x = false) : PO W x (.returned (.tuple #[.string ⟨#[]⟩, .int .i64 1])) w := ⟨h.below, by rw [print_no hx]⟩
set_option maxHeartbeats 4000000 in
set_option maxRecDepth 100000 in
theorem rprint_bad1 {x : Src} (hL : Lim x) (W : World) (S : Nat → Prop) (k1 : Int) (σ1 : ByteArray) (sl1 : Option Addr) (n1 c1 : Nat) (k2 : Int) (σ2 : ByteArray) (sl2 : Option Addr) (n2 c2 : Nat) (sl : Option Addr) (n c : Nat) (hS : ∀ b, S b → b < W.heap.size)
    (rn : RepX W S x.name (.agg #[.int .i64 k1, .string σ1, .slice sl1 n1 c1])) (rv : RepX W S x.version (.agg #[.int .i64 k2, .string σ2, .slice sl2 n2 c2])) (rf : FS W S sl n x.fields) (hg3 : 20 < n) :
    Calls Try.prog 18 #[.agg #[.int .i64 k1, .string σ1, .slice sl1 n1 c1, .int .i64 k2, .string σ2, .slice sl2 n2 c2, .slice sl n c]] W fun e W' => PO W x e W' := by
  have hbad : goodS x = false := by rw [goodS_eq, show decide (x.fields.length ≤ 20) = false from decide_eq_false (by have := rf.1; omega)]; simp
  have hq := QV.start W #[.int .i64 k1, .string σ1, .slice sl1 n1 c1, .int .i64 k2, .string σ2, .slice sl2 n2 c2, .slice sl n c]
  have hA := hq.below
  have hN := rgood_any hL.nm hL.wn (W.alloc (.cells #[.int .i64 k1, .string σ1, .slice sl1 n1 c1, .int .i64 k2, .string σ2, .slice sl2 n2 c2, .slice sl n c] 29)) S _ (fun b hb => Nat.lt_of_lt_of_le (hS b hb) hA.size) (rn.move fun b hb => ⟨hb, hA.block b (hS b hb)⟩)
  have a0 := obj_cell (i := 0) hq.bx rfl
  have a1 := obj_cell (i := 1) hq.bx rfl
  have a2 := obj_cell (i := 2) hq.bx rfl
  have a3 := obj_cell (i := 3) hq.bx rfl
  have a4 := obj_cell (i := 4) hq.bx rfl
  have a5 := obj_cell (i := 5) hq.bx rfl
  have a6 := obj_cell (i := 6) hq.bx rfl
  have hnn := Lib.hid rf.1
  have HRF := Lib.hid rf
  have HRN := Lib.hid rn
  have HRV := Lib.hid rv
  have HS := Lib.hid hS
  have HL := Lib.hid hL
  have HN0 := Lib.hid (show n ≤ 140737488355328 by rw [rf.1]; exact hL.ln)
  clear rf rn rv hS hL hA
  have hn0 := HN0.out
  have k20 : decide ((n : Int) ≤ 20) = false := by simp; omega
  clear hN hg3
  go_enter Try.func18, Try.ntmps18
  go_wp2_with fail
  have HBAD := Lib.hid hbad
  clear hbad
  go_loopw [4, 5] (fun ok i wr => ok = .bool false ∧ i = .int .i64 0 ∧ QV W wr #[.int .i64 k1, .string σ1, .slice sl1 n1 c1, .int .i64 k2, .string σ2, .slice sl2 n2 c2, .slice sl n c]) (fun _ _ _ => 0)
  case atStart => exact ⟨rfl, rfl, hq⟩
  case round =>
    obtain ⟨rfl, rfl, hq'⟩ := hrel
    clear hq a0 a1 a2 a3 a4 a5 a6
    have a0 := obj_cell (i := 0) hq'.bx rfl
    have a1 := obj_cell (i := 1) hq'.bx rfl
    have a2 := obj_cell (i := 2) hq'.bx rfl
    have a3 := obj_cell (i := 3) hq'.bx rfl
    have a4 := obj_cell (i := 4) hq'.bx rfl
    have a5 := obj_cell (i := 5) hq'.bx rfl
    have a6 := obj_cell (i := 6) hq'.bx rfl
    go_wp2_with fail
    refine bodyPost_ret (v := .tuple #[.string ⟨#[]⟩, .int .i64 1]) (by simp [results, Try.results18, go_sem]) rfl (rret_arg hq' HBAD.out)
set_option maxHeartbeats 4000000 in
set_option maxRecDepth 100000 in
theorem rprint_bad2 {x : Src} (hL : Lim x) (W : World) (S : Nat → Prop) (k1 : Int) (σ1 : ByteArray) (sl1 : Option Addr) (n1 c1 : Nat) (k2 : Int) (σ2 : ByteArray) (sl2 : Option Addr) (n2 c2 : Nat) (sl : Option Addr) (n c : Nat) (hS : ∀ b, S b → b < W.heap.size)
    (rn : RepX W S x.name (.agg #[.int .i64 k1, .string σ1, .slice sl1 n1 c1])) (rv : RepX W S x.version (.agg #[.int .i64 k2, .string σ2, .slice sl2 n2 c2])) (rf : FS W S sl n x.fields) (hg3 : n ≤ 20) (hg : goodE x.name = false) :
    Calls Try.prog 18 #[.agg #[.int .i64 k1, .string σ1, .slice sl1 n1 c1, .int .i64 k2, .string σ2, .slice sl2 n2 c2, .slice sl n c]] W fun e W' => PO W x e W' := by
  have hbad : goodS x = false := by rw [goodS_eq, hg]; rfl
  have hq := QV.start W #[.int .i64 k1, .string σ1, .slice sl1 n1 c1, .int .i64 k2, .string σ2, .slice sl2 n2 c2, .slice sl n c]
  have hA := hq.below
  have hN := rgood_any hL.nm hL.wn (W.alloc (.cells #[.int .i64 k1, .string σ1, .slice sl1 n1 c1, .int .i64 k2, .string σ2, .slice sl2 n2 c2, .slice sl n c] 29)) S _ (fun b hb => Nat.lt_of_lt_of_le (hS b hb) hA.size) (rn.move fun b hb => ⟨hb, hA.block b (hS b hb)⟩)
  have a0 := obj_cell (i := 0) hq.bx rfl
  have a1 := obj_cell (i := 1) hq.bx rfl
  have a2 := obj_cell (i := 2) hq.bx rfl
  have a3 := obj_cell (i := 3) hq.bx rfl
  have a4 := obj_cell (i := 4) hq.bx rfl
  have a5 := obj_cell (i := 5) hq.bx rfl
  have a6 := obj_cell (i := 6) hq.bx rfl
  have hnn := Lib.hid rf.1
  have HRF := Lib.hid rf
  have HRN := Lib.hid rn
  have HRV := Lib.hid rv
  have HS := Lib.hid hS
  have HL := Lib.hid hL
  have HN0 := Lib.hid (show n ≤ 140737488355328 by rw [rf.1]; exact hL.ln)
  clear rf rn rv hS hL hA
  have hn0 := HN0.out
  rw [hg] at hN
  have k20 : decide ((n : Int) ≤ 20) = true := by simp; omega
  go_enter Try.func18, Try.ntmps18
  go_wp2_with fail
  refine hN.mono ?_
  rintro e w9 ⟨rfl, hB⟩
  clear hN
  replace hq := hq.keep hB
  clear hB
  replace a0 := obj_cell (i := 0) hq.bx rfl
  replace a1 := obj_cell (i := 1) hq.bx rfl
  replace a2 := obj_cell (i := 2) hq.bx rfl
  replace a3 := obj_cell (i := 3) hq.bx rfl
  replace a4 := obj_cell (i := 4) hq.bx rfl
  replace a5 := obj_cell (i := 5) hq.bx rfl
  replace a6 := obj_cell (i := 6) hq.bx rfl
  go_wp2_with fail
  have HBAD := Lib.hid hbad
  clear hbad
  go_loopw [4, 5] (fun ok i wr => ok = .bool false ∧ i = .int .i64 0 ∧ QV W wr #[.int .i64 k1, .string σ1, .slice sl1 n1 c1, .int .i64 k2, .string σ2, .slice sl2 n2 c2, .slice sl n c]) (fun _ _ _ => 0)
  case atStart => exact ⟨rfl, rfl, hq⟩
  case round =>
    obtain ⟨rfl, rfl, hq'⟩ := hrel
    clear hq a0 a1 a2 a3 a4 a5 a6
    have a0 := obj_cell (i := 0) hq'.bx rfl
    have a1 := obj_cell (i := 1) hq'.bx rfl
    have a2 := obj_cell (i := 2) hq'.bx rfl
    have a3 := obj_cell (i := 3) hq'.bx rfl
    have a4 := obj_cell (i := 4) hq'.bx rfl
    have a5 := obj_cell (i := 5) hq'.bx rfl
    have a6 := obj_cell (i := 6) hq'.bx rfl
    go_wp2_with fail
    refine bodyPost_ret (v := .tuple #[.string ⟨#[]⟩, .int .i64 1]) (by simp [results, Try.results18, go_sem]) rfl (rret_arg hq' HBAD.out)
set_option maxHeartbeats 4000000 in
set_option maxRecDepth 100000 in
theorem rprint_bad3 {x : Src} (hL : Lim x) (W : World) (S : Nat → Prop) (k1 : Int) (σ1 : ByteArray) (sl1 : Option Addr) (n1 c1 : Nat) (k2 : Int) (σ2 : ByteArray) (sl2 : Option Addr) (n2 c2 : Nat) (sl : Option Addr) (n c : Nat) (hS : ∀ b, S b → b < W.heap.size)
    (rn : RepX W S x.name (.agg #[.int .i64 k1, .string σ1, .slice sl1 n1 c1])) (rv : RepX W S x.version (.agg #[.int .i64 k2, .string σ2, .slice sl2 n2 c2])) (rf : FS W S sl n x.fields) (hg3 : n ≤ 20) (hg : goodE x.name = true) (hg2 : goodE x.version = false) :
    Calls Try.prog 18 #[.agg #[.int .i64 k1, .string σ1, .slice sl1 n1 c1, .int .i64 k2, .string σ2, .slice sl2 n2 c2, .slice sl n c]] W fun e W' => PO W x e W' := by
  have hbad : goodS x = false := by rw [goodS_eq, hg, hg2]; rfl
  have hq := QV.start W #[.int .i64 k1, .string σ1, .slice sl1 n1 c1, .int .i64 k2, .string σ2, .slice sl2 n2 c2, .slice sl n c]
  have hA := hq.below
  have hN := rgood_any hL.nm hL.wn (W.alloc (.cells #[.int .i64 k1, .string σ1, .slice sl1 n1 c1, .int .i64 k2, .string σ2, .slice sl2 n2 c2, .slice sl n c] 29)) S _ (fun b hb => Nat.lt_of_lt_of_le (hS b hb) hA.size) (rn.move fun b hb => ⟨hb, hA.block b (hS b hb)⟩)
  have a0 := obj_cell (i := 0) hq.bx rfl
  have a1 := obj_cell (i := 1) hq.bx rfl
  have a2 := obj_cell (i := 2) hq.bx rfl
  have a3 := obj_cell (i := 3) hq.bx rfl
  have a4 := obj_cell (i := 4) hq.bx rfl
  have a5 := obj_cell (i := 5) hq.bx rfl
  have a6 := obj_cell (i := 6) hq.bx rfl
  have hnn := Lib.hid rf.1
  have HRF := Lib.hid rf
  have HRN := Lib.hid rn
  have HRV := Lib.hid rv
  have HS := Lib.hid hS
  have HL := Lib.hid hL
  have HN0 := Lib.hid (show n ≤ 140737488355328 by rw [rf.1]; exact hL.ln)
  clear rf rn rv hS hL hA
  have hn0 := HN0.out
  rw [hg] at hN
  have k20 : decide ((n : Int) ≤ 20) = true := by simp; omega
  go_enter Try.func18, Try.ntmps18
  go_wp2_with fail
  refine hN.mono ?_
  rintro e w9 ⟨rfl, hB⟩
  clear hN
  replace hq := hq.keep hB
  clear hB
  replace a0 := obj_cell (i := 0) hq.bx rfl
  replace a1 := obj_cell (i := 1) hq.bx rfl
  replace a2 := obj_cell (i := 2) hq.bx rfl
  replace a3 := obj_cell (i := 3) hq.bx rfl
  replace a4 := obj_cell (i := 4) hq.bx rfl
  replace a5 := obj_cell (i := 5) hq.bx rfl
  replace a6 := obj_cell (i := 6) hq.bx rfl
  have hV := rgood_any HL.out.vs HL.out.wv w9 S _ (fun b hb => Nat.lt_of_lt_of_le (HS.out b hb) hq.below.size) (HRV.out.move fun b hb => ⟨hb, hq.below.block b (HS.out b hb)⟩)
  rw [hg2] at hV
  go_wp2_with fail
  refine hV.mono ?_
  rintro e w9 ⟨rfl, hB⟩
  clear hV
  replace hq := hq.keep hB
  clear hB
  replace a0 := obj_cell (i := 0) hq.bx rfl
  replace a1 := obj_cell (i := 1) hq.bx rfl
  replace a2 := obj_cell (i := 2) hq.bx rfl
  replace a3 := obj_cell (i := 3) hq.bx rfl
  replace a4 := obj_cell (i := 4) hq.bx rfl
  replace a5 := obj_cell (i := 5) hq.bx rfl
  replace a6 := obj_cell (i := 6) hq.bx rfl
  go_wp2_with fail
  have HBAD := Lib.hid hbad
  clear hbad
  go_loopw [4, 5] (fun ok i wr => ok = .bool false ∧ i = .int .i64 0 ∧ QV W wr #[.int .i64 k1, .string σ1, .slice sl1 n1 c1, .int .i64 k2, .string σ2, .slice sl2 n2 c2, .slice sl n c]) (fun _ _ _ => 0)
  case atStart => exact ⟨rfl, rfl, hq⟩
  case round =>
    obtain ⟨rfl, rfl, hq'⟩ := hrel
    clear hq a0 a1 a2 a3 a4 a5 a6
    have a0 := obj_cell (i := 0) hq'.bx rfl
    have a1 := obj_cell (i := 1) hq'.bx rfl
    have a2 := obj_cell (i := 2) hq'.bx rfl
    have a3 := obj_cell (i := 3) hq'.bx rfl
    have a4 := obj_cell (i := 4) hq'.bx rfl
    have a5 := obj_cell (i := 5) hq'.bx rfl
    have a6 := obj_cell (i := 6) hq'.bx rfl
    go_wp2_with fail
    refine bodyPost_ret (v := .tuple #[.string ⟨#[]⟩, .int .i64 1]) (by simp [results, Try.results18, go_sem]) rfl (rret_arg hq' HBAD.out)
set_option maxHeartbeats 4000000 in
set_option maxRecDepth 100000 in
theorem rprint_good {x : Src} (hL : Lim x) (W : World) (S : Nat → Prop) (k1 : Int) (σ1 : ByteArray) (sl1 : Option Addr) (n1 c1 : Nat) (k2 : Int) (σ2 : ByteArray) (sl2 : Option Addr) (n2 c2 : Nat) (sl : Option Addr) (n c : Nat) (hS : ∀ b, S b → b < W.heap.size)
    (rn : RepX W S x.name (.agg #[.int .i64 k1, .string σ1, .slice sl1 n1 c1])) (rv : RepX W S x.version (.agg #[.int .i64 k2, .string σ2, .slice sl2 n2 c2])) (rf : FS W S sl n x.fields) (hg : goodE x.name = true) (hg2 : goodE x.version = true) (hg3 : n ≤ 20) :
    Calls Try.prog 18 #[.agg #[.int .i64 k1, .string σ1, .slice sl1 n1 c1, .int .i64 k2, .string σ2, .slice sl2 n2 c2, .slice sl n c]] W fun e W' => PO W x e W' := by
  have HG0 := Lib.hid (show goodS x = x.fields.all okB by rw [goodS_eq, hg, hg2, show decide (x.fields.length ≤ 20) = true from decide_eq_true (by have := rf.1; omega)]; rfl)
  have HWN := Lib.hid (good_wf hg)
  have HWV := Lib.hid (good_wf hg2)
  have hq := QV.start W #[.int .i64 k1, .string σ1, .slice sl1 n1 c1, .int .i64 k2, .string σ2, .slice sl2 n2 c2, .slice sl n c]
  have hA := hq.below
  have hN := rgood_any hL.nm hL.wn (W.alloc (.cells #[.int .i64 k1, .string σ1, .slice sl1 n1 c1, .int .i64 k2, .string σ2, .slice sl2 n2 c2, .slice sl n c] 29)) S _ (fun b hb => Nat.lt_of_lt_of_le (hS b hb) hA.size) (rn.move fun b hb => ⟨hb, hA.block b (hS b hb)⟩)
  have a0 := obj_cell (i := 0) hq.bx rfl
  have a1 := obj_cell (i := 1) hq.bx rfl
  have a2 := obj_cell (i := 2) hq.bx rfl
  have a3 := obj_cell (i := 3) hq.bx rfl
  have a4 := obj_cell (i := 4) hq.bx rfl
  have a5 := obj_cell (i := 5) hq.bx rfl
  have a6 := obj_cell (i := 6) hq.bx rfl
  have hnn := Lib.hid rf.1
  have HRF := Lib.hid rf
  have HRN := Lib.hid rn
  have HRV := Lib.hid rv
  have HS := Lib.hid hS
  have HL := Lib.hid hL
  have HN0 := Lib.hid (show n ≤ 140737488355328 by rw [rf.1]; exact hL.ln)
  clear rf rn rv hS hL hA
  have hn0 := HN0.out
  rw [hg] at hN
  have k20 : decide ((n : Int) ≤ 20) = true := by simp; omega
  go_enter Try.func18, Try.ntmps18
  go_wp2_with fail
  refine hN.mono ?_
  rintro e w9 ⟨rfl, hB⟩
  clear hN
  replace hq := hq.keep hB
  clear hB
  replace a0 := obj_cell (i := 0) hq.bx rfl
  replace a1 := obj_cell (i := 1) hq.bx rfl
  replace a2 := obj_cell (i := 2) hq.bx rfl
  replace a3 := obj_cell (i := 3) hq.bx rfl
  replace a4 := obj_cell (i := 4) hq.bx rfl
  replace a5 := obj_cell (i := 5) hq.bx rfl
  replace a6 := obj_cell (i := 6) hq.bx rfl
  have hV := rgood_any HL.out.vs HL.out.wv w9 S _ (fun b hb => Nat.lt_of_lt_of_le (HS.out b hb) hq.below.size) (HRV.out.move fun b hb => ⟨hb, hq.below.block b (HS.out b hb)⟩)
  rw [hg2] at hV
  clear hg hg2
  go_wp2_with fail
  refine hV.mono ?_
  rintro e w9 ⟨rfl, hB⟩
  clear hV
  replace hq := hq.keep hB
  clear hB
  replace a0 := obj_cell (i := 0) hq.bx rfl
  replace a1 := obj_cell (i := 1) hq.bx rfl
  replace a2 := obj_cell (i := 2) hq.bx rfl
  replace a3 := obj_cell (i := 3) hq.bx rfl
  replace a4 := obj_cell (i := 4) hq.bx rfl
  replace a5 := obj_cell (i := 5) hq.bx rfl
  replace a6 := obj_cell (i := 6) hq.bx rfl
  go_wp2_with fail
  go_loopw [4, 5, 6] (fun ok i _ wr => ∃ k : Nat, k ≤ n ∧ i = .int .i64 k ∧ ok = .bool ((x.fields.take k).all okB) ∧ QV W wr #[.int .i64 k1, .string σ1, .slice sl1 n1 c1, .int .i64 k2, .string σ2, .slice sl2 n2 c2, .slice sl n c]) (fun _ i _ _ => n - (intOf i).toNat)
  case atStart => exact ⟨0, Nat.zero_le _, rfl, rfl, hq⟩
  case round =>
    obtain ⟨k, hk, rfl, rfl, hq'⟩ := hrel
    clear hq a0 a1 a2 a3 a4 a5 a6 k20
    have hq := hq'
    clear hq'
    have a0 := obj_cell (i := 0) hq.bx rfl
    have a1 := obj_cell (i := 1) hq.bx rfl
    have a2 := obj_cell (i := 2) hq.bx rfl
    have a3 := obj_cell (i := 3) hq.bx rfl
    have a4 := obj_cell (i := 4) hq.bx rfl
    have a5 := obj_cell (i := 5) hq.bx rfl
    have a6 := obj_cell (i := 6) hq.bx rfl
    by_cases hlt : k < n
    · have k0 : decide ((k : Int) < (n : Int)) = true := by simp; omega
      cases hall : (x.fields.take k).all okB
      · have HBAD := Lib.hid (show goodS x = false by rw [HG0.out]; exact all_false hall)
        clear hall
        go_wp2_with fail
        refine bodyPost_ret (v := .tuple #[.string ⟨#[]⟩, .int .i64 1]) (by simp [results, Try.results18, go_sem]) rfl (rret_arg hq HBAD.out)
      · skip
        obtain ⟨t, ht⟩ : ∃ t, x.fields[k]? = some t := ⟨x.fields[k]'(by rw [← hnn.out]; exact hlt), List.getElem?_eq_getElem _⟩
        obtain ⟨bk, o, q, rfl, hbl, hqf, hcs⟩ := HRF.out.2 k t ht
        have HFW := Lib.hid (HL.out.fd t (List.mem_of_getElem? ht))
        obtain ⟨q1, ⟨q2, q3, q4⟩, q5, q6, q7⟩ := q
        obtain ⟨y1, y2, y3⟩ := hqf
        simp only at y1 y2 y3
        obtain ⟨u1, τ1, vl1, e1, d1, hv⟩ := y2.vals
        simp only [Value.agg.injEq, Array.mk.injEq, List.cons.injEq, and_true] at hv
        obtain ⟨rfl, rfl, rfl⟩ := hv
        obtain ⟨u2, τ2, vl2, e2, d2, hv⟩ := y3.vals
        simp only [Value.agg.injEq, Array.mk.injEq, List.cons.injEq, and_true] at hv
        obtain ⟨rfl, rfl, rfl⟩ := hv
        subst y1
        have HY := Lib.hid (And.intro y2 y3)
        clear y2 y3
        have g0 := (hq.below.cell (p := ⟨bk, o + k * 7, none⟩) (HS.out bk hbl)).trans (hcs 0 _ rfl)
        have g1 := (hq.below.cell (p := ⟨bk, o + k * 7 + 1, none⟩) (HS.out bk hbl)).trans (hcs 1 _ rfl)
        have g2 := (hq.below.cell (p := ⟨bk, o + k * 7 + 2, none⟩) (HS.out bk hbl)).trans (hcs 2 _ rfl)
        have g3 := (hq.below.cell (p := ⟨bk, o + k * 7 + 3, none⟩) (HS.out bk hbl)).trans (hcs 3 _ rfl)
        have g4 := (hq.below.cell (p := ⟨bk, o + k * 7 + 4, none⟩) (HS.out bk hbl)).trans (hcs 4 _ rfl)
        have g5 := (hq.below.cell (p := ⟨bk, o + k * 7 + 5, none⟩) (HS.out bk hbl)).trans (hcs 5 _ rfl)
        have g6 := (hq.below.cell (p := ⟨bk, o + k * 7 + 6, none⟩) (HS.out bk hbl)).trans (hcs 6 _ rfl)
        clear hcs
        have HALL := Lib.hid (all_succ ht)
        rw [hall] at HALL
        clear hall ht
        have hkw : IntKind.i64.wrap ((k : Int) + 1) = (k : Int) + 1 := IntWalk.i64_in _ (by omega)
        have hB2 : Below wr.heap.size wr (wr.alloc (.cells #[.int .i64 t.1, .int .i64 u1, .string τ1, .slice vl1 e1 d1, .int .i64 u2, .string τ2, .slice vl2 e2 d2] 47)) := (Below.refl _ _).alloc (Nat.le_refl _) _
        have hY : (wr.alloc (.cells #[.int .i64 t.1, .int .i64 u1, .string τ1, .slice vl1 e1 d1, .int .i64 u2, .string τ2, .slice vl2 e2 d2] 47)).heap[wr.heap.size]? = some (.cells #[.int .i64 t.1, .int .i64 u1, .string τ1, .slice vl1 e1 d1, .int .i64 u2, .string τ2, .slice vl2 e2 d2] 47 (0, 0)) := heap_alloc_new wr _
        have b6 := a6
        replace hq := hq.keep hB2
        have hp1 := rgood_any HFW.out.2.1 HFW.out.2.2.2.1 _ S _ (fun b hb => Nat.lt_of_lt_of_le (HS.out b hb) hq.below.size) (HY.out.1.move fun b hb => ⟨hb, hq.below.block b (HS.out b hb)⟩)
        clear hB2
        have d0 := obj_cell (i := 0) hY rfl
        have d1 := obj_cell (i := 1) hY rfl
        have d2 := obj_cell (i := 2) hY rfl
        have d3 := obj_cell (i := 3) hY rfl
        have d4 := obj_cell (i := 4) hY rfl
        have d5 := obj_cell (i := 5) hY rfl
        have d6 := obj_cell (i := 6) hY rfl
        replace a0 := obj_cell (i := 0) hq.bx rfl
        replace a1 := obj_cell (i := 1) hq.bx rfl
        replace a2 := obj_cell (i := 2) hq.bx rfl
        replace a3 := obj_cell (i := 3) hq.bx rfl
        replace a4 := obj_cell (i := 4) hq.bx rfl
        replace a5 := obj_cell (i := 5) hq.bx rfl
        replace a6 := obj_cell (i := 6) hq.bx rfl
        by_cases f1 : 1 ≤ t.1
        · have j1 : decide ((1 : Int) ≤ t.1) = true := decide_eq_true f1
          by_cases f3 : t.1 ≤ 3
          · have j3 : decide (t.1 ≤ (3 : Int)) = true := decide_eq_true f3
            cases ha : goodE t.2.1
            · rw [ha] at hp1
              have HV := Lib.hid (show okB t = false by unfold okB; rw [ha]; simp)
              clear ha f1 f3
              go_wp2_with fail
              refine hp1.mono ?_
              rintro e w9 ⟨rfl, hB⟩
              clear hp1
              replace hq := hq.keep hB
              clear hB
              replace a0 := obj_cell (i := 0) hq.bx rfl
              replace a1 := obj_cell (i := 1) hq.bx rfl
              replace a2 := obj_cell (i := 2) hq.bx rfl
              replace a3 := obj_cell (i := 3) hq.bx rfl
              replace a4 := obj_cell (i := 4) hq.bx rfl
              replace a5 := obj_cell (i := 5) hq.bx rfl
              replace a6 := obj_cell (i := 6) hq.bx rfl
              go_wp2_with fail
              go_roundw
              case rel => exact ⟨k + 1, by omega, by go_num, by rw [HALL.out, HV.out]; rfl, hq⟩
              case measure => simp [intOf]; omega
            · rw [ha] at hp1
              cases hb : goodE t.2.2
              · skip
                have HV := Lib.hid (show okB t = false by unfold okB; rw [ha, hb, j1, j3]; rfl)
                have hp1 := hp1
                go_wp2_with fail
                refine hp1.mono ?_
                rintro e w9 ⟨rfl, hB⟩
                clear hp1
                replace hq := hq.keep hB
                replace hY := (hB.block _ (World.block_lt_of_cell? _ _ d0)).trans hY
                clear hB
                replace a0 := obj_cell (i := 0) hq.bx rfl
                replace a1 := obj_cell (i := 1) hq.bx rfl
                replace a2 := obj_cell (i := 2) hq.bx rfl
                replace a3 := obj_cell (i := 3) hq.bx rfl
                replace a4 := obj_cell (i := 4) hq.bx rfl
                replace a5 := obj_cell (i := 5) hq.bx rfl
                replace a6 := obj_cell (i := 6) hq.bx rfl
                replace d0 := obj_cell (i := 0) hY rfl
                replace d1 := obj_cell (i := 1) hY rfl
                replace d2 := obj_cell (i := 2) hY rfl
                replace d3 := obj_cell (i := 3) hY rfl
                replace d4 := obj_cell (i := 4) hY rfl
                replace d5 := obj_cell (i := 5) hY rfl
                replace d6 := obj_cell (i := 6) hY rfl
                have hp2 := rgood_any HFW.out.2.2.1 HFW.out.2.2.2.2 w9 S _ (fun b hb => Nat.lt_of_lt_of_le (HS.out b hb) hq.below.size) (HY.out.2.move fun b hb => ⟨hb, hq.below.block b (HS.out b hb)⟩)
                rw [hb] at hp2
                clear ha hb f1 f3
                go_wp2_with fail
                refine hp2.mono ?_
                rintro e w9 ⟨rfl, hB⟩
                clear hp2
                replace hq := hq.keep hB
                clear hB
                replace a0 := obj_cell (i := 0) hq.bx rfl
                replace a1 := obj_cell (i := 1) hq.bx rfl
                replace a2 := obj_cell (i := 2) hq.bx rfl
                replace a3 := obj_cell (i := 3) hq.bx rfl
                replace a4 := obj_cell (i := 4) hq.bx rfl
                replace a5 := obj_cell (i := 5) hq.bx rfl
                replace a6 := obj_cell (i := 6) hq.bx rfl
                go_wp2_with fail
                go_roundw
                case rel => exact ⟨k + 1, by omega, by go_num, by rw [HALL.out, HV.out]; rfl, hq⟩
                case measure => simp [intOf]; omega
              · skip
                have HV := Lib.hid (show okB t = true by unfold okB; rw [ha, hb, j1, j3]; rfl)
                have hp1 := hp1
                go_wp2_with fail
                refine hp1.mono ?_
                rintro e w9 ⟨rfl, hB⟩
                clear hp1
                replace hq := hq.keep hB
                replace hY := (hB.block _ (World.block_lt_of_cell? _ _ d0)).trans hY
                clear hB
                replace a0 := obj_cell (i := 0) hq.bx rfl
                replace a1 := obj_cell (i := 1) hq.bx rfl
                replace a2 := obj_cell (i := 2) hq.bx rfl
                replace a3 := obj_cell (i := 3) hq.bx rfl
                replace a4 := obj_cell (i := 4) hq.bx rfl
                replace a5 := obj_cell (i := 5) hq.bx rfl
                replace a6 := obj_cell (i := 6) hq.bx rfl
                replace d0 := obj_cell (i := 0) hY rfl
                replace d1 := obj_cell (i := 1) hY rfl
                replace d2 := obj_cell (i := 2) hY rfl
                replace d3 := obj_cell (i := 3) hY rfl
                replace d4 := obj_cell (i := 4) hY rfl
                replace d5 := obj_cell (i := 5) hY rfl
                replace d6 := obj_cell (i := 6) hY rfl
                have hp2 := rgood_any HFW.out.2.2.1 HFW.out.2.2.2.2 w9 S _ (fun b hb => Nat.lt_of_lt_of_le (HS.out b hb) hq.below.size) (HY.out.2.move fun b hb => ⟨hb, hq.below.block b (HS.out b hb)⟩)
                rw [hb] at hp2
                clear ha hb f1 f3
                go_wp2_with fail
                refine hp2.mono ?_
                rintro e w9 ⟨rfl, hB⟩
                clear hp2
                replace hq := hq.keep hB
                clear hB
                replace a0 := obj_cell (i := 0) hq.bx rfl
                replace a1 := obj_cell (i := 1) hq.bx rfl
                replace a2 := obj_cell (i := 2) hq.bx rfl
                replace a3 := obj_cell (i := 3) hq.bx rfl
                replace a4 := obj_cell (i := 4) hq.bx rfl
                replace a5 := obj_cell (i := 5) hq.bx rfl
                replace a6 := obj_cell (i := 6) hq.bx rfl
                go_wp2_with fail
                go_roundw
                case rel => exact ⟨k + 1, by omega, by go_num, by rw [HALL.out, HV.out]; rfl, hq⟩
                case measure => simp [intOf]; omega
          · have j3 : decide (t.1 ≤ (3 : Int)) = false := decide_eq_false f3
            have HV := Lib.hid (show okB t = false by unfold okB; rw [j3]; simp)
            clear hp1 f1 f3
            go_wp2_with fail
            go_roundw
            case rel => exact ⟨k + 1, by omega, by go_num, by rw [HALL.out, HV.out]; rfl, hq⟩
            case measure => simp [intOf]; omega
        · have j1 : decide ((1 : Int) ≤ t.1) = false := decide_eq_false f1
          have HV := Lib.hid (show okB t = false by unfold okB; rw [j1]; rfl)
          clear hp1 f1
          go_wp2_with fail
          go_roundw
          case rel => exact ⟨k + 1, by omega, by go_num, by rw [HALL.out, HV.out]; rfl, hq⟩
          case measure => simp [intOf]; omega
    · obtain rfl : k = n := by omega
      have k0 : decide ((k : Int) < (k : Int)) = false := by simp
      have hnl : x.fields.take k = x.fields := List.take_of_length_le (by rw [← hnn.out]; exact Nat.le_refl _)
      rw [hnl] at *
      clear hnl
      cases hall : x.fields.all okB
      · have HBAD := Lib.hid (show goodS x = false by rw [HG0.out]; exact hall)
        clear hall
        go_wp2_with fail
        refine bodyPost_ret (v := .tuple #[.string ⟨#[]⟩, .int .i64 1]) (by simp [results, Try.results18, go_sem]) rfl (rret_arg hq HBAD.out)
      · have HGOOD := Lib.hid (show goodS x = true by rw [HG0.out]; exact hall)
        clear hall
        go_wp2_with fail
        have hk1 : ∀ Y, Calls Try.prog 41 #[.agg #[.int .i64 k1, .string σ1, .slice sl1 n1 c1]] (Sx.ext wr Y) fun e W' => e = .returned (.string ⟨(rtx x.name).toArray⟩) ∧ Below (Sx.ext wr Y).heap.size (Sx.ext wr Y) W' := fun Y =>
          rtext_all HWN.out HL.out.wn _ S _ (fun b hb => Nat.lt_of_lt_of_le (HS.out b hb) (Nat.le_trans hq.below.size (Sx.ext_below wr Y).size)) (HRN.out.move fun b hb => ⟨hb, ((Sx.ext_below wr Y).block b (Nat.lt_of_lt_of_le (HS.out b hb) hq.below.size)).trans (hq.below.block b (HS.out b hb))⟩)
        have hk2 : ∀ Y, Calls Try.prog 41 #[.agg #[.int .i64 k2, .string σ2, .slice sl2 n2 c2]] (Sx.ext wr Y) fun e W' => e = .returned (.string ⟨(rtx x.version).toArray⟩) ∧ Below (Sx.ext wr Y).heap.size (Sx.ext wr Y) W' := fun Y =>
          rtext_all HWV.out HL.out.wv _ S _ (fun b hb => Nat.lt_of_lt_of_le (HS.out b hb) (Nat.le_trans hq.below.size (Sx.ext_below wr Y).size)) (HRV.out.move fun b hb => ⟨hb, ((Sx.ext_below wr Y).block b (Nat.lt_of_lt_of_le (HS.out b hb) hq.below.size)).trans (hq.below.block b (HS.out b hb))⟩)
        have l1 : (rtx x.name).length ≤ 140000 := by have := rtx_le _ HWN.out; have := HL.out.wn; omega
        have l2 : (rtx x.version).length ≤ 140000 := by have := rtx_le _ HWV.out; have := HL.out.wv; omega
        have q0 := Sx.ext_cell a0
        have q1 := Sx.ext_cell a1
        have q2 := Sx.ext_cell a2
        have q3 := Sx.ext_cell a3
        have q4 := Sx.ext_cell a4
        have q5 := Sx.ext_cell a5
        clear a0 a1 a2 a3 a4 a5
        refine Sx.wp_region_ext (X := wr) (by kernel_rfl) (by kernel_rfl) ?_
        repeat (go_big_quiet_step ((go_at_call 41; first | with_reducible exact Sx.calls_ext (hk1 _) | with_reducible exact Sx.calls_ext (hk2 _))))
        refine wpQuiet_nil ?_
        intro _ hw'
        obtain ⟨Y, hw''⟩ := hw'
        subst hw''
        replace hq := hq.keep (Sx.ext_below wr Y)
        clear hk1 hk2 q0 q1 q2 q3 q4 q5
        generalize Sx.ext wr Y = wo at *
        replace a6 := obj_cell (i := 6) hq.bx rfl
        have hpl : (rpre x).length ≤ 300000 := by unfold rpre; simp [wPack, wVers]; omega
        go_wp2_with fail
        have HPE := Lib.hid (show (⟨#[112, 97, 99, 107, 97, 103, 101, 32]⟩ ++ ⟨(rtx x.name).toArray⟩ ++ ⟨#[10, 118, 101, 114, 115, 105, 111, 110, 32]⟩ ++ ⟨(rtx x.version).toArray⟩ ++ ⟨#[10]⟩ : ByteArray) = ⟨(rpre x).toArray⟩ by apply ByteArray.ext; simp [ByteArray.data_append, rpre, wPack, wVers])
        go_loopw [7, 9, 10, 73] (fun o _ _ i w => ∃ (j : Nat) (l : List UInt8), j ≤ k ∧ i = .int .i64 j ∧ o = .string ⟨l.toArray⟩ ∧ l = rpre x ++ (x.fields.take j).flatMap rfieldL ∧ l.length ≤ 300000 + j * 300000 ∧ QV W w #[.int .i64 k1, .string σ1, .slice sl1 n1 c1, .int .i64 k2, .string σ2, .slice sl2 n2 c2, .slice sl k c]) (fun _ _ _ i _ => k - (intOf i).toNat)
        case atStart => exact ⟨0, rpre x, Nat.zero_le _, rfl, by rw [← HPE.out], by simp, by omega, hq⟩
        case round =>
          obtain ⟨j, l, hj, rfl, rfl, hl, hll, hq'⟩ := hrel
          have HLL := Lib.hid hl
          clear hq hl a6
          have hq := hq'
          clear hq'
          by_cases hlt : j < k
          · skip
            obtain ⟨t, ht⟩ : ∃ t, x.fields[j]? = some t := ⟨x.fields[j]'(by rw [← hnn.out]; exact hlt), List.getElem?_eq_getElem _⟩
            obtain ⟨bk, o, q, rfl, hbl, hqf, hcs⟩ := HRF.out.2 j t ht
            have HFW := Lib.hid (HL.out.fd t (List.mem_of_getElem? ht))
            obtain ⟨q1, ⟨q2, q3, q4⟩, q5, q6, q7⟩ := q
            obtain ⟨y1, y2, y3⟩ := hqf
            simp only at y1 y2 y3
            obtain ⟨u1, τ1, vl1, e1, d1, hv⟩ := y2.vals
            simp only [Value.agg.injEq, Array.mk.injEq, List.cons.injEq, and_true] at hv
            obtain ⟨rfl, rfl, rfl⟩ := hv
            obtain ⟨u2, τ2, vl2, e2, d2, hv⟩ := y3.vals
            simp only [Value.agg.injEq, Array.mk.injEq, List.cons.injEq, and_true] at hv
            obtain ⟨rfl, rfl, rfl⟩ := hv
            subst y1
            have HY := Lib.hid (And.intro y2 y3)
            clear y2 y3
            have g0 := (hq.below.cell (p := ⟨bk, o + j * 7, none⟩) (HS.out bk hbl)).trans (hcs 0 _ rfl)
            have g1 := (hq.below.cell (p := ⟨bk, o + j * 7 + 1, none⟩) (HS.out bk hbl)).trans (hcs 1 _ rfl)
            have g2 := (hq.below.cell (p := ⟨bk, o + j * 7 + 2, none⟩) (HS.out bk hbl)).trans (hcs 2 _ rfl)
            have g3 := (hq.below.cell (p := ⟨bk, o + j * 7 + 3, none⟩) (HS.out bk hbl)).trans (hcs 3 _ rfl)
            have g4 := (hq.below.cell (p := ⟨bk, o + j * 7 + 4, none⟩) (HS.out bk hbl)).trans (hcs 4 _ rfl)
            have g5 := (hq.below.cell (p := ⟨bk, o + j * 7 + 5, none⟩) (HS.out bk hbl)).trans (hcs 5 _ rfl)
            have g6 := (hq.below.cell (p := ⟨bk, o + j * 7 + 6, none⟩) (HS.out bk hbl)).trans (hcs 6 _ rfl)
            clear hcs
            have HFG := Lib.hid (show goodF t from (goodS_parts HGOOD.out).2.2.2 t (List.mem_of_getElem? ht))
            obtain ⟨jj, wd, hj3, hjw, hjc, hjl, hjs⟩ := rkd_word HFG.out.1
            have HTK := Lib.hid (take_rfields ht)
            clear ht
            have hB2 : Below wr.heap.size wr ((wr.alloc (.cells #[.int .i64 t.1, .int .i64 u1, .string τ1, .slice vl1 e1 d1, .int .i64 u2, .string τ2, .slice vl2 e2 d2] 47)).alloc (.cells #[.string ⟨#[116, 111, 111, 108]⟩, .string ⟨#[98, 117, 105, 108, 100]⟩, .string ⟨#[114, 117, 110]⟩] 9)) := ((Below.refl _ _).alloc (Nat.le_refl _) _).alloc (by simp) _
            have hY : ((wr.alloc (.cells #[.int .i64 t.1, .int .i64 u1, .string τ1, .slice vl1 e1 d1, .int .i64 u2, .string τ2, .slice vl2 e2 d2] 47)).alloc (.cells #[.string ⟨#[116, 111, 111, 108]⟩, .string ⟨#[98, 117, 105, 108, 100]⟩, .string ⟨#[114, 117, 110]⟩] 9)).heap[wr.heap.size]? = some (.cells #[.int .i64 t.1, .int .i64 u1, .string τ1, .slice vl1 e1 d1, .int .i64 u2, .string τ2, .slice vl2 e2 d2] 47 (0, 0)) := (heap_alloc_old _ _ (by simp)).trans (heap_alloc_new wr _)
            have hZ : ((wr.alloc (.cells #[.int .i64 t.1, .int .i64 u1, .string τ1, .slice vl1 e1 d1, .int .i64 u2, .string τ2, .slice vl2 e2 d2] 47)).alloc (.cells #[.string ⟨#[116, 111, 111, 108]⟩, .string ⟨#[98, 117, 105, 108, 100]⟩, .string ⟨#[114, 117, 110]⟩] 9)).heap[wr.heap.size + 1]? = some (.cells #[.string ⟨#[116, 111, 111, 108]⟩, .string ⟨#[98, 117, 105, 108, 100]⟩, .string ⟨#[114, 117, 110]⟩] 9 (0, 0)) := by have := heap_alloc_new (wr.alloc (.cells #[.int .i64 t.1, .int .i64 u1, .string τ1, .slice vl1 e1 d1, .int .i64 u2, .string τ2, .slice vl2 e2 d2] 47)) (.cells #[.string ⟨#[116, 111, 111, 108]⟩, .string ⟨#[98, 117, 105, 108, 100]⟩, .string ⟨#[114, 117, 110]⟩] 9); simpa using this
            replace hq := hq.keep hB2
            clear hB2
            have HJL := Lib.hid hjl
            have HJC := Lib.hid hjc
            clear hjl hjc
            go_wp2_with fail
            have z0 := Sx.ext_cell (obj_cell (i := jj) hZ HJC.out)
            clear hZ HJC g0 g1 g2 g3 g4 g5 g6
            have dq0 := Sx.ext_cell (obj_cell (i := 0) hY rfl)
            have dq1 := Sx.ext_cell (obj_cell (i := 1) hY rfl)
            have dq2 := Sx.ext_cell (obj_cell (i := 2) hY rfl)
            have dq3 := Sx.ext_cell (obj_cell (i := 3) hY rfl)
            have dq4 := Sx.ext_cell (obj_cell (i := 4) hY rfl)
            have dq5 := Sx.ext_cell (obj_cell (i := 5) hY rfl)
            have dq6 := Sx.ext_cell (obj_cell (i := 6) hY rfl)
            clear hY
            change Code.wp _ _ _ _ ((wr.alloc (.cells #[.int .i64 t.1, .int .i64 u1, .string τ1, .slice vl1 e1 d1, .int .i64 u2, .string τ2, .slice vl2 e2 d2] 47)).alloc (.cells #[.string ⟨#[116, 111, 111, 108]⟩, .string ⟨#[98, 117, 105, 108, 100]⟩, .string ⟨#[114, 117, 110]⟩] 9))
            generalize (wr.alloc (.cells #[.int .i64 t.1, .int .i64 u1, .string τ1, .slice vl1 e1 d1, .int .i64 u2, .string τ2, .slice vl2 e2 d2] 47)).alloc (.cells #[.string ⟨#[116, 111, 111, 108]⟩, .string ⟨#[98, 117, 105, 108, 100]⟩, .string ⟨#[114, 117, 110]⟩] 9) = X at *
            have hk1 : ∀ Y, Calls Try.prog 41 #[.agg #[.int .i64 u1, .string τ1, .slice vl1 e1 d1]] (Sx.ext X Y) fun e W' => e = .returned (.string ⟨(rtx t.2.1).toArray⟩) ∧ Below (Sx.ext X Y).heap.size (Sx.ext X Y) W' := fun Y =>
              rtext_all HFG.out.2.1 HFW.out.2.2.2.1 _ S _ (fun b hb => Nat.lt_of_lt_of_le (HS.out b hb) (Nat.le_trans hq.below.size (Sx.ext_below X Y).size)) (HY.out.1.move fun b hb => ⟨hb, ((Sx.ext_below X Y).block b (Nat.lt_of_lt_of_le (HS.out b hb) hq.below.size)).trans (hq.below.block b (HS.out b hb))⟩)
            have hk2 : ∀ Y, Calls Try.prog 41 #[.agg #[.int .i64 u2, .string τ2, .slice vl2 e2 d2]] (Sx.ext X Y) fun e W' => e = .returned (.string ⟨(rtx t.2.2).toArray⟩) ∧ Below (Sx.ext X Y).heap.size (Sx.ext X Y) W' := fun Y =>
              rtext_all HFG.out.2.2 HFW.out.2.2.2.2 _ S _ (fun b hb => Nat.lt_of_lt_of_le (HS.out b hb) (Nat.le_trans hq.below.size (Sx.ext_below X Y).size)) (HY.out.2.move fun b hb => ⟨hb, ((Sx.ext_below X Y).block b (Nat.lt_of_lt_of_le (HS.out b hb) hq.below.size)).trans (hq.below.block b (HS.out b hb))⟩)
            have m1 : (rtx t.2.1).length ≤ 140000 := by have := rtx_le _ HFG.out.2.1; have := HFW.out.2.2.2.1; omega
            have m2 : (rtx t.2.2).length ≤ 140000 := by have := rtx_le _ HFG.out.2.2; have := HFW.out.2.2.2.2; omega
            have hll2 : l.length ≤ 9000000 := by omega
            refine Sx.wp_region_ext (X := X) (by kernel_rfl) (by kernel_rfl) ?_
            repeat (go_big_quiet_step ((go_at_call 41; first | with_reducible exact Sx.calls_ext (hk1 _) | with_reducible exact Sx.calls_ext (hk2 _))))
            refine wpQuiet_nil ?_
            intro _ hw'
            obtain ⟨Y, hw''⟩ := hw'
            subst hw''
            replace hq := hq.keep (Sx.ext_below X Y)
            clear hk1 hk2 z0 dq0 dq1 dq2 dq3 dq4 dq5 dq6
            generalize Sx.ext X Y = w9 at *
            have hkw : IntKind.i64.wrap ((j : Int) + 1) = (j : Int) + 1 := IntWalk.i64_in _ (by omega)
            have HNE := Lib.hid (show (⟨l.toArray⟩ ++ wd ++ ⟨#[32]⟩ ++ ⟨(rtx t.2.1).toArray⟩ ++ ⟨#[32]⟩ ++ ⟨(rtx t.2.2).toArray⟩ ++ ⟨#[10]⟩ : ByteArray) = ⟨(l ++ rfieldL t).toArray⟩ by apply ByteArray.ext; apply Array.toList_inj.1; simp [ByteArray.data_append, rfieldL, HJL.out])
            have hwl : (wKw t.1).length ≤ 6 := by rw [← HJL.out, ← Lib.size_eq]; exact hjs
            go_wp2_with fail
            go_roundw
            case rel => exact ⟨j + 1, l ++ rfieldL t, by omega, by go_num, by rw [← HNE.out], by rw [HTK.out, HLL.out, List.append_assoc], by simp [rfieldL]; omega, hq⟩
            case measure => simp [intOf]; omega
          · obtain rfl : j = k := by omega
            have HTF := Lib.hid (show l = rtS x by rw [HLL.out, List.take_of_length_le (by rw [← hnn.out]; exact Nat.le_refl _)]; rfl)
            by_cases hL : 4096 < l.length
            · have kL : decide ((4096 : Int) < (l.length : Int)) = true := by simp; omega
              have HR := Lib.hid (rprint_long HGOOD.out (by rw [← HTF.out]; exact hL))
              clear hL
              go_wp2_with fail
              exact bodyPost_ret (v := .tuple #[.string ⟨#[]⟩, .int .i64 3]) (by simp [results, Try.results18, go_sem]) rfl ⟨hq.below, by rw [HR.out]⟩
            · have kL : decide ((4096 : Int) < (l.length : Int)) = false := by simp; omega
              have HR := Lib.hid (rprint_yes HGOOD.out (by rw [← HTF.out]; exact hL))
              clear hL
              go_wp2_with fail
              exact bodyPost_ret (v := .tuple #[.string ⟨l.toArray⟩, .int .i64 0]) (by simp [results, Try.results18, go_sem]) rfl ⟨hq.below, by rw [HR.out, HTF.out]⟩
theorem print_any {x : Src} (hL : Lim x) (W : World) (S : Nat → Prop) (v : Value) (hS : ∀ b, S b → b < W.heap.size) (hr : RepR W S x v) : Calls Try.prog 17 #[v] W fun e W' => PO W x e W' := by
  obtain ⟨k1, σ1, sl1, n1, c1, k2, σ2, sl2, n2, c2, sl, n, c, rfl, rn, rv, rf, -⟩ := hr
  cases hg : goodE x.name
  · exact print_bad1 hL W S _ _ _ _ _ _ _ _ _ _ _ _ _ hS rn rv rf hg
  · cases hg2 : goodE x.version
    · exact print_bad2 hL W S _ _ _ _ _ _ _ _ _ _ _ _ _ hS rn rv rf hg hg2
    · by_cases hg3 : n ≤ 20
      · exact print_good hL W S _ _ _ _ _ _ _ _ _ _ _ _ _ hS rn rv rf hg hg2 hg3
      · exact print_bad3 hL W S _ _ _ _ _ _ _ _ _ _ _ _ _ hS rn rv rf hg hg2 (by omega)
theorem rprint_any {x : Src} (hL : Lim x) (W : World) (S : Nat → Prop) (v : Value) (hS : ∀ b, S b → b < W.heap.size) (hr : RepR W S x v) : Calls Try.prog 18 #[v] W fun e W' => PO W x e W' := by
  obtain ⟨k1, σ1, sl1, n1, c1, k2, σ2, sl2, n2, c2, sl, n, c, rfl, rn, rv, rf, -⟩ := hr
  by_cases hg3 : n ≤ 20
  · cases hg : goodE x.name
    · exact rprint_bad2 hL W S _ _ _ _ _ _ _ _ _ _ _ _ _ hS rn rv rf hg3 hg
    · cases hg2 : goodE x.version
      · exact rprint_bad3 hL W S _ _ _ _ _ _ _ _ _ _ _ _ _ hS rn rv rf hg3 hg hg2
      · exact rprint_good hL W S _ _ _ _ _ _ _ _ _ _ _ _ _ hS rn rv rf hg hg2 hg3
  · exact rprint_bad1 hL W S _ _ _ _ _ _ _ _ _ _ _ _ _ hS rn rv rf (by omega)
end Rc
end Go.Proofs.Ytcigggffaofkhaa
