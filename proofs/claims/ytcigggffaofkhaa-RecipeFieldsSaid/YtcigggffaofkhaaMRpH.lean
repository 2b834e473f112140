/-
  Walk: Print. (printed by gen_RpH.py)
-/
import Derived.Test.YtcigggffaofkhaaRpG
import Derived.Test.YtcigggffaofkhaaMRpB
import Derived.Test.YtcigggffaofkhaaMRrS
namespace Go.Proofs.Ytcigggffaofkhaa
open Go.RowKit
namespace Rc

def okB (f : Int × E × E) : Bool := decide (1 ≤ f.1) && decide (f.1 ≤ 3) && goodE f.2.1 && goodE f.2.2
theorem goodS_eq (x : Src) : goodS x = (goodE x.name && goodE x.version && decide (x.fields.length ≤ 20) && x.fields.all okB) := rfl
theorem print_no {x : Src} (h : goodS x = false) : printP x = ([], 1) := by unfold printP; rw [if_pos h]
theorem print_long {x : Src} (h : goodS x = true) (hl : 4096 < (textS x).length) : printP x = ([], 3) := by unfold printP; rw [if_neg (by rw [h]; decide), if_pos hl]
theorem print_yes {x : Src} (h : goodS x = true) (hl : ¬ 4096 < (textS x).length) : printP x = (textS x, 0) := by unfold printP; rw [if_neg (by rw [h]; decide), if_neg hl]
/-- small enough to be walked -/
structure Lim (x : Src) : Prop where
  nm : Sml x.name
  vs : Sml x.version
  wn : sizeW x.name ≤ 20000
  wv : sizeW x.version ≤ 20000
  ln : x.fields.length ≤ 140737488355328
  fd : ∀ f ∈ x.fields, (-9223372036854775808 ≤ f.1 ∧ f.1 ≤ 9223372036854775807) ∧ Sml f.2.1 ∧ Sml f.2.2 ∧ sizeW f.2.1 ≤ 20000 ∧ sizeW f.2.2 ≤ 20000
theorem all_succ {l : List (Int × E × E)} {k : Nat} {t : Int × E × E} (h : l[k]? = some t) : (l.take (k + 1)).all okB = ((l.take k).all okB && okB t) := by
  obtain ⟨hk, e⟩ := List.getElem?_eq_some_iff.1 h
  rw [List.take_succ_eq_append_getElem hk, e, List.all_append]
  simp
theorem all_false {l : List (Int × E × E)} {k : Nat} (h : (l.take k).all okB = false) : l.all okB = false := by
  rw [← List.take_append_drop k l, List.all_append, h]
  rfl
theorem ret_arg {W w : World} {cs : Array Value} (h : QW W w cs) {x : Src} (hx : goodS x = false) : PO W x (.returned (.tuple #[.string ⟨#[]⟩, .int .i64 1])) ((w.setCell ⟨W.heap.size + 1, 0, none⟩ (.string ⟨#[]⟩)).setCell ⟨W.heap.size + 1 + 1, 0, none⟩ (.int .i64 1)) :=
  ⟨(h.below.setCell (p := ⟨W.heap.size + 1, 0, none⟩) (Nat.le_succ _) _).setCell (p := ⟨W.heap.size + 1 + 1, 0, none⟩) (by show W.heap.size ≤ W.heap.size + 1 + 1; omega) _, by rw [print_no hx]⟩
theorem kd_word {k : Int} (h : k = 1 ∨ k = 2 ∨ k = 3) : ∃ (j : Nat) (wd : ByteArray), j < 3 ∧ IntKind.i64.wrap (k - 1) = (j : Int) ∧ (#[.string ⟨#[116, 111, 111, 108, 32]⟩, .string ⟨#[98, 117, 105, 108, 100, 32]⟩, .string ⟨#[114, 117, 110, 32]⟩] : Array Value)[j]? = some (.string wd) ∧ wd.data.toList = wKind k ∧ wd.size ≤ 6 := by
  rcases h with rfl | rfl | rfl
  · exact ⟨0, ⟨#[116, 111, 111, 108, 32]⟩, by decide, by decide, rfl, by decide, by decide⟩
  · exact ⟨1, ⟨#[98, 117, 105, 108, 100, 32]⟩, by decide, by decide, rfl, by decide, by decide⟩
  · exact ⟨2, ⟨#[114, 117, 110, 32]⟩, by decide, by decide, rfl, by decide, by decide⟩
theorem take_fields {l : List (Int × E × E)} {k : Nat} {t : Int × E × E} (h : l[k]? = some t) : (l.take (k + 1)).flatMap fieldL = (l.take k).flatMap fieldL ++ fieldL t := by
  obtain ⟨hk, e⟩ := List.getElem?_eq_some_iff.1 h
  rw [List.take_succ_eq_append_getElem hk, e, List.flatMap_append]
  simp
theorem take_fields_le (l : List (Int × E × E)) (k : Nat) : ((l.take k).flatMap fieldL).length ≤ (l.flatMap fieldL).length := by
  conv => rhs; rw [← List.take_append_drop k l]
  rw [List.flatMap_append, List.length_append]
  omega
def preS (x : Src) : List UInt8 := wPack ++ (textE x.name ++ (wVers ++ (textE x.version ++ [10])))
theorem textS_pre (x : Src) : textS x = preS x ++ x.fields.flatMap fieldL := by simp [textS, preS]
theorem pr_start (w : World) : PR (w.alloc (.cells #[.slice none 0 0] 74)) w.heap.size [] (.slice none 0 0) := by
  have hn := heap_alloc_new w (.cells #[.slice none 0 0] 74)
  refine ⟨by simp, by simp only [World.cell?, hn]; rfl, fun j => by simp only [World.frozen?, hn]; rfl, World.ownsRow_nil _ _ _ _⟩
set_option maxHeartbeats 4000000 in
set_option maxRecDepth 100000 in
theorem print_bad1 {x : Src} (hL : Lim x) (W : World) (S : Nat → Prop) (k1 : Int) (σ1 : ByteArray) (sl1 : Option Addr) (n1 c1 : Nat) (k2 : Int) (σ2 : ByteArray) (sl2 : Option Addr) (n2 c2 : Nat) (sl : Option Addr) (n c : Nat) (hS : ∀ b, S b → b < W.heap.size)
    (rn : RepX W S x.name (.agg #[.int .i64 k1, .string σ1, .slice sl1 n1 c1])) (rv : RepX W S x.version (.agg #[.int .i64 k2, .string σ2, .slice sl2 n2 c2])) (rf : FS W S sl n x.fields) (hg : goodE x.name = false) :
    Calls Try.prog 17 #[.agg #[.int .i64 k1, .string σ1, .slice sl1 n1 c1, .int .i64 k2, .string σ2, .slice sl2 n2 c2, .slice sl n c]] W fun e W' => PO W x e W' := by
  have hmf : ∀ (fn : Fn) (first cap : Array Value) (w : World), (Instr.makeFunc fn first cap).run Try.prog w = .ok (.func fn first cap) w := fun _ _ _ _ => rfl
  have hbad : goodS x = false := by rw [goodS_eq, hg]; rfl
  have hq := QW.start W #[.int .i64 k1, .string σ1, .slice sl1 n1 c1, .int .i64 k2, .string σ2, .slice sl2 n2 c2, .slice sl n c]
  have hA := hq.below
  have hN := good_any hL.nm hL.wn (((W.alloc (.cells #[.int .i64 k1, .string σ1, .slice sl1 n1 c1, .int .i64 k2, .string σ2, .slice sl2 n2 c2, .slice sl n c] 29)).alloc (.cells #[.string ⟨#[]⟩] 9)).alloc (.cells #[.int .i64 0] 30)) S _ (fun b hb => Nat.lt_of_lt_of_le (hS b hb) hA.size) (rn.move fun b hb => ⟨hb, hA.block b (hS b hb)⟩)
  have a0 := obj_cell (i := 0) hq.bx rfl
  have a1 := obj_cell (i := 1) hq.bx rfl
  have a2 := obj_cell (i := 2) hq.bx rfl
  have a3 := obj_cell (i := 3) hq.bx rfl
  have a4 := obj_cell (i := 4) hq.bx rfl
  have a5 := obj_cell (i := 5) hq.bx rfl
  have a6 := obj_cell (i := 6) hq.bx rfl
  have o1 := obj_cell (i := 0) hq.b1 rfl
  have o2 := obj_cell (i := 0) hq.b2 rfl
  have hnn := Lib.hid rf.1
  have HRF := Lib.hid rf
  have HRN := Lib.hid rn
  have HRV := Lib.hid rv
  have HS := Lib.hid hS
  have HL := Lib.hid hL
  have HN0 := Lib.hid (show n ≤ 140737488355328 by rw [rf.1]; exact hL.ln)
  clear rf rn rv hS hL hA
  have hn0 := HN0.out
  rw [hg] at hN
  go_enter_defers Try.func17, Try.ntmps17
  go_wp2_with fail
  refine hN.mono ?_
  rintro e w9 ⟨rfl, hB⟩
  clear hN
  replace hq := hq.keep hB
  clear hB
  replace a0 := obj_cell (i := 0) hq.bx rfl
  replace a1 := obj_cell (i := 1) hq.bx rfl
  replace a2 := obj_cell (i := 2) hq.bx rfl
  replace a3 := obj_cell (i := 3) hq.bx rfl
  replace a4 := obj_cell (i := 4) hq.bx rfl
  replace a5 := obj_cell (i := 5) hq.bx rfl
  replace a6 := obj_cell (i := 6) hq.bx rfl
  replace o1 := obj_cell (i := 0) hq.b1 rfl
  replace o2 := obj_cell (i := 0) hq.b2 rfl
  go_wp2_with fail
  have HBAD := Lib.hid hbad
  clear hbad
  go_loopw [4, 5] (fun ok i wr => ok = .bool false ∧ i = .int .i64 0 ∧ QW W wr #[.int .i64 k1, .string σ1, .slice sl1 n1 c1, .int .i64 k2, .string σ2, .slice sl2 n2 c2, .slice sl n c]) (fun _ _ _ => 0)
  case atStart => exact ⟨rfl, rfl, hq⟩
  case round =>
    obtain ⟨rfl, rfl, hq'⟩ := hrel
    clear hq a0 a1 a2 a3 a4 a5 a6 o1 o2
    by_cases h0 : 0 < n
    · have k0 : decide ((0 : Int) < (n : Int)) = true := by simp; omega
      have a0 := obj_cell (i := 0) hq'.bx rfl
      have a1 := obj_cell (i := 1) hq'.bx rfl
      have a2 := obj_cell (i := 2) hq'.bx rfl
      have a3 := obj_cell (i := 3) hq'.bx rfl
      have a4 := obj_cell (i := 4) hq'.bx rfl
      have a5 := obj_cell (i := 5) hq'.bx rfl
      have a6 := obj_cell (i := 6) hq'.bx rfl
      have o1 := obj_cell (i := 0) hq'.b1 rfl
      have o2 := obj_cell (i := 0) hq'.b2 rfl
      have z1 : wr.frozen? ⟨W.heap.size + 1, 0, none⟩ = false := by simp [World.frozen?, hq'.b1]
      have z2 : wr.frozen? ⟨W.heap.size + 1 + 1, 0, none⟩ = false := by simp [World.frozen?, hq'.b2]
      go_wp2_with fail
      refine ⟨.tuple #[.string ⟨#[]⟩, .int .i64 1], by simp [results, Try.results17, go_sem, o1, o2], ret_arg hq' HBAD.out⟩
    · have k0 : decide ((0 : Int) < (n : Int)) = false := by simp; omega
      have a0 := obj_cell (i := 0) hq'.bx rfl
      have a1 := obj_cell (i := 1) hq'.bx rfl
      have a2 := obj_cell (i := 2) hq'.bx rfl
      have a3 := obj_cell (i := 3) hq'.bx rfl
      have a4 := obj_cell (i := 4) hq'.bx rfl
      have a5 := obj_cell (i := 5) hq'.bx rfl
      have a6 := obj_cell (i := 6) hq'.bx rfl
      have o1 := obj_cell (i := 0) hq'.b1 rfl
      have o2 := obj_cell (i := 0) hq'.b2 rfl
      have z1 : wr.frozen? ⟨W.heap.size + 1, 0, none⟩ = false := by simp [World.frozen?, hq'.b1]
      have z2 : wr.frozen? ⟨W.heap.size + 1 + 1, 0, none⟩ = false := by simp [World.frozen?, hq'.b2]
      go_wp2_with fail
      refine ⟨.tuple #[.string ⟨#[]⟩, .int .i64 1], by simp [results, Try.results17, go_sem, o1, o2], ret_arg hq' HBAD.out⟩
set_option maxHeartbeats 4000000 in
set_option maxRecDepth 100000 in
theorem print_bad2 {x : Src} (hL : Lim x) (W : World) (S : Nat → Prop) (k1 : Int) (σ1 : ByteArray) (sl1 : Option Addr) (n1 c1 : Nat) (k2 : Int) (σ2 : ByteArray) (sl2 : Option Addr) (n2 c2 : Nat) (sl : Option Addr) (n c : Nat) (hS : ∀ b, S b → b < W.heap.size)
    (rn : RepX W S x.name (.agg #[.int .i64 k1, .string σ1, .slice sl1 n1 c1])) (rv : RepX W S x.version (.agg #[.int .i64 k2, .string σ2, .slice sl2 n2 c2])) (rf : FS W S sl n x.fields) (hg : goodE x.name = true) (hg2 : goodE x.version = false) :
    Calls Try.prog 17 #[.agg #[.int .i64 k1, .string σ1, .slice sl1 n1 c1, .int .i64 k2, .string σ2, .slice sl2 n2 c2, .slice sl n c]] W fun e W' => PO W x e W' := by
  have hmf : ∀ (fn : Fn) (first cap : Array Value) (w : World), (Instr.makeFunc fn first cap).run Try.prog w = .ok (.func fn first cap) w := fun _ _ _ _ => rfl
  have hbad : goodS x = false := by rw [goodS_eq, hg, hg2]; rfl
  have hq := QW.start W #[.int .i64 k1, .string σ1, .slice sl1 n1 c1, .int .i64 k2, .string σ2, .slice sl2 n2 c2, .slice sl n c]
  have hA := hq.below
  have hN := good_any hL.nm hL.wn (((W.alloc (.cells #[.int .i64 k1, .string σ1, .slice sl1 n1 c1, .int .i64 k2, .string σ2, .slice sl2 n2 c2, .slice sl n c] 29)).alloc (.cells #[.string ⟨#[]⟩] 9)).alloc (.cells #[.int .i64 0] 30)) S _ (fun b hb => Nat.lt_of_lt_of_le (hS b hb) hA.size) (rn.move fun b hb => ⟨hb, hA.block b (hS b hb)⟩)
  have a0 := obj_cell (i := 0) hq.bx rfl
  have a1 := obj_cell (i := 1) hq.bx rfl
  have a2 := obj_cell (i := 2) hq.bx rfl
  have a3 := obj_cell (i := 3) hq.bx rfl
  have a4 := obj_cell (i := 4) hq.bx rfl
  have a5 := obj_cell (i := 5) hq.bx rfl
  have a6 := obj_cell (i := 6) hq.bx rfl
  have o1 := obj_cell (i := 0) hq.b1 rfl
  have o2 := obj_cell (i := 0) hq.b2 rfl
  have hnn := Lib.hid rf.1
  have HRF := Lib.hid rf
  have HRN := Lib.hid rn
  have HRV := Lib.hid rv
  have HS := Lib.hid hS
  have HL := Lib.hid hL
  have HN0 := Lib.hid (show n ≤ 140737488355328 by rw [rf.1]; exact hL.ln)
  clear rf rn rv hS hL hA
  have hn0 := HN0.out
  rw [hg] at hN
  go_enter_defers Try.func17, Try.ntmps17
  go_wp2_with fail
  refine hN.mono ?_
  rintro e w9 ⟨rfl, hB⟩
  clear hN
  replace hq := hq.keep hB
  clear hB
  replace a0 := obj_cell (i := 0) hq.bx rfl
  replace a1 := obj_cell (i := 1) hq.bx rfl
  replace a2 := obj_cell (i := 2) hq.bx rfl
  replace a3 := obj_cell (i := 3) hq.bx rfl
  replace a4 := obj_cell (i := 4) hq.bx rfl
  replace a5 := obj_cell (i := 5) hq.bx rfl
  replace a6 := obj_cell (i := 6) hq.bx rfl
  replace o1 := obj_cell (i := 0) hq.b1 rfl
  replace o2 := obj_cell (i := 0) hq.b2 rfl
  have hV := good_any HL.out.vs HL.out.wv w9 S _ (fun b hb => Nat.lt_of_lt_of_le (HS.out b hb) hq.below.size) (HRV.out.move fun b hb => ⟨hb, hq.below.block b (HS.out b hb)⟩)
  rw [hg2] at hV
  go_wp2_with fail
  refine hV.mono ?_
  rintro e w9 ⟨rfl, hB⟩
  clear hV
  replace hq := hq.keep hB
  clear hB
  replace a0 := obj_cell (i := 0) hq.bx rfl
  replace a1 := obj_cell (i := 1) hq.bx rfl
  replace a2 := obj_cell (i := 2) hq.bx rfl
  replace a3 := obj_cell (i := 3) hq.bx rfl
  replace a4 := obj_cell (i := 4) hq.bx rfl
  replace a5 := obj_cell (i := 5) hq.bx rfl
  replace a6 := obj_cell (i := 6) hq.bx rfl
  replace o1 := obj_cell (i := 0) hq.b1 rfl
  replace o2 := obj_cell (i := 0) hq.b2 rfl
  go_wp2_with fail
  have HBAD := Lib.hid hbad
  clear hbad
  go_loopw [4, 5] (fun ok i wr => ok = .bool false ∧ i = .int .i64 0 ∧ QW W wr #[.int .i64 k1, .string σ1, .slice sl1 n1 c1, .int .i64 k2, .string σ2, .slice sl2 n2 c2, .slice sl n c]) (fun _ _ _ => 0)
  case atStart => exact ⟨rfl, rfl, hq⟩
  case round =>
    obtain ⟨rfl, rfl, hq'⟩ := hrel
    clear hq a0 a1 a2 a3 a4 a5 a6 o1 o2
    by_cases h0 : 0 < n
    · have k0 : decide ((0 : Int) < (n : Int)) = true := by simp; omega
      have a0 := obj_cell (i := 0) hq'.bx rfl
      have a1 := obj_cell (i := 1) hq'.bx rfl
      have a2 := obj_cell (i := 2) hq'.bx rfl
      have a3 := obj_cell (i := 3) hq'.bx rfl
      have a4 := obj_cell (i := 4) hq'.bx rfl
      have a5 := obj_cell (i := 5) hq'.bx rfl
      have a6 := obj_cell (i := 6) hq'.bx rfl
      have o1 := obj_cell (i := 0) hq'.b1 rfl
      have o2 := obj_cell (i := 0) hq'.b2 rfl
      have z1 : wr.frozen? ⟨W.heap.size + 1, 0, none⟩ = false := by simp [World.frozen?, hq'.b1]
      have z2 : wr.frozen? ⟨W.heap.size + 1 + 1, 0, none⟩ = false := by simp [World.frozen?, hq'.b2]
      go_wp2_with fail
      refine ⟨.tuple #[.string ⟨#[]⟩, .int .i64 1], by simp [results, Try.results17, go_sem, o1, o2], ret_arg hq' HBAD.out⟩
    · have k0 : decide ((0 : Int) < (n : Int)) = false := by simp; omega
      have a0 := obj_cell (i := 0) hq'.bx rfl
      have a1 := obj_cell (i := 1) hq'.bx rfl
      have a2 := obj_cell (i := 2) hq'.bx rfl
      have a3 := obj_cell (i := 3) hq'.bx rfl
      have a4 := obj_cell (i := 4) hq'.bx rfl
      have a5 := obj_cell (i := 5) hq'.bx rfl
      have a6 := obj_cell (i := 6) hq'.bx rfl
      have o1 := obj_cell (i := 0) hq'.b1 rfl
      have o2 := obj_cell (i := 0) hq'.b2 rfl
      have z1 : wr.frozen? ⟨W.heap.size + 1, 0, none⟩ = false := by simp [World.frozen?, hq'.b1]
      have z2 : wr.frozen? ⟨W.heap.size + 1 + 1, 0, none⟩ = false := by simp [World.frozen?, hq'.b2]
      go_wp2_with fail
      refine ⟨.tuple #[.string ⟨#[]⟩, .int .i64 1], by simp [results, Try.results17, go_sem, o1, o2], ret_arg hq' HBAD.out⟩
set_option maxHeartbeats 4000000 in
set_option maxRecDepth 100000 in
theorem print_bad3 {x : Src} (hL : Lim x) (W : World) (S : Nat → Prop) (k1 : Int) (σ1 : ByteArray) (sl1 : Option Addr) (n1 c1 : Nat) (k2 : Int) (σ2 : ByteArray) (sl2 : Option Addr) (n2 c2 : Nat) (sl : Option Addr) (n c : Nat) (hS : ∀ b, S b → b < W.heap.size)
    (rn : RepX W S x.name (.agg #[.int .i64 k1, .string σ1, .slice sl1 n1 c1])) (rv : RepX W S x.version (.agg #[.int .i64 k2, .string σ2, .slice sl2 n2 c2])) (rf : FS W S sl n x.fields) (hg : goodE x.name = true) (hg2 : goodE x.version = true) (hg3 : 20 < n) :
    Calls Try.prog 17 #[.agg #[.int .i64 k1, .string σ1, .slice sl1 n1 c1, .int .i64 k2, .string σ2, .slice sl2 n2 c2, .slice sl n c]] W fun e W' => PO W x e W' := by
  have hmf : ∀ (fn : Fn) (first cap : Array Value) (w : World), (Instr.makeFunc fn first cap).run Try.prog w = .ok (.func fn first cap) w := fun _ _ _ _ => rfl
  have hbad : goodS x = false := by rw [goodS_eq, hg, hg2, show decide (x.fields.length ≤ 20) = false from decide_eq_false (by have := rf.1; omega)]; rfl
  have hq := QW.start W #[.int .i64 k1, .string σ1, .slice sl1 n1 c1, .int .i64 k2, .string σ2, .slice sl2 n2 c2, .slice sl n c]
  have hA := hq.below
  have hN := good_any hL.nm hL.wn (((W.alloc (.cells #[.int .i64 k1, .string σ1, .slice sl1 n1 c1, .int .i64 k2, .string σ2, .slice sl2 n2 c2, .slice sl n c] 29)).alloc (.cells #[.string ⟨#[]⟩] 9)).alloc (.cells #[.int .i64 0] 30)) S _ (fun b hb => Nat.lt_of_lt_of_le (hS b hb) hA.size) (rn.move fun b hb => ⟨hb, hA.block b (hS b hb)⟩)
  have a0 := obj_cell (i := 0) hq.bx rfl
  have a1 := obj_cell (i := 1) hq.bx rfl
  have a2 := obj_cell (i := 2) hq.bx rfl
  have a3 := obj_cell (i := 3) hq.bx rfl
  have a4 := obj_cell (i := 4) hq.bx rfl
  have a5 := obj_cell (i := 5) hq.bx rfl
  have a6 := obj_cell (i := 6) hq.bx rfl
  have o1 := obj_cell (i := 0) hq.b1 rfl
  have o2 := obj_cell (i := 0) hq.b2 rfl
  have hnn := Lib.hid rf.1
  have HRF := Lib.hid rf
  have HRN := Lib.hid rn
  have HRV := Lib.hid rv
  have HS := Lib.hid hS
  have HL := Lib.hid hL
  have HN0 := Lib.hid (show n ≤ 140737488355328 by rw [rf.1]; exact hL.ln)
  clear rf rn rv hS hL hA
  have hn0 := HN0.out
  rw [hg] at hN
  have k20 : decide ((n : Int) ≤ 20) = false := by simp; omega
  clear hg3
  go_enter_defers Try.func17, Try.ntmps17
  go_wp2_with fail
  refine hN.mono ?_
  rintro e w9 ⟨rfl, hB⟩
  clear hN
  replace hq := hq.keep hB
  clear hB
  replace a0 := obj_cell (i := 0) hq.bx rfl
  replace a1 := obj_cell (i := 1) hq.bx rfl
  replace a2 := obj_cell (i := 2) hq.bx rfl
  replace a3 := obj_cell (i := 3) hq.bx rfl
  replace a4 := obj_cell (i := 4) hq.bx rfl
  replace a5 := obj_cell (i := 5) hq.bx rfl
  replace a6 := obj_cell (i := 6) hq.bx rfl
  replace o1 := obj_cell (i := 0) hq.b1 rfl
  replace o2 := obj_cell (i := 0) hq.b2 rfl
  have hV := good_any HL.out.vs HL.out.wv w9 S _ (fun b hb => Nat.lt_of_lt_of_le (HS.out b hb) hq.below.size) (HRV.out.move fun b hb => ⟨hb, hq.below.block b (HS.out b hb)⟩)
  rw [hg2] at hV
  go_wp2_with fail
  refine hV.mono ?_
  rintro e w9 ⟨rfl, hB⟩
  clear hV
  replace hq := hq.keep hB
  clear hB
  replace a0 := obj_cell (i := 0) hq.bx rfl
  replace a1 := obj_cell (i := 1) hq.bx rfl
  replace a2 := obj_cell (i := 2) hq.bx rfl
  replace a3 := obj_cell (i := 3) hq.bx rfl
  replace a4 := obj_cell (i := 4) hq.bx rfl
  replace a5 := obj_cell (i := 5) hq.bx rfl
  replace a6 := obj_cell (i := 6) hq.bx rfl
  replace o1 := obj_cell (i := 0) hq.b1 rfl
  replace o2 := obj_cell (i := 0) hq.b2 rfl
  go_wp2_with fail
  have HBAD := Lib.hid hbad
  clear hbad
  go_loopw [4, 5] (fun ok i wr => ok = .bool false ∧ i = .int .i64 0 ∧ QW W wr #[.int .i64 k1, .string σ1, .slice sl1 n1 c1, .int .i64 k2, .string σ2, .slice sl2 n2 c2, .slice sl n c]) (fun _ _ _ => 0)
  case atStart => exact ⟨rfl, rfl, hq⟩
  case round =>
    obtain ⟨rfl, rfl, hq'⟩ := hrel
    clear hq a0 a1 a2 a3 a4 a5 a6 o1 o2
    by_cases h0 : 0 < n
    · have k0 : decide ((0 : Int) < (n : Int)) = true := by simp; omega
      have a0 := obj_cell (i := 0) hq'.bx rfl
      have a1 := obj_cell (i := 1) hq'.bx rfl
      have a2 := obj_cell (i := 2) hq'.bx rfl
      have a3 := obj_cell (i := 3) hq'.bx rfl
      have a4 := obj_cell (i := 4) hq'.bx rfl
      have a5 := obj_cell (i := 5) hq'.bx rfl
      have a6 := obj_cell (i := 6) hq'.bx rfl
      have o1 := obj_cell (i := 0) hq'.b1 rfl
      have o2 := obj_cell (i := 0) hq'.b2 rfl
      have z1 : wr.frozen? ⟨W.heap.size + 1, 0, none⟩ = false := by simp [World.frozen?, hq'.b1]
      have z2 : wr.frozen? ⟨W.heap.size + 1 + 1, 0, none⟩ = false := by simp [World.frozen?, hq'.b2]
      go_wp2_with fail
      refine ⟨.tuple #[.string ⟨#[]⟩, .int .i64 1], by simp [results, Try.results17, go_sem, o1, o2], ret_arg hq' HBAD.out⟩
    · have k0 : decide ((0 : Int) < (n : Int)) = false := by simp; omega
      have a0 := obj_cell (i := 0) hq'.bx rfl
      have a1 := obj_cell (i := 1) hq'.bx rfl
      have a2 := obj_cell (i := 2) hq'.bx rfl
      have a3 := obj_cell (i := 3) hq'.bx rfl
      have a4 := obj_cell (i := 4) hq'.bx rfl
      have a5 := obj_cell (i := 5) hq'.bx rfl
      have a6 := obj_cell (i := 6) hq'.bx rfl
      have o1 := obj_cell (i := 0) hq'.b1 rfl
      have o2 := obj_cell (i := 0) hq'.b2 rfl
      have z1 : wr.frozen? ⟨W.heap.size + 1, 0, none⟩ = false := by simp [World.frozen?, hq'.b1]
      have z2 : wr.frozen? ⟨W.heap.size + 1 + 1, 0, none⟩ = false := by simp [World.frozen?, hq'.b2]
      go_wp2_with fail
      refine ⟨.tuple #[.string ⟨#[]⟩, .int .i64 1], by simp [results, Try.results17, go_sem, o1, o2], ret_arg hq' HBAD.out⟩
set_option maxHeartbeats 4000000 in
set_option maxRecDepth 100000 in
theorem print_good {x : Src} (hL : Lim x) (W : World) (S : Nat → Prop) (k1 : Int) (σ1 : ByteArray) (sl1 : Option Addr) (n1 c1 : Nat) (k2 : Int) (σ2 : ByteArray) (sl2 : Option Addr) (n2 c2 : Nat) (sl : Option Addr) (n c : Nat) (hS : ∀ b, S b → b < W.heap.size)
    (rn : RepX W S x.name (.agg #[.int .i64 k1, .string σ1, .slice sl1 n1 c1])) (rv : RepX W S x.version (.agg #[.int .i64 k2, .string σ2, .slice sl2 n2 c2])) (rf : FS W S sl n x.fields) (hg : goodE x.name = true) (hg2 : goodE x.version = true) (hg3 : n ≤ 20) :
    Calls Try.prog 17 #[.agg #[.int .i64 k1, .string σ1, .slice sl1 n1 c1, .int .i64 k2, .string σ2, .slice sl2 n2 c2, .slice sl n c]] W fun e W' => PO W x e W' := by
  have hmf : ∀ (fn : Fn) (first cap : Array Value) (w : World), (Instr.makeFunc fn first cap).run Try.prog w = .ok (.func fn first cap) w := fun _ _ _ _ => rfl
  have HG0 := Lib.hid (show goodS x = x.fields.all okB by rw [goodS_eq, hg, hg2, show decide (x.fields.length ≤ 20) = true from decide_eq_true (by have := rf.1; omega)]; rfl)
  have HWN := Lib.hid (good_wf hg)
  have HWV := Lib.hid (good_wf hg2)
  have hq := QW.start W #[.int .i64 k1, .string σ1, .slice sl1 n1 c1, .int .i64 k2, .string σ2, .slice sl2 n2 c2, .slice sl n c]
  have hA := hq.below
  have hN := good_any hL.nm hL.wn (((W.alloc (.cells #[.int .i64 k1, .string σ1, .slice sl1 n1 c1, .int .i64 k2, .string σ2, .slice sl2 n2 c2, .slice sl n c] 29)).alloc (.cells #[.string ⟨#[]⟩] 9)).alloc (.cells #[.int .i64 0] 30)) S _ (fun b hb => Nat.lt_of_lt_of_le (hS b hb) hA.size) (rn.move fun b hb => ⟨hb, hA.block b (hS b hb)⟩)
  have a0 := obj_cell (i := 0) hq.bx rfl
  have a1 := obj_cell (i := 1) hq.bx rfl
  have a2 := obj_cell (i := 2) hq.bx rfl
  have a3 := obj_cell (i := 3) hq.bx rfl
  have a4 := obj_cell (i := 4) hq.bx rfl
  have a5 := obj_cell (i := 5) hq.bx rfl
  have a6 := obj_cell (i := 6) hq.bx rfl
  have o1 := obj_cell (i := 0) hq.b1 rfl
  have o2 := obj_cell (i := 0) hq.b2 rfl
  have hnn := Lib.hid rf.1
  have HRF := Lib.hid rf
  have HRN := Lib.hid rn
  have HRV := Lib.hid rv
  have HS := Lib.hid hS
  have HL := Lib.hid hL
  have HN0 := Lib.hid (show n ≤ 140737488355328 by rw [rf.1]; exact hL.ln)
  clear rf rn rv hS hL hA
  have hn0 := HN0.out
  rw [hg] at hN
  have k20 : decide ((n : Int) ≤ 20) = true := by simp; omega
  go_enter_defers Try.func17, Try.ntmps17
  go_wp2_with fail
  refine hN.mono ?_
  rintro e w9 ⟨rfl, hB⟩
  clear hN
  replace hq := hq.keep hB
  clear hB
  replace a0 := obj_cell (i := 0) hq.bx rfl
  replace a1 := obj_cell (i := 1) hq.bx rfl
  replace a2 := obj_cell (i := 2) hq.bx rfl
  replace a3 := obj_cell (i := 3) hq.bx rfl
  replace a4 := obj_cell (i := 4) hq.bx rfl
  replace a5 := obj_cell (i := 5) hq.bx rfl
  replace a6 := obj_cell (i := 6) hq.bx rfl
  replace o1 := obj_cell (i := 0) hq.b1 rfl
  replace o2 := obj_cell (i := 0) hq.b2 rfl
  have hV := good_any HL.out.vs HL.out.wv w9 S _ (fun b hb => Nat.lt_of_lt_of_le (HS.out b hb) hq.below.size) (HRV.out.move fun b hb => ⟨hb, hq.below.block b (HS.out b hb)⟩)
  rw [hg2] at hV
  clear hg hg2
  go_wp2_with fail
  refine hV.mono ?_
  rintro e w9 ⟨rfl, hB⟩
  clear hV
  replace hq := hq.keep hB
  clear hB
  replace a0 := obj_cell (i := 0) hq.bx rfl
  replace a1 := obj_cell (i := 1) hq.bx rfl
  replace a2 := obj_cell (i := 2) hq.bx rfl
  replace a3 := obj_cell (i := 3) hq.bx rfl
  replace a4 := obj_cell (i := 4) hq.bx rfl
  replace a5 := obj_cell (i := 5) hq.bx rfl
  replace a6 := obj_cell (i := 6) hq.bx rfl
  replace o1 := obj_cell (i := 0) hq.b1 rfl
  replace o2 := obj_cell (i := 0) hq.b2 rfl
  go_wp2_with fail
  go_loopw [4, 5, 6] (fun ok i _ wr => ∃ k : Nat, k ≤ n ∧ i = .int .i64 k ∧ ok = .bool ((x.fields.take k).all okB) ∧ QW W wr #[.int .i64 k1, .string σ1, .slice sl1 n1 c1, .int .i64 k2, .string σ2, .slice sl2 n2 c2, .slice sl n c]) (fun _ i _ _ => n - (intOf i).toNat)
  case atStart => exact ⟨0, Nat.zero_le _, rfl, rfl, hq⟩
  case round =>
    obtain ⟨k, hk, rfl, rfl, hq'⟩ := hrel
    clear hq a0 a1 a2 a3 a4 a5 a6 o1 o2 k20
    have hq := hq'
    clear hq'
    have a0 := obj_cell (i := 0) hq.bx rfl
    have a1 := obj_cell (i := 1) hq.bx rfl
    have a2 := obj_cell (i := 2) hq.bx rfl
    have a3 := obj_cell (i := 3) hq.bx rfl
    have a4 := obj_cell (i := 4) hq.bx rfl
    have a5 := obj_cell (i := 5) hq.bx rfl
    have a6 := obj_cell (i := 6) hq.bx rfl
    have o1 := obj_cell (i := 0) hq.b1 rfl
    have o2 := obj_cell (i := 0) hq.b2 rfl
    by_cases hlt : k < n
    · have k0 : decide ((k : Int) < (n : Int)) = true := by simp; omega
      cases hall : (x.fields.take k).all okB
      · have HBAD := Lib.hid (show goodS x = false by rw [HG0.out]; exact all_false hall)
        have z1 : wr.frozen? ⟨W.heap.size + 1, 0, none⟩ = false := by simp [World.frozen?, hq.b1]
        have z2 : wr.frozen? ⟨W.heap.size + 1 + 1, 0, none⟩ = false := by simp [World.frozen?, hq.b2]
        clear hall
        go_wp2_with fail
        refine ⟨.tuple #[.string ⟨#[]⟩, .int .i64 1], by simp [results, Try.results17, go_sem, o1, o2], ret_arg hq HBAD.out⟩
      · skip
        obtain ⟨t, ht⟩ : ∃ t, x.fields[k]? = some t := ⟨x.fields[k]'(by rw [← hnn.out]; exact hlt), List.getElem?_eq_getElem _⟩
        obtain ⟨bk, o, q, rfl, hbl, hqf, hcs⟩ := HRF.out.2 k t ht
        have HFW := Lib.hid (HL.out.fd t (List.mem_of_getElem? ht))
        obtain ⟨q1, ⟨q2, q3, q4⟩, q5, q6, q7⟩ := q
        obtain ⟨y1, y2, y3⟩ := hqf
        simp only at y1 y2 y3
        obtain ⟨u1, τ1, vl1, e1, d1, hv⟩ := y2.vals
        simp only [Value.agg.injEq, Array.mk.injEq, List.cons.injEq, and_true] at hv
        obtain ⟨rfl, rfl, rfl⟩ := hv
        obtain ⟨u2, τ2, vl2, e2, d2, hv⟩ := y3.vals
        simp only [Value.agg.injEq, Array.mk.injEq, List.cons.injEq, and_true] at hv
        obtain ⟨rfl, rfl, rfl⟩ := hv
        subst y1
        have HY := Lib.hid (And.intro y2 y3)
        clear y2 y3
        have g0 := (hq.below.cell (p := ⟨bk, o + k * 7, none⟩) (HS.out bk hbl)).trans (hcs 0 _ rfl)
        have g1 := (hq.below.cell (p := ⟨bk, o + k * 7 + 1, none⟩) (HS.out bk hbl)).trans (hcs 1 _ rfl)
        have g2 := (hq.below.cell (p := ⟨bk, o + k * 7 + 2, none⟩) (HS.out bk hbl)).trans (hcs 2 _ rfl)
        have g3 := (hq.below.cell (p := ⟨bk, o + k * 7 + 3, none⟩) (HS.out bk hbl)).trans (hcs 3 _ rfl)
        have g4 := (hq.below.cell (p := ⟨bk, o + k * 7 + 4, none⟩) (HS.out bk hbl)).trans (hcs 4 _ rfl)
        have g5 := (hq.below.cell (p := ⟨bk, o + k * 7 + 5, none⟩) (HS.out bk hbl)).trans (hcs 5 _ rfl)
        have g6 := (hq.below.cell (p := ⟨bk, o + k * 7 + 6, none⟩) (HS.out bk hbl)).trans (hcs 6 _ rfl)
        clear hcs
        have HALL := Lib.hid (all_succ ht)
        rw [hall] at HALL
        clear hall ht
        have hkw : IntKind.i64.wrap ((k : Int) + 1) = (k : Int) + 1 := IntWalk.i64_in _ (by omega)
        have hB2 : Below wr.heap.size wr (wr.alloc (.cells #[.int .i64 t.1, .int .i64 u1, .string τ1, .slice vl1 e1 d1, .int .i64 u2, .string τ2, .slice vl2 e2 d2] 47)) := (Below.refl _ _).alloc (Nat.le_refl _) _
        have hY : (wr.alloc (.cells #[.int .i64 t.1, .int .i64 u1, .string τ1, .slice vl1 e1 d1, .int .i64 u2, .string τ2, .slice vl2 e2 d2] 47)).heap[wr.heap.size]? = some (.cells #[.int .i64 t.1, .int .i64 u1, .string τ1, .slice vl1 e1 d1, .int .i64 u2, .string τ2, .slice vl2 e2 d2] 47 (0, 0)) := heap_alloc_new wr _
        have b6 := a6
        replace hq := hq.keep hB2
        have hp1 := good_any HFW.out.2.1 HFW.out.2.2.2.1 _ S _ (fun b hb => Nat.lt_of_lt_of_le (HS.out b hb) hq.below.size) (HY.out.1.move fun b hb => ⟨hb, hq.below.block b (HS.out b hb)⟩)
        clear hB2
        have d0 := obj_cell (i := 0) hY rfl
        have d1 := obj_cell (i := 1) hY rfl
        have d2 := obj_cell (i := 2) hY rfl
        have d3 := obj_cell (i := 3) hY rfl
        have d4 := obj_cell (i := 4) hY rfl
        have d5 := obj_cell (i := 5) hY rfl
        have d6 := obj_cell (i := 6) hY rfl
        replace a0 := obj_cell (i := 0) hq.bx rfl
        replace a1 := obj_cell (i := 1) hq.bx rfl
        replace a2 := obj_cell (i := 2) hq.bx rfl
        replace a3 := obj_cell (i := 3) hq.bx rfl
        replace a4 := obj_cell (i := 4) hq.bx rfl
        replace a5 := obj_cell (i := 5) hq.bx rfl
        replace a6 := obj_cell (i := 6) hq.bx rfl
        replace o1 := obj_cell (i := 0) hq.b1 rfl
        replace o2 := obj_cell (i := 0) hq.b2 rfl
        by_cases f1 : 1 ≤ t.1
        · have j1 : decide ((1 : Int) ≤ t.1) = true := decide_eq_true f1
          by_cases f3 : t.1 ≤ 3
          · have j3 : decide (t.1 ≤ (3 : Int)) = true := decide_eq_true f3
            cases ha : goodE t.2.1
            · rw [ha] at hp1
              have HV := Lib.hid (show okB t = false by unfold okB; rw [ha]; simp)
              clear ha f1 f3
              go_wp2_with fail
              refine hp1.mono ?_
              rintro e w9 ⟨rfl, hB⟩
              clear hp1
              replace hq := hq.keep hB
              clear hB
              replace a0 := obj_cell (i := 0) hq.bx rfl
              replace a1 := obj_cell (i := 1) hq.bx rfl
              replace a2 := obj_cell (i := 2) hq.bx rfl
              replace a3 := obj_cell (i := 3) hq.bx rfl
              replace a4 := obj_cell (i := 4) hq.bx rfl
              replace a5 := obj_cell (i := 5) hq.bx rfl
              replace a6 := obj_cell (i := 6) hq.bx rfl
              replace o1 := obj_cell (i := 0) hq.b1 rfl
              replace o2 := obj_cell (i := 0) hq.b2 rfl
              go_wp2_with fail
              go_roundw
              case rel => exact ⟨k + 1, by omega, by go_num, by rw [HALL.out, HV.out]; rfl, hq⟩
              case measure => simp [intOf]; omega
            · rw [ha] at hp1
              cases hb : goodE t.2.2
              · skip
                have HV := Lib.hid (show okB t = false by unfold okB; rw [ha, hb, j1, j3]; rfl)
                have hp1 := hp1
                go_wp2_with fail
                refine hp1.mono ?_
                rintro e w9 ⟨rfl, hB⟩
                clear hp1
                replace hq := hq.keep hB
                replace hY := (hB.block _ (World.block_lt_of_cell? _ _ d0)).trans hY
                clear hB
                replace a0 := obj_cell (i := 0) hq.bx rfl
                replace a1 := obj_cell (i := 1) hq.bx rfl
                replace a2 := obj_cell (i := 2) hq.bx rfl
                replace a3 := obj_cell (i := 3) hq.bx rfl
                replace a4 := obj_cell (i := 4) hq.bx rfl
                replace a5 := obj_cell (i := 5) hq.bx rfl
                replace a6 := obj_cell (i := 6) hq.bx rfl
                replace o1 := obj_cell (i := 0) hq.b1 rfl
                replace o2 := obj_cell (i := 0) hq.b2 rfl
                replace d0 := obj_cell (i := 0) hY rfl
                replace d1 := obj_cell (i := 1) hY rfl
                replace d2 := obj_cell (i := 2) hY rfl
                replace d3 := obj_cell (i := 3) hY rfl
                replace d4 := obj_cell (i := 4) hY rfl
                replace d5 := obj_cell (i := 5) hY rfl
                replace d6 := obj_cell (i := 6) hY rfl
                have hp2 := good_any HFW.out.2.2.1 HFW.out.2.2.2.2 w9 S _ (fun b hb => Nat.lt_of_lt_of_le (HS.out b hb) hq.below.size) (HY.out.2.move fun b hb => ⟨hb, hq.below.block b (HS.out b hb)⟩)
                rw [hb] at hp2
                clear ha hb f1 f3
                go_wp2_with fail
                refine hp2.mono ?_
                rintro e w9 ⟨rfl, hB⟩
                clear hp2
                replace hq := hq.keep hB
                clear hB
                replace a0 := obj_cell (i := 0) hq.bx rfl
                replace a1 := obj_cell (i := 1) hq.bx rfl
                replace a2 := obj_cell (i := 2) hq.bx rfl
                replace a3 := obj_cell (i := 3) hq.bx rfl
                replace a4 := obj_cell (i := 4) hq.bx rfl
                replace a5 := obj_cell (i := 5) hq.bx rfl
                replace a6 := obj_cell (i := 6) hq.bx rfl
                replace o1 := obj_cell (i := 0) hq.b1 rfl
                replace o2 := obj_cell (i := 0) hq.b2 rfl
                go_wp2_with fail
                go_roundw
                case rel => exact ⟨k + 1, by omega, by go_num, by rw [HALL.out, HV.out]; rfl, hq⟩
                case measure => simp [intOf]; omega
              · skip
                have HV := Lib.hid (show okB t = true by unfold okB; rw [ha, hb, j1, j3]; rfl)
                have hp1 := hp1
                go_wp2_with fail
                refine hp1.mono ?_
                rintro e w9 ⟨rfl, hB⟩
                clear hp1
                replace hq := hq.keep hB
                replace hY := (hB.block _ (World.block_lt_of_cell? _ _ d0)).trans hY
                clear hB
                replace a0 := obj_cell (i := 0) hq.bx rfl
                replace a1 := obj_cell (i := 1) hq.bx rfl
                replace a2 := obj_cell (i := 2) hq.bx rfl
                replace a3 := obj_cell (i := 3) hq.bx rfl
                replace a4 := obj_cell (i := 4) hq.bx rfl
                replace a5 := obj_cell (i := 5) hq.bx rfl
                replace a6 := obj_cell (i := 6) hq.bx rfl
                replace o1 := obj_cell (i := 0) hq.b1 rfl
                replace o2 := obj_cell (i := 0) hq.b2 rfl
                replace d0 := obj_cell (i := 0) hY rfl
                replace d1 := obj_cell (i := 1) hY rfl
                replace d2 := obj_cell (i := 2) hY rfl
                replace d3 := obj_cell (i := 3) hY rfl
                replace d4 := obj_cell (i := 4) hY rfl
                replace d5 := obj_cell (i := 5) hY rfl
                replace d6 := obj_cell (i := 6) hY rfl
                have hp2 := good_any HFW.out.2.2.1 HFW.out.2.2.2.2 w9 S _ (fun b hb => Nat.lt_of_lt_of_le (HS.out b hb) hq.below.size) (HY.out.2.move fun b hb => ⟨hb, hq.below.block b (HS.out b hb)⟩)
                rw [hb] at hp2
                clear ha hb f1 f3
                go_wp2_with fail
                refine hp2.mono ?_
                rintro e w9 ⟨rfl, hB⟩
                clear hp2
                replace hq := hq.keep hB
                clear hB
                replace a0 := obj_cell (i := 0) hq.bx rfl
                replace a1 := obj_cell (i := 1) hq.bx rfl
                replace a2 := obj_cell (i := 2) hq.bx rfl
                replace a3 := obj_cell (i := 3) hq.bx rfl
                replace a4 := obj_cell (i := 4) hq.bx rfl
                replace a5 := obj_cell (i := 5) hq.bx rfl
                replace a6 := obj_cell (i := 6) hq.bx rfl
                replace o1 := obj_cell (i := 0) hq.b1 rfl
                replace o2 := obj_cell (i := 0) hq.b2 rfl
                go_wp2_with fail
                go_roundw
                case rel => exact ⟨k + 1, by omega, by go_num, by rw [HALL.out, HV.out]; rfl, hq⟩
                case measure => simp [intOf]; omega
          · have j3 : decide (t.1 ≤ (3 : Int)) = false := decide_eq_false f3
            have HV := Lib.hid (show okB t = false by unfold okB; rw [j3]; simp)
            clear hp1 f1 f3
            go_wp2_with fail
            go_roundw
            case rel => exact ⟨k + 1, by omega, by go_num, by rw [HALL.out, HV.out]; rfl, hq⟩
            case measure => simp [intOf]; omega
        · have j1 : decide ((1 : Int) ≤ t.1) = false := decide_eq_false f1
          have HV := Lib.hid (show okB t = false by unfold okB; rw [j1]; rfl)
          clear hp1 f1
          go_wp2_with fail
          go_roundw
          case rel => exact ⟨k + 1, by omega, by go_num, by rw [HALL.out, HV.out]; rfl, hq⟩
          case measure => simp [intOf]; omega
    · obtain rfl : k = n := by omega
      have k0 : decide ((k : Int) < (k : Int)) = false := by simp
      have hnl : x.fields.take k = x.fields := List.take_of_length_le (by rw [← hnn.out]; exact Nat.le_refl _)
      rw [hnl] at *
      clear hnl
      cases hall : x.fields.all okB
      · have HBAD := Lib.hid (show goodS x = false by rw [HG0.out]; exact hall)
        have z1 : wr.frozen? ⟨W.heap.size + 1, 0, none⟩ = false := by simp [World.frozen?, hq.b1]
        have z2 : wr.frozen? ⟨W.heap.size + 1 + 1, 0, none⟩ = false := by simp [World.frozen?, hq.b2]
        clear hall
        go_wp2_with fail
        refine ⟨.tuple #[.string ⟨#[]⟩, .int .i64 1], by simp [results, Try.results17, go_sem, o1, o2], ret_arg hq HBAD.out⟩
      · have HGOOD := Lib.hid (show goodS x = true by rw [HG0.out]; exact hall)
        clear hall
        have hBb : Below wr.heap.size wr (wr.alloc (.cells #[.slice none 0 0] 74)) := (Below.refl _ _).alloc (Nat.le_refl _) _
        have hP0 : PR (wr.alloc (.cells #[.slice none 0 0] 74)) wr.heap.size [] (.slice none 0 0) := pr_start wr
        have HBB := Lib.hid hq.sz
        obtain ⟨b, hb⟩ : ∃ b, b = wr.heap.size := ⟨_, rfl⟩
        rw [← hb] at HBB hP0
        have b6 := a6
        replace hq := hq.keep hBb
        clear hBb
        have hc1 := put_any _ b [] ⟨#[112, 97, 99, 107, 97, 103, 101, 32]⟩ _ hP0 (by decide) (by decide)
        have HLN := Lib.hid (congrArg List.length (show textS x = wPack ++ (textE x.name ++ (wVers ++ (textE x.version ++ ([10] ++ x.fields.flatMap fieldL)))) from rfl))
        have HSB := Lib.hid (show ∀ k, S k → k < b from fun k hk => by have := HS.out k hk; have := HBB.out; omega)
        have HGV := Lib.hid (fun h => print_long HGOOD.out h)
        replace a0 := obj_cell (i := 0) hq.bx rfl
        replace a1 := obj_cell (i := 1) hq.bx rfl
        replace a2 := obj_cell (i := 2) hq.bx rfl
        replace a3 := obj_cell (i := 3) hq.bx rfl
        replace a4 := obj_cell (i := 4) hq.bx rfl
        replace a5 := obj_cell (i := 5) hq.bx rfl
        replace a6 := obj_cell (i := 6) hq.bx rfl
        replace o1 := obj_cell (i := 0) hq.b1 rfl
        replace o2 := obj_cell (i := 0) hq.b2 rfl
        subst hb
        go_wp2_with fail
        refine hc1.mono ?_
        rintro e w9 hx
        clear hc1
        rcases hx with ⟨hle9, rfl, ⟨v9, h9⟩, hF9⟩ | ⟨hgt, rfl, h9, hF9⟩
        rotate_left
        · exact print_gave (hq.fr hF9 HBB.out) (HGV.out (by have l1 := HLN.out; (try simp [wPack, wVers] at l1 hgt) <;> omega)) _ rfl rfl
        replace hq := hq.fr hF9 HBB.out
        clear hF9
        have hP := h9
        have hle := hle9
        clear h9 hle9
        replace a0 := obj_cell (i := 0) hq.bx rfl
        replace a1 := obj_cell (i := 1) hq.bx rfl
        replace a2 := obj_cell (i := 2) hq.bx rfl
        replace a3 := obj_cell (i := 3) hq.bx rfl
        replace a4 := obj_cell (i := 4) hq.bx rfl
        replace a5 := obj_cell (i := 5) hq.bx rfl
        replace a6 := obj_cell (i := 6) hq.bx rfl
        replace o1 := obj_cell (i := 0) hq.b1 rfl
        replace o2 := obj_cell (i := 0) hq.b2 rfl
        change PR w9 wr.heap.size ([] ++ wPack) v9 at hP
        change ([] : List UInt8).length + wPack.length ≤ 4096 at hle
        have hc2 := pexpr_any HWN.out HL.out.wn w9 S _ _ ([] ++ wPack) _ HSB.out (HRN.out.move fun b hb => ⟨hb, hq.below.block b (HS.out b hb)⟩) hP (by simpa only [List.length_append] using hle)
        go_wp2_with fail
        refine hc2.mono ?_
        rintro e w9 hx
        clear hc2
        rcases hx with ⟨hle9, rfl, ⟨v9, h9⟩, hF9⟩ | ⟨hgt, rfl, h9, hF9⟩
        rotate_left
        · exact print_gave (hq.fr hF9 HBB.out) (HGV.out (by have l1 := HLN.out; (try simp [wPack, wVers] at l1 hgt) <;> omega)) _ rfl rfl
        replace hq := hq.fr hF9 HBB.out
        clear hF9
        have hP := h9
        have hle := hle9
        clear h9 hle9
        replace a0 := obj_cell (i := 0) hq.bx rfl
        replace a1 := obj_cell (i := 1) hq.bx rfl
        replace a2 := obj_cell (i := 2) hq.bx rfl
        replace a3 := obj_cell (i := 3) hq.bx rfl
        replace a4 := obj_cell (i := 4) hq.bx rfl
        replace a5 := obj_cell (i := 5) hq.bx rfl
        replace a6 := obj_cell (i := 6) hq.bx rfl
        replace o1 := obj_cell (i := 0) hq.b1 rfl
        replace o2 := obj_cell (i := 0) hq.b2 rfl
        change PR w9 _ (([] ++ wPack) ++ textE x.name) v9 at hP
        change ([] ++ wPack).length + (textE x.name).length ≤ 4096 at hle
        have hc3 := put_any w9 _ (([] ++ wPack) ++ textE x.name) ⟨#[10, 118, 101, 114, 115, 105, 111, 110, 32]⟩ _ hP (by simpa only [List.length_append] using hle) (by decide)
        go_wp2_with fail
        refine hc3.mono ?_
        rintro e w9 hx
        clear hc3
        rcases hx with ⟨hle9, rfl, ⟨v9, h9⟩, hF9⟩ | ⟨hgt, rfl, h9, hF9⟩
        rotate_left
        · exact print_gave (hq.fr hF9 HBB.out) (HGV.out (by have l1 := HLN.out; (try simp [wPack, wVers] at l1 hgt) <;> omega)) _ rfl rfl
        replace hq := hq.fr hF9 HBB.out
        clear hF9
        have hP := h9
        have hle := hle9
        clear h9 hle9
        replace a0 := obj_cell (i := 0) hq.bx rfl
        replace a1 := obj_cell (i := 1) hq.bx rfl
        replace a2 := obj_cell (i := 2) hq.bx rfl
        replace a3 := obj_cell (i := 3) hq.bx rfl
        replace a4 := obj_cell (i := 4) hq.bx rfl
        replace a5 := obj_cell (i := 5) hq.bx rfl
        replace a6 := obj_cell (i := 6) hq.bx rfl
        replace o1 := obj_cell (i := 0) hq.b1 rfl
        replace o2 := obj_cell (i := 0) hq.b2 rfl
        change PR w9 _ ((([] ++ wPack) ++ textE x.name) ++ wVers) v9 at hP
        change (([] ++ wPack) ++ textE x.name).length + wVers.length ≤ 4096 at hle
        have hc4 := pexpr_any HWV.out HL.out.wv w9 S _ _ ((([] ++ wPack) ++ textE x.name) ++ wVers) _ HSB.out (HRV.out.move fun b hb => ⟨hb, hq.below.block b (HS.out b hb)⟩) hP (by simpa only [List.length_append] using hle)
        go_wp2_with fail
        refine hc4.mono ?_
        rintro e w9 hx
        clear hc4
        rcases hx with ⟨hle9, rfl, ⟨v9, h9⟩, hF9⟩ | ⟨hgt, rfl, h9, hF9⟩
        rotate_left
        · exact print_gave (hq.fr hF9 HBB.out) (HGV.out (by have l1 := HLN.out; (try simp [wPack, wVers] at l1 hgt) <;> omega)) _ rfl rfl
        replace hq := hq.fr hF9 HBB.out
        clear hF9
        have hP := h9
        have hle := hle9
        clear h9 hle9
        replace a0 := obj_cell (i := 0) hq.bx rfl
        replace a1 := obj_cell (i := 1) hq.bx rfl
        replace a2 := obj_cell (i := 2) hq.bx rfl
        replace a3 := obj_cell (i := 3) hq.bx rfl
        replace a4 := obj_cell (i := 4) hq.bx rfl
        replace a5 := obj_cell (i := 5) hq.bx rfl
        replace a6 := obj_cell (i := 6) hq.bx rfl
        replace o1 := obj_cell (i := 0) hq.b1 rfl
        replace o2 := obj_cell (i := 0) hq.b2 rfl
        change PR w9 _ (((([] ++ wPack) ++ textE x.name) ++ wVers) ++ textE x.version) v9 at hP
        change ((([] ++ wPack) ++ textE x.name) ++ wVers).length + (textE x.version).length ≤ 4096 at hle
        have hc5 := put_any w9 _ (((([] ++ wPack) ++ textE x.name) ++ wVers) ++ textE x.version) ⟨#[10]⟩ _ hP (by simpa only [List.length_append] using hle) (by decide)
        go_wp2_with fail
        refine hc5.mono ?_
        rintro e w9 hx
        clear hc5
        rcases hx with ⟨hle9, rfl, ⟨v9, h9⟩, hF9⟩ | ⟨hgt, rfl, h9, hF9⟩
        rotate_left
        · exact print_gave (hq.fr hF9 HBB.out) (HGV.out (by have l1 := HLN.out; (try simp [wPack, wVers] at l1 hgt) <;> omega)) _ rfl rfl
        replace hq := hq.fr hF9 HBB.out
        clear hF9
        have hP := h9
        have hle := hle9
        clear h9 hle9
        replace a0 := obj_cell (i := 0) hq.bx rfl
        replace a1 := obj_cell (i := 1) hq.bx rfl
        replace a2 := obj_cell (i := 2) hq.bx rfl
        replace a3 := obj_cell (i := 3) hq.bx rfl
        replace a4 := obj_cell (i := 4) hq.bx rfl
        replace a5 := obj_cell (i := 5) hq.bx rfl
        replace a6 := obj_cell (i := 6) hq.bx rfl
        replace o1 := obj_cell (i := 0) hq.b1 rfl
        replace o2 := obj_cell (i := 0) hq.b2 rfl
        change PR w9 _ ((((([] ++ wPack) ++ textE x.name) ++ wVers) ++ textE x.version) ++ ([10] : List UInt8)) v9 at hP
        change (((([] ++ wPack) ++ textE x.name) ++ wVers) ++ textE x.version).length + ([10] : List UInt8).length ≤ 4096 at hle
        have HPRE := Lib.hid (show ((((([] ++ wPack) ++ textE x.name) ++ wVers) ++ textE x.version) ++ ([10] : List UInt8)) = preS x by unfold preS; simp only [List.nil_append, List.append_assoc])
        rw [HPRE.out] at hP
        rw [← List.length_append, HPRE.out] at hle
        obtain ⟨wo, rfl⟩ : ∃ wo : World, wo = wr := ⟨_, rfl⟩
        go_wp2_with fail
        clear a0 a1 a2 a3 a4 a5 a6 o1 o2
        go_loopw [9, 79] (fun _ i w => ∃ (j : Nat) (v' : Value), j ≤ k ∧ i = .int .i64 j ∧ (preS x ++ (x.fields.take j).flatMap fieldL).length ≤ 4096 ∧ PR w wo.heap.size (preS x ++ (x.fields.take j).flatMap fieldL) v' ∧ QW W w #[.int .i64 k1, .string σ1, .slice sl1 n1 c1, .int .i64 k2, .string σ2, .slice sl2 n2 c2, .slice sl k c]) (fun _ i _ => k - (intOf i).toNat)
        case atStart => exact ⟨0, _, Nat.zero_le _, rfl, by simpa using hle, by simpa using hP, hq⟩
        case round =>
          obtain ⟨j, v', hj, rfl, hle', hP', hq'⟩ := hrel
          clear hle hP hq
          have hle := hle'
          have hP := hP'
          have hq := hq'
          clear hle' hP' hq'
          have HLS := Lib.hid (congrArg List.length (textS_pre x))
          by_cases hlt : j < k
          · skip
            obtain ⟨t, ht⟩ : ∃ t, x.fields[j]? = some t := ⟨x.fields[j]'(by rw [← hnn.out]; exact hlt), List.getElem?_eq_getElem _⟩
            obtain ⟨bk, o, q, rfl, hbl, hqf, hcs⟩ := HRF.out.2 j t ht
            have HFW := Lib.hid (HL.out.fd t (List.mem_of_getElem? ht))
            obtain ⟨q1, ⟨q2, q3, q4⟩, q5, q6, q7⟩ := q
            obtain ⟨y1, y2, y3⟩ := hqf
            simp only at y1 y2 y3
            obtain ⟨u1, τ1, vl1, e1, d1, hv⟩ := y2.vals
            simp only [Value.agg.injEq, Array.mk.injEq, List.cons.injEq, and_true] at hv
            obtain ⟨rfl, rfl, rfl⟩ := hv
            obtain ⟨u2, τ2, vl2, e2, d2, hv⟩ := y3.vals
            simp only [Value.agg.injEq, Array.mk.injEq, List.cons.injEq, and_true] at hv
            obtain ⟨rfl, rfl, rfl⟩ := hv
            subst y1
            have HY := Lib.hid (And.intro y2 y3)
            clear y2 y3
            have g0 := (hq.below.cell (p := ⟨bk, o + j * 7, none⟩) (HS.out bk hbl)).trans (hcs 0 _ rfl)
            have g1 := (hq.below.cell (p := ⟨bk, o + j * 7 + 1, none⟩) (HS.out bk hbl)).trans (hcs 1 _ rfl)
            have g2 := (hq.below.cell (p := ⟨bk, o + j * 7 + 2, none⟩) (HS.out bk hbl)).trans (hcs 2 _ rfl)
            have g3 := (hq.below.cell (p := ⟨bk, o + j * 7 + 3, none⟩) (HS.out bk hbl)).trans (hcs 3 _ rfl)
            have g4 := (hq.below.cell (p := ⟨bk, o + j * 7 + 4, none⟩) (HS.out bk hbl)).trans (hcs 4 _ rfl)
            have g5 := (hq.below.cell (p := ⟨bk, o + j * 7 + 5, none⟩) (HS.out bk hbl)).trans (hcs 5 _ rfl)
            have g6 := (hq.below.cell (p := ⟨bk, o + j * 7 + 6, none⟩) (HS.out bk hbl)).trans (hcs 6 _ rfl)
            clear hcs
            have HFG := Lib.hid (show goodF t from (goodS_parts HGOOD.out).2.2.2 t (List.mem_of_getElem? ht))
            obtain ⟨jj, wd, hj3, hjw, hjc, hjl, hjs⟩ := kd_word HFG.out.1
            have HTK := Lib.hid (take_fields ht)
            have HTL := Lib.hid (take_fields_le x.fields (j + 1))
            clear ht
            have hB2 : Below wr.heap.size wr ((wr.alloc (.cells #[.int .i64 t.1, .int .i64 u1, .string τ1, .slice vl1 e1 d1, .int .i64 u2, .string τ2, .slice vl2 e2 d2] 47)).alloc (.cells #[.string ⟨#[116, 111, 111, 108, 32]⟩, .string ⟨#[98, 117, 105, 108, 100, 32]⟩, .string ⟨#[114, 117, 110, 32]⟩] 9)) := ((Below.refl _ _).alloc (Nat.le_refl _) _).alloc (by simp) _
            have hY : ((wr.alloc (.cells #[.int .i64 t.1, .int .i64 u1, .string τ1, .slice vl1 e1 d1, .int .i64 u2, .string τ2, .slice vl2 e2 d2] 47)).alloc (.cells #[.string ⟨#[116, 111, 111, 108, 32]⟩, .string ⟨#[98, 117, 105, 108, 100, 32]⟩, .string ⟨#[114, 117, 110, 32]⟩] 9)).heap[wr.heap.size]? = some (.cells #[.int .i64 t.1, .int .i64 u1, .string τ1, .slice vl1 e1 d1, .int .i64 u2, .string τ2, .slice vl2 e2 d2] 47 (0, 0)) := (heap_alloc_old _ _ (by simp)).trans (heap_alloc_new wr _)
            have hZ : ((wr.alloc (.cells #[.int .i64 t.1, .int .i64 u1, .string τ1, .slice vl1 e1 d1, .int .i64 u2, .string τ2, .slice vl2 e2 d2] 47)).alloc (.cells #[.string ⟨#[116, 111, 111, 108, 32]⟩, .string ⟨#[98, 117, 105, 108, 100, 32]⟩, .string ⟨#[114, 117, 110, 32]⟩] 9)).heap[wr.heap.size + 1]? = some (.cells #[.string ⟨#[116, 111, 111, 108, 32]⟩, .string ⟨#[98, 117, 105, 108, 100, 32]⟩, .string ⟨#[114, 117, 110, 32]⟩] 9 (0, 0)) := by have := heap_alloc_new (wr.alloc (.cells #[.int .i64 t.1, .int .i64 u1, .string τ1, .slice vl1 e1 d1, .int .i64 u2, .string τ2, .slice vl2 e2 d2] 47)) (.cells #[.string ⟨#[116, 111, 111, 108, 32]⟩, .string ⟨#[98, 117, 105, 108, 100, 32]⟩, .string ⟨#[114, 117, 110, 32]⟩] 9); simpa using this
            have HYB := Lib.hid (show wr.heap.size ≠ wo.heap.size by have := hP.lt; omega)
            replace hq := hq.keep hB2
            replace hP := hP.keep hB2
            clear hB2
            have z0 := obj_cell (i := jj) hZ hjc
            clear hZ hjc
            have d0 := obj_cell (i := 0) hY rfl
            have d1 := obj_cell (i := 1) hY rfl
            have d2 := obj_cell (i := 2) hY rfl
            have d3 := obj_cell (i := 3) hY rfl
            have d4 := obj_cell (i := 4) hY rfl
            have d5 := obj_cell (i := 5) hY rfl
            have d6 := obj_cell (i := 6) hY rfl
            have a0 := obj_cell (i := 0) hq.bx rfl
            have a1 := obj_cell (i := 1) hq.bx rfl
            have a2 := obj_cell (i := 2) hq.bx rfl
            have a3 := obj_cell (i := 3) hq.bx rfl
            have a4 := obj_cell (i := 4) hq.bx rfl
            have a5 := obj_cell (i := 5) hq.bx rfl
            have a6 := obj_cell (i := 6) hq.bx rfl
            have o1 := obj_cell (i := 0) hq.b1 rfl
            have o2 := obj_cell (i := 0) hq.b2 rfl
            have hc1 := put_any _ _ _ wd _ hP hle (by omega)
            go_wp2_with fail
            refine hc1.mono ?_
            rintro e w9 hx
            clear hc1
            rcases hx with ⟨hle9, rfl, ⟨v9, h9⟩, hF9⟩ | ⟨hgt, rfl, h9, hF9⟩
            rotate_left
            · exact print_gave (hq.fr hF9 HBB.out) (HGV.out (by rw [hjl] at hgt; have l2 := congrArg List.length HTK.out; have l3 := HTL.out; have l4 := HLS.out; simp only [fieldL, List.length_append, List.length_cons, List.length_nil] at l2 l4 hgt; omega)) _ rfl rfl
            replace hq := hq.fr hF9 HBB.out
            replace hY := hF9.obj hY (by decide) HYB.out
            clear hF9
            have hP := h9
            have hle := hle9
            clear h9 hle9
            replace a0 := obj_cell (i := 0) hq.bx rfl
            replace a1 := obj_cell (i := 1) hq.bx rfl
            replace a2 := obj_cell (i := 2) hq.bx rfl
            replace a3 := obj_cell (i := 3) hq.bx rfl
            replace a4 := obj_cell (i := 4) hq.bx rfl
            replace a5 := obj_cell (i := 5) hq.bx rfl
            replace a6 := obj_cell (i := 6) hq.bx rfl
            replace o1 := obj_cell (i := 0) hq.b1 rfl
            replace o2 := obj_cell (i := 0) hq.b2 rfl
            replace d0 := obj_cell (i := 0) hY rfl
            replace d1 := obj_cell (i := 1) hY rfl
            replace d2 := obj_cell (i := 2) hY rfl
            replace d3 := obj_cell (i := 3) hY rfl
            replace d4 := obj_cell (i := 4) hY rfl
            replace d5 := obj_cell (i := 5) hY rfl
            replace d6 := obj_cell (i := 6) hY rfl
            rw [hjl] at hP hle
            clear z0 hjl hjw hj3 hjs
            have hc2 := pexpr_any HFG.out.2.1 HFW.out.2.2.2.1 w9 S _ _ ((preS x ++ (x.fields.take j).flatMap fieldL) ++ wKind t.1) _ HSB.out (HY.out.1.move fun b hb => ⟨hb, hq.below.block b (HS.out b hb)⟩) hP (by simpa only [List.length_append] using hle)
            go_wp2_with fail
            refine hc2.mono ?_
            rintro e w9 hx
            clear hc2
            rcases hx with ⟨hle9, rfl, ⟨v9, h9⟩, hF9⟩ | ⟨hgt, rfl, h9, hF9⟩
            rotate_left
            · exact print_gave (hq.fr hF9 HBB.out) (HGV.out (by have l2 := congrArg List.length HTK.out; have l3 := HTL.out; have l4 := HLS.out; simp only [fieldL, List.length_append, List.length_cons, List.length_nil] at l2 l4 hgt; omega)) _ rfl rfl
            replace hq := hq.fr hF9 HBB.out
            replace hY := hF9.obj hY (by decide) HYB.out
            clear hF9
            have hP := h9
            have hle := hle9
            clear h9 hle9
            replace a0 := obj_cell (i := 0) hq.bx rfl
            replace a1 := obj_cell (i := 1) hq.bx rfl
            replace a2 := obj_cell (i := 2) hq.bx rfl
            replace a3 := obj_cell (i := 3) hq.bx rfl
            replace a4 := obj_cell (i := 4) hq.bx rfl
            replace a5 := obj_cell (i := 5) hq.bx rfl
            replace a6 := obj_cell (i := 6) hq.bx rfl
            replace o1 := obj_cell (i := 0) hq.b1 rfl
            replace o2 := obj_cell (i := 0) hq.b2 rfl
            replace d0 := obj_cell (i := 0) hY rfl
            replace d1 := obj_cell (i := 1) hY rfl
            replace d2 := obj_cell (i := 2) hY rfl
            replace d3 := obj_cell (i := 3) hY rfl
            replace d4 := obj_cell (i := 4) hY rfl
            replace d5 := obj_cell (i := 5) hY rfl
            replace d6 := obj_cell (i := 6) hY rfl
            change PR w9 _ (((preS x ++ (x.fields.take j).flatMap fieldL) ++ wKind t.1) ++ textE t.2.1) v9 at hP
            change ((preS x ++ (x.fields.take j).flatMap fieldL) ++ wKind t.1).length + (textE t.2.1).length ≤ 4096 at hle
            have hc3 := put_any w9 _ (((preS x ++ (x.fields.take j).flatMap fieldL) ++ wKind t.1) ++ textE t.2.1) ⟨#[32]⟩ _ hP (by simpa only [List.length_append] using hle) (by decide)
            go_wp2_with fail
            refine hc3.mono ?_
            rintro e w9 hx
            clear hc3
            rcases hx with ⟨hle9, rfl, ⟨v9, h9⟩, hF9⟩ | ⟨hgt, rfl, h9, hF9⟩
            rotate_left
            · exact print_gave (hq.fr hF9 HBB.out) (HGV.out (by have l2 := congrArg List.length HTK.out; have l3 := HTL.out; have l4 := HLS.out; simp only [fieldL, List.length_append, List.length_cons, List.length_nil] at l2 l4 hgt; omega)) _ rfl rfl
            replace hq := hq.fr hF9 HBB.out
            replace hY := hF9.obj hY (by decide) HYB.out
            clear hF9
            have hP := h9
            have hle := hle9
            clear h9 hle9
            replace a0 := obj_cell (i := 0) hq.bx rfl
            replace a1 := obj_cell (i := 1) hq.bx rfl
            replace a2 := obj_cell (i := 2) hq.bx rfl
            replace a3 := obj_cell (i := 3) hq.bx rfl
            replace a4 := obj_cell (i := 4) hq.bx rfl
            replace a5 := obj_cell (i := 5) hq.bx rfl
            replace a6 := obj_cell (i := 6) hq.bx rfl
            replace o1 := obj_cell (i := 0) hq.b1 rfl
            replace o2 := obj_cell (i := 0) hq.b2 rfl
            replace d0 := obj_cell (i := 0) hY rfl
            replace d1 := obj_cell (i := 1) hY rfl
            replace d2 := obj_cell (i := 2) hY rfl
            replace d3 := obj_cell (i := 3) hY rfl
            replace d4 := obj_cell (i := 4) hY rfl
            replace d5 := obj_cell (i := 5) hY rfl
            replace d6 := obj_cell (i := 6) hY rfl
            change PR w9 _ ((((preS x ++ (x.fields.take j).flatMap fieldL) ++ wKind t.1) ++ textE t.2.1) ++ ([32] : List UInt8)) v9 at hP
            change (((preS x ++ (x.fields.take j).flatMap fieldL) ++ wKind t.1) ++ textE t.2.1).length + ([32] : List UInt8).length ≤ 4096 at hle
            have hc4 := pexpr_any HFG.out.2.2 HFW.out.2.2.2.2 w9 S _ _ ((((preS x ++ (x.fields.take j).flatMap fieldL) ++ wKind t.1) ++ textE t.2.1) ++ ([32] : List UInt8)) _ HSB.out (HY.out.2.move fun b hb => ⟨hb, hq.below.block b (HS.out b hb)⟩) hP (by simpa only [List.length_append] using hle)
            go_wp2_with fail
            refine hc4.mono ?_
            rintro e w9 hx
            clear hc4
            rcases hx with ⟨hle9, rfl, ⟨v9, h9⟩, hF9⟩ | ⟨hgt, rfl, h9, hF9⟩
            rotate_left
            · exact print_gave (hq.fr hF9 HBB.out) (HGV.out (by have l2 := congrArg List.length HTK.out; have l3 := HTL.out; have l4 := HLS.out; simp only [fieldL, List.length_append, List.length_cons, List.length_nil] at l2 l4 hgt; omega)) _ rfl rfl
            replace hq := hq.fr hF9 HBB.out
            replace hY := hF9.obj hY (by decide) HYB.out
            clear hF9
            have hP := h9
            have hle := hle9
            clear h9 hle9
            replace a0 := obj_cell (i := 0) hq.bx rfl
            replace a1 := obj_cell (i := 1) hq.bx rfl
            replace a2 := obj_cell (i := 2) hq.bx rfl
            replace a3 := obj_cell (i := 3) hq.bx rfl
            replace a4 := obj_cell (i := 4) hq.bx rfl
            replace a5 := obj_cell (i := 5) hq.bx rfl
            replace a6 := obj_cell (i := 6) hq.bx rfl
            replace o1 := obj_cell (i := 0) hq.b1 rfl
            replace o2 := obj_cell (i := 0) hq.b2 rfl
            replace d0 := obj_cell (i := 0) hY rfl
            replace d1 := obj_cell (i := 1) hY rfl
            replace d2 := obj_cell (i := 2) hY rfl
            replace d3 := obj_cell (i := 3) hY rfl
            replace d4 := obj_cell (i := 4) hY rfl
            replace d5 := obj_cell (i := 5) hY rfl
            replace d6 := obj_cell (i := 6) hY rfl
            change PR w9 _ (((((preS x ++ (x.fields.take j).flatMap fieldL) ++ wKind t.1) ++ textE t.2.1) ++ ([32] : List UInt8)) ++ textE t.2.2) v9 at hP
            change ((((preS x ++ (x.fields.take j).flatMap fieldL) ++ wKind t.1) ++ textE t.2.1) ++ ([32] : List UInt8)).length + (textE t.2.2).length ≤ 4096 at hle
            have hc5 := put_any w9 _ (((((preS x ++ (x.fields.take j).flatMap fieldL) ++ wKind t.1) ++ textE t.2.1) ++ ([32] : List UInt8)) ++ textE t.2.2) ⟨#[10]⟩ _ hP (by simpa only [List.length_append] using hle) (by decide)
            go_wp2_with fail
            refine hc5.mono ?_
            rintro e w9 hx
            clear hc5
            rcases hx with ⟨hle9, rfl, ⟨v9, h9⟩, hF9⟩ | ⟨hgt, rfl, h9, hF9⟩
            rotate_left
            · exact print_gave (hq.fr hF9 HBB.out) (HGV.out (by have l2 := congrArg List.length HTK.out; have l3 := HTL.out; have l4 := HLS.out; simp only [fieldL, List.length_append, List.length_cons, List.length_nil] at l2 l4 hgt; omega)) _ rfl rfl
            replace hq := hq.fr hF9 HBB.out
            replace hY := hF9.obj hY (by decide) HYB.out
            clear hF9
            have hP := h9
            have hle := hle9
            clear h9 hle9
            replace a0 := obj_cell (i := 0) hq.bx rfl
            replace a1 := obj_cell (i := 1) hq.bx rfl
            replace a2 := obj_cell (i := 2) hq.bx rfl
            replace a3 := obj_cell (i := 3) hq.bx rfl
            replace a4 := obj_cell (i := 4) hq.bx rfl
            replace a5 := obj_cell (i := 5) hq.bx rfl
            replace a6 := obj_cell (i := 6) hq.bx rfl
            replace o1 := obj_cell (i := 0) hq.b1 rfl
            replace o2 := obj_cell (i := 0) hq.b2 rfl
            replace d0 := obj_cell (i := 0) hY rfl
            replace d1 := obj_cell (i := 1) hY rfl
            replace d2 := obj_cell (i := 2) hY rfl
            replace d3 := obj_cell (i := 3) hY rfl
            replace d4 := obj_cell (i := 4) hY rfl
            replace d5 := obj_cell (i := 5) hY rfl
            replace d6 := obj_cell (i := 6) hY rfl
            change PR w9 _ ((((((preS x ++ (x.fields.take j).flatMap fieldL) ++ wKind t.1) ++ textE t.2.1) ++ ([32] : List UInt8)) ++ textE t.2.2) ++ ([10] : List UInt8)) v9 at hP
            change (((((preS x ++ (x.fields.take j).flatMap fieldL) ++ wKind t.1) ++ textE t.2.1) ++ ([32] : List UInt8)) ++ textE t.2.2).length + ([10] : List UInt8).length ≤ 4096 at hle
            have HPRE2 := Lib.hid (show ((((((preS x ++ (x.fields.take j).flatMap fieldL) ++ wKind t.1) ++ textE t.2.1) ++ ([32] : List UInt8)) ++ textE t.2.2) ++ ([10] : List UInt8)) = preS x ++ (x.fields.take (j + 1)).flatMap fieldL by rw [HTK.out]; unfold fieldL; simp only [List.append_assoc])
            rw [HPRE2.out] at hP
            rw [← List.length_append, HPRE2.out] at hle
            have hkw : IntKind.i64.wrap ((j : Int) + 1) = (j : Int) + 1 := IntWalk.i64_in _ (by omega)
            go_wp2_with fail
            go_roundw
            case rel => exact ⟨j + 1, _, by omega, by go_num, hle, hP, hq⟩
            case measure => simp [intOf]; omega
          · obtain rfl : j = k := by omega
            have HTF := Lib.hid (show preS x ++ (x.fields.take j).flatMap fieldL = textS x by rw [textS_pre, List.take_of_length_le (by rw [← hnn.out]; exact Nat.le_refl _)])
            rw [HTF.out] at hP hle
            have a0 := obj_cell (i := 0) hq.bx rfl
            have a1 := obj_cell (i := 1) hq.bx rfl
            have a2 := obj_cell (i := 2) hq.bx rfl
            have a3 := obj_cell (i := 3) hq.bx rfl
            have a4 := obj_cell (i := 4) hq.bx rfl
            have a5 := obj_cell (i := 5) hq.bx rfl
            have a6 := obj_cell (i := 6) hq.bx rfl
            have o1 := obj_cell (i := 0) hq.b1 rfl
            have o2 := obj_cell (i := 0) hq.b2 rfl
            have z1 : wr.frozen? ⟨W.heap.size + 1, 0, none⟩ = false := by simp [World.frozen?, hq.b1]
            have z2 : wr.frozen? ⟨W.heap.size + 1 + 1, 0, none⟩ = false := by simp [World.frozen?, hq.b2]
            have hcv := conv_any hP.own
            have pc0 := hP.c0
            have hpz := hP.fz
            have n1 : wo.heap.size ≠ W.heap.size + 1 := by have := HBB.out; omega
            go_wp2_with fail
            refine print_done (s := ⟨(textS x).toArray⟩) (by rw [print_yes HGOOD.out (by omega)]) ((hq.below.setCell (p := ⟨W.heap.size + 1, 0, none⟩) (Nat.le_succ _) _).setCell (p := ⟨W.heap.size + 1 + 1, 0, none⟩) (by show W.heap.size ≤ W.heap.size + 1 + 1; omega) _) ?_ ?_ _ rfl rfl
            · exact cell_far (by show W.heap.size + 1 ≠ W.heap.size + 1 + 1; omega) (World.cell?_setCell_same _ _ _ o1)
            · exact World.cell?_setCell_same _ _ _ (cell_far (by show W.heap.size + 1 + 1 ≠ W.heap.size + 1; omega) o2)
end Rc
end Go.Proofs.Ytcigggffaofkhaa
