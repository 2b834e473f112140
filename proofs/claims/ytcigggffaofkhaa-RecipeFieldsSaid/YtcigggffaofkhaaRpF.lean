/-
  Walk: the printer's expr. (printed by gen_RpF.py)
-/
import Derived.Test.YtcigggffaofkhaaRpE
import Derived.Test.YtcigggffaofkhaaRcX
import Derived.Test.YtcigggffaofkhaaRpS
namespace Go.Proofs.Ytcigggffaofkhaa
open Go.RowKit
namespace Rc

theorem kid_lt {k : Int} {s : ByteArray} {ks : List E} {x : E} {i : Nat} (h : ks[i]? = some x) : SizeOf.sizeOf x < SizeOf.sizeOf (E.mk k s ks) := by
  have := List.sizeOf_lt_of_mem (List.mem_of_getElem? h)
  simp only [E.mk.sizeOf_spec]
  omega
theorem Fr.obj {W W' : World} {b g : Nat} {c : Array Value} {T : TypeId} (h : Fr W W' b) (hg : W.heap[g]? = some (.cells c T (0, 0))) (hT : T ≠ 5) (hb : g ≠ b) : W'.heap[g]? = some (.cells c T (0, 0)) := by
  have hlt : g < W.heap.size := by
    obtain ⟨h, -⟩ := Array.getElem?_eq_some_iff.1 hg
    exact h
  exact (h.block g hlt hb (fun cur e => by rw [hg] at e; simp only [Option.some.injEq, Obj.cells.injEq] at e; exact hT e.2.1)).trans hg
theorem obj_cell {W : World} {g i : Nat} {c : Array Value} {T : TypeId} {v : Value} (h : W.heap[g]? = some (.cells c T (0, 0))) (hv : c[i]? = some v) : W.cell? ⟨g, i, none⟩ = some v := by simp [World.cell?, h, hv]
theorem Fr.old {W W' : World} {b k o : Nat} {v : Value} (h : Fr W W' b) (hk : k < b) (hc : W.cell? ⟨k, o, none⟩ = some v) : W'.cell? ⟨k, o, none⟩ = some v := (h.below.cell (p := ⟨k, o, none⟩) hk).trans hc
def txS (sum : Bool) (x : E) : List UInt8 := if sum = true then brL x.kind (textE x) else textE x
theorem part_1 {s : List UInt8} {n : Nat} (h : partOk 1 s n = true) : n = 0 := by simpa [partOk] using h
theorem part_2 {s : List UInt8} {n : Nat} (h : partOk 2 s n = true) : n = 0 ∧ nameL s = true := by simpa [partOk] using h
theorem part_3 {s : List UInt8} {n : Nat} (h : partOk 3 s n = true) : 2 ≤ n ∧ s.isEmpty = true := by simpa [partOk] using h
theorem part_4 {s : List UInt8} {n : Nat} (h : partOk 4 s n = true) : n = 4 ∧ s.isEmpty = true := by simpa [partOk] using h
theorem part_5 {s : List UInt8} {n : Nat} (h : partOk 5 s n = true) : n = 2 ∧ nameL s = true := by simpa [partOk] using h
/-- an if's words -/
abbrev ifW : List (List UInt8) := [wIf, wEq, wThen, wElse]
def sofar (ts : List (List UInt8)) (k : Nat) : List UInt8 := ((ifW.zip ts).take k).flatMap fun p => p.1 ++ p.2
theorem sofar_succ {ts : List (List UInt8)} {k : Nat} {w t : List UInt8} (hw : ifW[k]? = some w) (ht : ts[k]? = some t) : sofar ts (k + 1) = sofar ts k ++ (w ++ t) := by
  unfold sofar
  have hz : (ifW.zip ts)[k]? = some (w, t) := by simp [List.getElem?_zip_eq_some, hw, ht]
  obtain ⟨hk, e⟩ := List.getElem?_eq_some_iff.1 hz
  rw [List.take_succ_eq_append_getElem hk, e, List.flatMap_append]
  simp
theorem sofar_le {ts : List (List UInt8)} (k : Nat) : (sofar ts k).length ≤ (sofar ts 4).length := by
  unfold sofar
  have h4 : (ifW.zip ts).take 4 = ifW.zip ts := List.take_of_length_le (by rw [List.length_zip]; simp; omega)
  rw [h4]
  conv => rhs; rw [← List.take_append_drop k (ifW.zip ts)]
  rw [List.flatMap_append, List.length_append]
  omega
theorem text_if {s : ByteArray} {ks : List E} (h : ks.length = 4) : textE (.mk 4 s ks) = sofar (ks.map textE) 4 := by
  match ks, h with
  | [a, b, c, d], _ =>
    rw [textE, if_neg (by decide), if_neg (by decide), if_neg (by decide), if_pos rfl, texts_map]
    simp [sofar]
theorem if_word : ∀ k, k < 4 → ∃ wd : ByteArray, (#[.string ⟨#[105, 102, 32]⟩, .string ⟨#[32, 61, 32]⟩, .string ⟨#[32, 116, 104, 101, 110, 32]⟩, .string ⟨#[32, 101, 108, 115, 101, 32]⟩] : Array Value)[k]? = some (.string wd) ∧ ifW[k]? = some wd.data.toList ∧ wd.size ≤ 6
  | 0, _ => ⟨⟨#[105, 102, 32]⟩, rfl, rfl, by decide⟩
  | 1, _ => ⟨⟨#[32, 61, 32]⟩, rfl, rfl, by decide⟩
  | 2, _ => ⟨⟨#[32, 116, 104, 101, 110, 32]⟩, rfl, rfl, by decide⟩
  | 3, _ => ⟨⟨#[32, 101, 108, 115, 101, 32]⟩, rfl, rfl, by decide⟩
  | k + 4, h => by omega
/-- a sum's texts up to a kid -/
def sumT (ts : List (List UInt8)) (k : Nat) : List UInt8 := joinP (ts.take k)
theorem sumT_succ {ts : List (List UInt8)} {k : Nat} {t : List UInt8} (ht : ts[k]? = some t) : sumT ts (k + 1) = sumT ts k ++ ((if k = 0 then [] else [32, 43, 32]) ++ t) := by
  obtain ⟨hk, e⟩ := List.getElem?_eq_some_iff.1 ht
  unfold sumT
  rw [List.take_succ_eq_append_getElem hk, e]
  cases k with
  | zero => simp [joinP]
  | succ k =>
    cases ts with
    | nil => simp at hk
    | cons a l =>
      rw [List.take_succ_cons, List.cons_append, join_tail, join_tail, if_neg (by omega)]
      simp [tailJ, List.flatMap_append]
theorem sumT_le {ts : List (List UInt8)} (k : Nat) : (sumT ts k).length ≤ (joinP ts).length := by
  unfold sumT
  cases ts with
  | nil => simp
  | cons a l =>
    cases k with
    | zero => simp [joinP]
    | succ k =>
      rw [List.take_succ_cons, join_tail, join_tail, List.length_append, List.length_append]
      have : (tailJ (l.take k)).length ≤ (tailJ l).length := by
        conv => rhs; rw [← List.take_append_drop k l]
        unfold tailJ
        rw [List.flatMap_append, List.length_append]
        omega
      omega
/-- the printer's expr, for expressions of less than that size -/
def ExprW (h : Nat) : Prop := ∀ x : E, SizeOf.sizeOf x < h → Wf x → sizeW x ≤ 20000 → ∀ (W : World) (S : Nat → Prop) (v : Value) (b : Nat) (out : List UInt8) (vo : Value) (sum : Bool), (∀ k, S k → k < b) → RepX W S x v → PR W b out vo → out.length ≤ 4096 →
  Calls Try.prog 40 #[.pointer (some ⟨b, 0, none⟩), v, .bool sum] W fun e W' => PP W b out (txS sum x) e W'
set_option maxHeartbeats 4000000 in
set_option maxRecDepth 100000 in
theorem expr_1f (h : Nat) (_ih : ExprW h) (s : ByteArray) (ks : List E) (hx : SizeOf.sizeOf (E.mk 1 s ks) < h + 1) (hw : Wf (.mk 1 s ks)) (hs : sizeW (.mk 1 s ks) ≤ 20000) (W : World) (S : Nat → Prop) (v : Value) (b : Nat) (out : List UInt8) (vo : Value) (hS : ∀ k, S k → k < b) (hr : RepX W S (.mk 1 s ks) v) (hP : PR W b out vo) (hl : out.length ≤ 4096) :
    Calls Try.prog 40 #[.pointer (some ⟨b, 0, none⟩), v, .bool false] W fun e W' => PP W b out (txS false (.mk 1 s ks)) e W' := by
  obtain ⟨hpo, hwk⟩ := wf_mk hw
  replace hpo := part_1 hpo
  rw [sizeW] at hs
  cases hr with
  | mk _ _ _ sl cap x1 y1 z1 hcap hc hrk =>
    have hA : Below W.heap.size W (W.alloc (.cells #[.int .i64 1, .string s, .slice sl ks.length cap] 26)) := (Below.refl _ _).alloc (Nat.le_refl _) _
    have hX : (W.alloc (.cells #[.int .i64 1, .string s, .slice sl ks.length cap] 26)).heap[W.heap.size]? = some (.cells #[.int .i64 1, .string s, .slice sl ks.length cap] 26 (0, 0)) := heap_alloc_new W _
    have HXB := Lib.hid (show W.heap.size ≠ b by have := hP.lt; omega)
    have hF : Fr W (W.alloc (.cells #[.int .i64 1, .string s, .slice sl ks.length cap] 26)) b := Fr.of_below hA (Nat.le_of_lt hP.lt)
    replace hP := hP.keep hA
    have c0 := obj_cell (i := 0) hX rfl
    have c1 := obj_cell (i := 1) hX rfl
    have c2 := obj_cell (i := 2) hX rfl
    have hle := hl
    have HC := Lib.hid hc
    have HR := Lib.hid hrk
    have HS := Lib.hid hS
    have HW := Lib.hid hwk
    have HX := Lib.hid hx
    have HZ := Lib.hid hs
    have HSZ := Lib.hid (Lib.size_eq s)
    have HO := Lib.hid hpo
    clear hc hrk hS hwk hx hs hpo hw hcap hA
    have hsz : s.size ≤ 20000 := by have := HZ.out; omega
    have hkl : ks.length ≤ 20000 := by have := HZ.out; have := sizeWs_len ks; omega
    have HT := Lib.hid (show txS false (.mk 1 s ks) = quoteL s.data.toList from by
      have ht : textE (.mk 1 s ks) = quoteL s.data.toList := by rw [textE, if_pos rfl]
      show textE _ = _
      rw [ht])
    generalize txS false (.mk 1 s ks) = L at *
    have HLN := Lib.hid (congrArg List.length HT.out)
    have hc1 := quote_any _ b out s vo hP hle (by omega)
    go_enter Try.func40, Try.ntmps40
    go_wp2_with fail
    refine hc1.mono ?_
    rintro e w9 hx
    clear hc1
    rcases hx with ⟨hle9, rfl, ⟨v9, h9⟩, hF9⟩ | ⟨hgt, rfl, h9, hF9⟩
    rotate_left
    · exact ⟨rfl, .inr ⟨by have := HLN.out; (try simp at this hgt) <;> omega, rfl, h9, hF.trans hF9⟩⟩
    clear hP hle
    replace hX := hF9.obj hX (by decide) HXB.out
    replace hF := hF.trans hF9
    clear hF9
    replace hP := h9
    have hle := hle9
    clear h9 hle9
    have c0 := obj_cell (i := 0) hX rfl
    have c1 := obj_cell (i := 1) hX rfl
    have c2 := obj_cell (i := 2) hX rfl
    rw [← HT.out] at hP hle
    go_wp2_with fail
    go_end0
    exact .inl ⟨hle, rfl, ⟨_, hP⟩, hF⟩
set_option maxHeartbeats 4000000 in
set_option maxRecDepth 100000 in
theorem expr_1t (h : Nat) (_ih : ExprW h) (s : ByteArray) (ks : List E) (hx : SizeOf.sizeOf (E.mk 1 s ks) < h + 1) (hw : Wf (.mk 1 s ks)) (hs : sizeW (.mk 1 s ks) ≤ 20000) (W : World) (S : Nat → Prop) (v : Value) (b : Nat) (out : List UInt8) (vo : Value) (hS : ∀ k, S k → k < b) (hr : RepX W S (.mk 1 s ks) v) (hP : PR W b out vo) (hl : out.length ≤ 4096) :
    Calls Try.prog 40 #[.pointer (some ⟨b, 0, none⟩), v, .bool true] W fun e W' => PP W b out (txS true (.mk 1 s ks)) e W' := by
  obtain ⟨hpo, hwk⟩ := wf_mk hw
  replace hpo := part_1 hpo
  rw [sizeW] at hs
  cases hr with
  | mk _ _ _ sl cap x1 y1 z1 hcap hc hrk =>
    have hA : Below W.heap.size W (W.alloc (.cells #[.int .i64 1, .string s, .slice sl ks.length cap] 26)) := (Below.refl _ _).alloc (Nat.le_refl _) _
    have hX : (W.alloc (.cells #[.int .i64 1, .string s, .slice sl ks.length cap] 26)).heap[W.heap.size]? = some (.cells #[.int .i64 1, .string s, .slice sl ks.length cap] 26 (0, 0)) := heap_alloc_new W _
    have HXB := Lib.hid (show W.heap.size ≠ b by have := hP.lt; omega)
    have hF : Fr W (W.alloc (.cells #[.int .i64 1, .string s, .slice sl ks.length cap] 26)) b := Fr.of_below hA (Nat.le_of_lt hP.lt)
    replace hP := hP.keep hA
    have c0 := obj_cell (i := 0) hX rfl
    have c1 := obj_cell (i := 1) hX rfl
    have c2 := obj_cell (i := 2) hX rfl
    have hle := hl
    have HC := Lib.hid hc
    have HR := Lib.hid hrk
    have HS := Lib.hid hS
    have HW := Lib.hid hwk
    have HX := Lib.hid hx
    have HZ := Lib.hid hs
    have HSZ := Lib.hid (Lib.size_eq s)
    have HO := Lib.hid hpo
    clear hc hrk hS hwk hx hs hpo hw hcap hA
    have hsz : s.size ≤ 20000 := by have := HZ.out; omega
    have hkl : ks.length ≤ 20000 := by have := HZ.out; have := sizeWs_len ks; omega
    have HT := Lib.hid (show txS true (.mk 1 s ks) = quoteL s.data.toList from by
      have ht : textE (.mk 1 s ks) = quoteL s.data.toList := by rw [textE, if_pos rfl]
      show brL 1 _ = _
      rw [ht]
      rfl)
    generalize txS true (.mk 1 s ks) = L at *
    have HLN := Lib.hid (congrArg List.length HT.out)
    have hc1 := quote_any _ b out s vo hP hle (by omega)
    go_enter Try.func40, Try.ntmps40
    go_wp2_with fail
    refine hc1.mono ?_
    rintro e w9 hx
    clear hc1
    rcases hx with ⟨hle9, rfl, ⟨v9, h9⟩, hF9⟩ | ⟨hgt, rfl, h9, hF9⟩
    rotate_left
    · exact ⟨rfl, .inr ⟨by have := HLN.out; (try simp at this hgt) <;> omega, rfl, h9, hF.trans hF9⟩⟩
    clear hP hle
    replace hX := hF9.obj hX (by decide) HXB.out
    replace hF := hF.trans hF9
    clear hF9
    replace hP := h9
    have hle := hle9
    clear h9 hle9
    have c0 := obj_cell (i := 0) hX rfl
    have c1 := obj_cell (i := 1) hX rfl
    have c2 := obj_cell (i := 2) hX rfl
    rw [← HT.out] at hP hle
    go_wp2_with fail
    go_end0
    exact .inl ⟨hle, rfl, ⟨_, hP⟩, hF⟩
set_option maxHeartbeats 4000000 in
set_option maxRecDepth 100000 in
theorem expr_2f (h : Nat) (_ih : ExprW h) (s : ByteArray) (ks : List E) (hx : SizeOf.sizeOf (E.mk 2 s ks) < h + 1) (hw : Wf (.mk 2 s ks)) (hs : sizeW (.mk 2 s ks) ≤ 20000) (W : World) (S : Nat → Prop) (v : Value) (b : Nat) (out : List UInt8) (vo : Value) (hS : ∀ k, S k → k < b) (hr : RepX W S (.mk 2 s ks) v) (hP : PR W b out vo) (hl : out.length ≤ 4096) :
    Calls Try.prog 40 #[.pointer (some ⟨b, 0, none⟩), v, .bool false] W fun e W' => PP W b out (txS false (.mk 2 s ks)) e W' := by
  obtain ⟨hpo, hwk⟩ := wf_mk hw
  replace hpo := part_2 hpo
  rw [sizeW] at hs
  cases hr with
  | mk _ _ _ sl cap x1 y1 z1 hcap hc hrk =>
    have hA : Below W.heap.size W (W.alloc (.cells #[.int .i64 2, .string s, .slice sl ks.length cap] 26)) := (Below.refl _ _).alloc (Nat.le_refl _) _
    have hX : (W.alloc (.cells #[.int .i64 2, .string s, .slice sl ks.length cap] 26)).heap[W.heap.size]? = some (.cells #[.int .i64 2, .string s, .slice sl ks.length cap] 26 (0, 0)) := heap_alloc_new W _
    have HXB := Lib.hid (show W.heap.size ≠ b by have := hP.lt; omega)
    have hF : Fr W (W.alloc (.cells #[.int .i64 2, .string s, .slice sl ks.length cap] 26)) b := Fr.of_below hA (Nat.le_of_lt hP.lt)
    replace hP := hP.keep hA
    have c0 := obj_cell (i := 0) hX rfl
    have c1 := obj_cell (i := 1) hX rfl
    have c2 := obj_cell (i := 2) hX rfl
    have hle := hl
    have HC := Lib.hid hc
    have HR := Lib.hid hrk
    have HS := Lib.hid hS
    have HW := Lib.hid hwk
    have HX := Lib.hid hx
    have HZ := Lib.hid hs
    have HSZ := Lib.hid (Lib.size_eq s)
    have HO := Lib.hid hpo
    clear hc hrk hS hwk hx hs hpo hw hcap hA
    have hsz : s.size ≤ 20000 := by have := HZ.out; omega
    have hkl : ks.length ≤ 20000 := by have := HZ.out; have := sizeWs_len ks; omega
    have HT := Lib.hid (show txS false (.mk 2 s ks) = s.data.toList from by
      have ht : textE (.mk 2 s ks) = s.data.toList := by rw [textE, if_neg (by decide), if_pos rfl]
      show textE _ = _
      rw [ht])
    generalize txS false (.mk 2 s ks) = L at *
    have HLN := Lib.hid (congrArg List.length HT.out)
    have hc1 := put_any _ b out s vo hP hle (by omega)
    go_enter Try.func40, Try.ntmps40
    go_wp2_with fail
    refine hc1.mono ?_
    rintro e w9 hx
    clear hc1
    rcases hx with ⟨hle9, rfl, ⟨v9, h9⟩, hF9⟩ | ⟨hgt, rfl, h9, hF9⟩
    rotate_left
    · exact ⟨rfl, .inr ⟨by have := HLN.out; (try simp at this hgt) <;> omega, rfl, h9, hF.trans hF9⟩⟩
    clear hP hle
    replace hX := hF9.obj hX (by decide) HXB.out
    replace hF := hF.trans hF9
    clear hF9
    replace hP := h9
    have hle := hle9
    clear h9 hle9
    have c0 := obj_cell (i := 0) hX rfl
    have c1 := obj_cell (i := 1) hX rfl
    have c2 := obj_cell (i := 2) hX rfl
    rw [← HT.out] at hP hle
    go_wp2_with fail
    go_end0
    exact .inl ⟨hle, rfl, ⟨_, hP⟩, hF⟩
set_option maxHeartbeats 4000000 in
set_option maxRecDepth 100000 in
theorem expr_2t (h : Nat) (_ih : ExprW h) (s : ByteArray) (ks : List E) (hx : SizeOf.sizeOf (E.mk 2 s ks) < h + 1) (hw : Wf (.mk 2 s ks)) (hs : sizeW (.mk 2 s ks) ≤ 20000) (W : World) (S : Nat → Prop) (v : Value) (b : Nat) (out : List UInt8) (vo : Value) (hS : ∀ k, S k → k < b) (hr : RepX W S (.mk 2 s ks) v) (hP : PR W b out vo) (hl : out.length ≤ 4096) :
    Calls Try.prog 40 #[.pointer (some ⟨b, 0, none⟩), v, .bool true] W fun e W' => PP W b out (txS true (.mk 2 s ks)) e W' := by
  obtain ⟨hpo, hwk⟩ := wf_mk hw
  replace hpo := part_2 hpo
  rw [sizeW] at hs
  cases hr with
  | mk _ _ _ sl cap x1 y1 z1 hcap hc hrk =>
    have hA : Below W.heap.size W (W.alloc (.cells #[.int .i64 2, .string s, .slice sl ks.length cap] 26)) := (Below.refl _ _).alloc (Nat.le_refl _) _
    have hX : (W.alloc (.cells #[.int .i64 2, .string s, .slice sl ks.length cap] 26)).heap[W.heap.size]? = some (.cells #[.int .i64 2, .string s, .slice sl ks.length cap] 26 (0, 0)) := heap_alloc_new W _
    have HXB := Lib.hid (show W.heap.size ≠ b by have := hP.lt; omega)
    have hF : Fr W (W.alloc (.cells #[.int .i64 2, .string s, .slice sl ks.length cap] 26)) b := Fr.of_below hA (Nat.le_of_lt hP.lt)
    replace hP := hP.keep hA
    have c0 := obj_cell (i := 0) hX rfl
    have c1 := obj_cell (i := 1) hX rfl
    have c2 := obj_cell (i := 2) hX rfl
    have hle := hl
    have HC := Lib.hid hc
    have HR := Lib.hid hrk
    have HS := Lib.hid hS
    have HW := Lib.hid hwk
    have HX := Lib.hid hx
    have HZ := Lib.hid hs
    have HSZ := Lib.hid (Lib.size_eq s)
    have HO := Lib.hid hpo
    clear hc hrk hS hwk hx hs hpo hw hcap hA
    have hsz : s.size ≤ 20000 := by have := HZ.out; omega
    have hkl : ks.length ≤ 20000 := by have := HZ.out; have := sizeWs_len ks; omega
    have HT := Lib.hid (show txS true (.mk 2 s ks) = s.data.toList from by
      have ht : textE (.mk 2 s ks) = s.data.toList := by rw [textE, if_neg (by decide), if_pos rfl]
      show brL 2 _ = _
      rw [ht]
      rfl)
    generalize txS true (.mk 2 s ks) = L at *
    have HLN := Lib.hid (congrArg List.length HT.out)
    have hc1 := put_any _ b out s vo hP hle (by omega)
    go_enter Try.func40, Try.ntmps40
    go_wp2_with fail
    refine hc1.mono ?_
    rintro e w9 hx
    clear hc1
    rcases hx with ⟨hle9, rfl, ⟨v9, h9⟩, hF9⟩ | ⟨hgt, rfl, h9, hF9⟩
    rotate_left
    · exact ⟨rfl, .inr ⟨by have := HLN.out; (try simp at this hgt) <;> omega, rfl, h9, hF.trans hF9⟩⟩
    clear hP hle
    replace hX := hF9.obj hX (by decide) HXB.out
    replace hF := hF.trans hF9
    clear hF9
    replace hP := h9
    have hle := hle9
    clear h9 hle9
    have c0 := obj_cell (i := 0) hX rfl
    have c1 := obj_cell (i := 1) hX rfl
    have c2 := obj_cell (i := 2) hX rfl
    rw [← HT.out] at hP hle
    go_wp2_with fail
    go_end0
    exact .inl ⟨hle, rfl, ⟨_, hP⟩, hF⟩
set_option maxHeartbeats 4000000 in
set_option maxRecDepth 100000 in
theorem expr_3f (h : Nat) (ih : ExprW h) (s : ByteArray) (ks : List E) (hx : SizeOf.sizeOf (E.mk 3 s ks) < h + 1) (hw : Wf (.mk 3 s ks)) (hs : sizeW (.mk 3 s ks) ≤ 20000) (W : World) (S : Nat → Prop) (v : Value) (b : Nat) (out : List UInt8) (vo : Value) (hS : ∀ k, S k → k < b) (hr : RepX W S (.mk 3 s ks) v) (hP : PR W b out vo) (hl : out.length ≤ 4096) :
    Calls Try.prog 40 #[.pointer (some ⟨b, 0, none⟩), v, .bool false] W fun e W' => PP W b out (txS false (.mk 3 s ks)) e W' := by
  obtain ⟨hpo, hwk⟩ := wf_mk hw
  replace hpo := part_3 hpo
  rw [sizeW] at hs
  cases hr with
  | mk _ _ _ sl cap x1 y1 z1 hcap hc hrk =>
    have hA : Below W.heap.size W (W.alloc (.cells #[.int .i64 3, .string s, .slice sl ks.length cap] 26)) := (Below.refl _ _).alloc (Nat.le_refl _) _
    have hX : (W.alloc (.cells #[.int .i64 3, .string s, .slice sl ks.length cap] 26)).heap[W.heap.size]? = some (.cells #[.int .i64 3, .string s, .slice sl ks.length cap] 26 (0, 0)) := heap_alloc_new W _
    have HXB := Lib.hid (show W.heap.size ≠ b by have := hP.lt; omega)
    have hF : Fr W (W.alloc (.cells #[.int .i64 3, .string s, .slice sl ks.length cap] 26)) b := Fr.of_below hA (Nat.le_of_lt hP.lt)
    replace hP := hP.keep hA
    have c0 := obj_cell (i := 0) hX rfl
    have c1 := obj_cell (i := 1) hX rfl
    have c2 := obj_cell (i := 2) hX rfl
    have hle := hl
    have HC := Lib.hid hc
    have HR := Lib.hid hrk
    have HS := Lib.hid hS
    have HW := Lib.hid hwk
    have HX := Lib.hid hx
    have HZ := Lib.hid hs
    have HSZ := Lib.hid (Lib.size_eq s)
    have HO := Lib.hid hpo
    clear hc hrk hS hwk hx hs hpo hw hcap hA
    have hsz : s.size ≤ 20000 := by have := HZ.out; omega
    have hkl : ks.length ≤ 20000 := by have := HZ.out; have := sizeWs_len ks; omega
    have HT := Lib.hid (show txS false (.mk 3 s ks) = joinP (bts ks) from by
      have ht : textE (.mk 3 s ks) = joinP (bts ks) := by rw [textE, if_neg (by decide), if_neg (by decide), if_pos rfl]
      show textE _ = _
      rw [ht])
    generalize txS false (.mk 3 s ks) = L at *
    have HLN := Lib.hid (congrArg List.length HT.out)
    go_enter Try.func40, Try.ntmps40
    go_wp2_with fail
    have HB := Lib.hid (bts_map ks)
    go_loopw [7, 8, 39] (fun _ _ i wr => ∃ (k : Nat) (v' : Value), k ≤ ks.length ∧ i = .int .i64 k ∧ (out ++ sumT (bts ks) k).length ≤ 4096 ∧ PR wr b (out ++ sumT (bts ks) k) v' ∧ Fr W wr b ∧ wr.heap[W.heap.size]? = some (.cells #[.int .i64 3, .string s, .slice sl ks.length cap] 26 (0, 0))) (fun _ _ i _ => ks.length - (intOf i).toNat)
    case atStart => exact ⟨0, _, Nat.zero_le _, rfl, by simpa [sumT, joinP] using hle, by simpa [sumT, joinP] using hP, hF, hX⟩
    case round =>
      obtain ⟨k, v', hk, rfl, hle', hP', hF', hX'⟩ := hrel
      clear hle hP hF hX c0 c1 c2
      have hle := hle'
      have hP := hP'
      have hF := hF'
      have hX := hX'
      clear hle' hP' hF' hX'
      have c0 := obj_cell (i := 0) hX rfl
      have c1 := obj_cell (i := 1) hX rfl
      have c2 := obj_cell (i := 2) hX rfl
      by_cases hlt : k < ks.length
      · skip
        obtain ⟨u, hu⟩ : ∃ u, ks[k]? = some u := ⟨ks[k], List.getElem?_eq_getElem hlt⟩
        obtain ⟨bk, o, rfl, hbl, h1, h2, h3⟩ := HC.out k u hu
        have hkr := HR.out k u hu
        obtain ⟨kk, sk, slk, nk, ck, ev⟩ := hkr.vals
        rw [ev] at hkr
        obtain ⟨ev1, ev2, ev3⟩ : x1 k = .int .i64 kk ∧ y1 k = .string sk ∧ z1 k = .slice slk nk ck := by simpa using ev
        rw [ev1] at h1
        rw [ev2] at h2
        rw [ev3] at h3
        clear ev ev1 ev2 ev3
        have g1 := hF.old (HS.out bk hbl) h1
        have g2 := hF.old (HS.out bk hbl) h2
        have g3 := hF.old (HS.out bk hbl) h3
        have hbt : (bts ks)[k]? = some (brL u.kind (textE u)) := by rw [HB.out, List.getElem?_map, hu]; rfl
        have HSU := Lib.hid (sumT_succ hbt)
        have HSL := Lib.hid (sumT_le (ts := bts ks) (k + 1))
        have hkid := ih u (by have := kid_lt (k := 3) (s := s) hu; have := HX.out; omega) (HW.out u (List.mem_of_getElem? hu)) (by have := HZ.out; have := sizeWs_kid (List.mem_of_getElem? hu); omega)
        have HKR := Lib.hid hkr
        have hA2 : Below wr.heap.size wr (wr.alloc (.cells #[.int .i64 kk, .string sk, .slice slk nk ck] 26)) := (Below.refl _ _).alloc (Nat.le_refl _) _
        have hY : (wr.alloc (.cells #[.int .i64 kk, .string sk, .slice slk nk ck] 26)).heap[wr.heap.size]? = some (.cells #[.int .i64 kk, .string sk, .slice slk nk ck] 26 (0, 0)) := heap_alloc_new wr _
        have HYB := Lib.hid (show wr.heap.size ≠ b by have := hP.lt; omega)
        replace hF := hF.trans (Fr.of_below hA2 (Nat.le_of_lt hP.lt))
        have HSZ2 := Lib.hid (World.block_lt_of_cell? wr _ c0)
        replace hX := (hA2.block W.heap.size HSZ2.out).trans hX
        replace hP := hP.keep hA2
        clear h1 h2 h3 hu hbt hA2 hkr
        replace c0 := obj_cell (i := 0) hX rfl
        replace c1 := obj_cell (i := 1) hX rfl
        replace c2 := obj_cell (i := 2) hX rfl
        have d0 := obj_cell (i := 0) hY rfl
        have d1 := obj_cell (i := 1) hY rfl
        have d2 := obj_cell (i := 2) hY rfl
        by_cases hk0 : k = 0
        · skip
          subst hk0
          simp only [Nat.zero_mul, Nat.add_zero] at g1 g2 g3
          have hk3 := hkid _ S (.agg #[.int .i64 kk, .string sk, .slice slk nk ck]) b (out ++ sumT (bts ks) 0) v' true HS.out (HKR.out.same fun k o hk => (hF.below.cell (p := ⟨k, o, none⟩) (HS.out k hk))) hP (by simpa only [List.length_append] using hle)
          clear hkid
          go_wp2_with fail
          refine hk3.mono ?_
          rintro e w9 hx
          clear hk3
          rcases hx with ⟨hle9, rfl, ⟨v9, h9⟩, hF9⟩ | ⟨hgt, rfl, h9, hF9⟩
          rotate_left
          · exact ⟨rfl, .inr ⟨by have l1 := HLN.out; have h5 := congrArg List.length HSU.out; have l2 := HSL.out; rw [if_pos trivial] at h5; (try simp [txS] at h5 hgt l1 l2) <;> omega, rfl, h9, hF.trans hF9⟩⟩
          replace hX := hF9.obj hX (by decide) HXB.out
          have hEE : (out ++ sumT (bts ks) 0) ++ txS true u = out ++ sumT (bts ks) (0 + 1) := by rw [HSU.out, if_pos trivial]; simp only [txS, if_true, List.nil_append, List.append_assoc]
          rw [← List.length_append, hEE] at hle9
          rw [hEE] at h9
          have HEE := Lib.hid hEE
          clear hEE hle
          go_wp2_with fail
          go_roundw
          case rel => exact ⟨0 + 1, v9, by omega, by go_num, hle9, h9, hF.trans hF9, hX⟩
          case measure => simp [intOf]; omega
        · skip
          have hk2 : decide ((0 : Int) < (k : Int)) = true := by simp; omega
          have hb4 := put_any _ b (out ++ sumT (bts ks) k) ⟨#[32, 43, 32]⟩ v' hP hle (by decide)
          go_wp2_with fail
          refine hb4.mono ?_
          rintro e w9 hx
          clear hb4
          rcases hx with ⟨hle9, rfl, ⟨v9, h9⟩, hF9⟩ | ⟨hgt, rfl, h9, hF9⟩
          rotate_left
          · exact ⟨rfl, .inr ⟨by have l1 := HLN.out; have h5 := congrArg List.length HSU.out; have l2 := HSL.out; rw [if_neg hk0] at h5; (try simp at h5 hgt l1 l2) <;> omega, rfl, h9, hF.trans hF9⟩⟩
          clear hP hle
          replace hX := hF9.obj hX (by decide) HXB.out
          replace hY := hF9.obj hY (by decide) HYB.out
          replace hF := hF.trans hF9
          clear hF9
          have hP := h9
          have hle := hle9
          clear h9 hle9
          replace c0 := obj_cell (i := 0) hX rfl
          replace c1 := obj_cell (i := 1) hX rfl
          replace c2 := obj_cell (i := 2) hX rfl
          replace d0 := obj_cell (i := 0) hY rfl
          replace d1 := obj_cell (i := 1) hY rfl
          replace d2 := obj_cell (i := 2) hY rfl
          change PR w9 b ((out ++ sumT (bts ks) k) ++ [32, 43, 32]) v9 at hP
          have hk3 := hkid _ S (.agg #[.int .i64 kk, .string sk, .slice slk nk ck]) b ((out ++ sumT (bts ks) k) ++ [32, 43, 32]) v9 true HS.out (HKR.out.same fun k o hk => (hF.below.cell (p := ⟨k, o, none⟩) (HS.out k hk))) hP (by simpa only [List.length_append] using hle)
          clear hkid
          go_wp2_with fail
          refine hk3.mono ?_
          rintro e w9 hx
          clear hk3
          rcases hx with ⟨hle9, rfl, ⟨v9, h9⟩, hF9⟩ | ⟨hgt, rfl, h9, hF9⟩
          rotate_left
          · exact ⟨rfl, .inr ⟨by have l1 := HLN.out; have h5 := congrArg List.length HSU.out; have l2 := HSL.out; rw [if_neg hk0] at h5; (try simp [txS] at h5 hgt l1 l2) <;> omega, rfl, h9, hF.trans hF9⟩⟩
          replace hX := hF9.obj hX (by decide) HXB.out
          have hEE : ((out ++ sumT (bts ks) k) ++ [32, 43, 32]) ++ txS true u = out ++ sumT (bts ks) (k + 1) := by rw [HSU.out, if_neg hk0]; simp only [txS, if_true, List.append_assoc]
          rw [← List.length_append, hEE] at hle9
          rw [hEE] at h9
          have HEE := Lib.hid hEE
          clear hEE hle
          go_wp2_with fail
          go_roundw
          case rel => exact ⟨k + 1, v9, by omega, by go_num, hle9, h9, hF.trans hF9, hX⟩
          case measure => simp [intOf]; omega
      · obtain rfl : k = ks.length := by omega
        have HSE := Lib.hid (show sumT (bts ks) ks.length = joinP (bts ks) by unfold sumT; rw [List.take_of_length_le (by rw [HB.out]; simp)])
        rw [HSE.out] at hP hle
        have HE := Lib.hid (show (out ++ joinP (bts ks)) = out ++ L by rw [HT.out]; (try simp only [List.append_assoc]))
        rw [HE.out] at hP
        have hle2 : (out ++ joinP (bts ks)).length ≤ 4096 := by simpa only [List.length_append] using hle
        rw [HE.out, List.length_append] at hle2
        go_wp2_with fail
        go_end0
        exact .inl ⟨hle2, rfl, ⟨_, hP⟩, hF⟩
set_option maxHeartbeats 4000000 in
set_option maxRecDepth 100000 in
theorem expr_3t (h : Nat) (ih : ExprW h) (s : ByteArray) (ks : List E) (hx : SizeOf.sizeOf (E.mk 3 s ks) < h + 1) (hw : Wf (.mk 3 s ks)) (hs : sizeW (.mk 3 s ks) ≤ 20000) (W : World) (S : Nat → Prop) (v : Value) (b : Nat) (out : List UInt8) (vo : Value) (hS : ∀ k, S k → k < b) (hr : RepX W S (.mk 3 s ks) v) (hP : PR W b out vo) (hl : out.length ≤ 4096) :
    Calls Try.prog 40 #[.pointer (some ⟨b, 0, none⟩), v, .bool true] W fun e W' => PP W b out (txS true (.mk 3 s ks)) e W' := by
  obtain ⟨hpo, hwk⟩ := wf_mk hw
  replace hpo := part_3 hpo
  rw [sizeW] at hs
  cases hr with
  | mk _ _ _ sl cap x1 y1 z1 hcap hc hrk =>
    have hA : Below W.heap.size W (W.alloc (.cells #[.int .i64 3, .string s, .slice sl ks.length cap] 26)) := (Below.refl _ _).alloc (Nat.le_refl _) _
    have hX : (W.alloc (.cells #[.int .i64 3, .string s, .slice sl ks.length cap] 26)).heap[W.heap.size]? = some (.cells #[.int .i64 3, .string s, .slice sl ks.length cap] 26 (0, 0)) := heap_alloc_new W _
    have HXB := Lib.hid (show W.heap.size ≠ b by have := hP.lt; omega)
    have hF : Fr W (W.alloc (.cells #[.int .i64 3, .string s, .slice sl ks.length cap] 26)) b := Fr.of_below hA (Nat.le_of_lt hP.lt)
    replace hP := hP.keep hA
    have c0 := obj_cell (i := 0) hX rfl
    have c1 := obj_cell (i := 1) hX rfl
    have c2 := obj_cell (i := 2) hX rfl
    have hle := hl
    have HC := Lib.hid hc
    have HR := Lib.hid hrk
    have HS := Lib.hid hS
    have HW := Lib.hid hwk
    have HX := Lib.hid hx
    have HZ := Lib.hid hs
    have HSZ := Lib.hid (Lib.size_eq s)
    have HO := Lib.hid hpo
    clear hc hrk hS hwk hx hs hpo hw hcap hA
    have hsz : s.size ≤ 20000 := by have := HZ.out; omega
    have hkl : ks.length ≤ 20000 := by have := HZ.out; have := sizeWs_len ks; omega
    have HT := Lib.hid (show txS true (.mk 3 s ks) = [40] ++ ((joinP (bts ks)) ++ [41]) from by
      have ht : textE (.mk 3 s ks) = joinP (bts ks) := by rw [textE, if_neg (by decide), if_neg (by decide), if_pos rfl]
      show brL 3 _ = _
      rw [ht]
      rfl)
    generalize txS true (.mk 3 s ks) = L at *
    have HLN := Lib.hid (congrArg List.length HT.out)
    have hb1 := put_any _ b out ⟨#[40]⟩ vo hP hle (by decide)
    go_enter Try.func40, Try.ntmps40
    go_wp2_with fail
    refine hb1.mono ?_
    rintro e w9 hx
    clear hb1
    rcases hx with ⟨hle9, rfl, ⟨v9, h9⟩, hF9⟩ | ⟨hgt, rfl, h9, hF9⟩
    rotate_left
    · exact ⟨rfl, .inr ⟨by have := HLN.out; (try simp at this hgt) <;> omega, rfl, h9, hF.trans hF9⟩⟩
    clear hP hle
    replace hX := hF9.obj hX (by decide) HXB.out
    replace hF := hF.trans hF9
    clear hF9
    replace hP := h9
    have hle := hle9
    clear h9 hle9
    have c0 := obj_cell (i := 0) hX rfl
    have c1 := obj_cell (i := 1) hX rfl
    have c2 := obj_cell (i := 2) hX rfl
    change PR w9 b (out ++ [40]) v9 at hP
    change out.length + [(40 : UInt8)].length ≤ 4096 at hle
    rw [← List.length_append] at hle
    have HU := Lib.hid (show (out ++ [40]).length = out.length + 1 from List.length_append)
    go_wp2_with fail
    have HB := Lib.hid (bts_map ks)
    go_loopw [7, 8, 39] (fun _ _ i wr => ∃ (k : Nat) (v' : Value), k ≤ ks.length ∧ i = .int .i64 k ∧ (out ++ [40] ++ sumT (bts ks) k).length ≤ 4096 ∧ PR wr b (out ++ [40] ++ sumT (bts ks) k) v' ∧ Fr W wr b ∧ wr.heap[W.heap.size]? = some (.cells #[.int .i64 3, .string s, .slice sl ks.length cap] 26 (0, 0))) (fun _ _ i _ => ks.length - (intOf i).toNat)
    case atStart => exact ⟨0, _, Nat.zero_le _, rfl, by simpa [sumT, joinP] using hle, by simpa [sumT, joinP] using hP, hF, hX⟩
    case round =>
      obtain ⟨k, v', hk, rfl, hle', hP', hF', hX'⟩ := hrel
      clear hle hP hF hX c0 c1 c2
      have hle := hle'
      have hP := hP'
      have hF := hF'
      have hX := hX'
      clear hle' hP' hF' hX'
      have c0 := obj_cell (i := 0) hX rfl
      have c1 := obj_cell (i := 1) hX rfl
      have c2 := obj_cell (i := 2) hX rfl
      by_cases hlt : k < ks.length
      · skip
        obtain ⟨u, hu⟩ : ∃ u, ks[k]? = some u := ⟨ks[k], List.getElem?_eq_getElem hlt⟩
        obtain ⟨bk, o, rfl, hbl, h1, h2, h3⟩ := HC.out k u hu
        have hkr := HR.out k u hu
        obtain ⟨kk, sk, slk, nk, ck, ev⟩ := hkr.vals
        rw [ev] at hkr
        obtain ⟨ev1, ev2, ev3⟩ : x1 k = .int .i64 kk ∧ y1 k = .string sk ∧ z1 k = .slice slk nk ck := by simpa using ev
        rw [ev1] at h1
        rw [ev2] at h2
        rw [ev3] at h3
        clear ev ev1 ev2 ev3
        have g1 := hF.old (HS.out bk hbl) h1
        have g2 := hF.old (HS.out bk hbl) h2
        have g3 := hF.old (HS.out bk hbl) h3
        have hbt : (bts ks)[k]? = some (brL u.kind (textE u)) := by rw [HB.out, List.getElem?_map, hu]; rfl
        have HSU := Lib.hid (sumT_succ hbt)
        have HSL := Lib.hid (sumT_le (ts := bts ks) (k + 1))
        have hkid := ih u (by have := kid_lt (k := 3) (s := s) hu; have := HX.out; omega) (HW.out u (List.mem_of_getElem? hu)) (by have := HZ.out; have := sizeWs_kid (List.mem_of_getElem? hu); omega)
        have HKR := Lib.hid hkr
        have hA2 : Below wr.heap.size wr (wr.alloc (.cells #[.int .i64 kk, .string sk, .slice slk nk ck] 26)) := (Below.refl _ _).alloc (Nat.le_refl _) _
        have hY : (wr.alloc (.cells #[.int .i64 kk, .string sk, .slice slk nk ck] 26)).heap[wr.heap.size]? = some (.cells #[.int .i64 kk, .string sk, .slice slk nk ck] 26 (0, 0)) := heap_alloc_new wr _
        have HYB := Lib.hid (show wr.heap.size ≠ b by have := hP.lt; omega)
        replace hF := hF.trans (Fr.of_below hA2 (Nat.le_of_lt hP.lt))
        have HSZ2 := Lib.hid (World.block_lt_of_cell? wr _ c0)
        replace hX := (hA2.block W.heap.size HSZ2.out).trans hX
        replace hP := hP.keep hA2
        clear h1 h2 h3 hu hbt hA2 hkr
        replace c0 := obj_cell (i := 0) hX rfl
        replace c1 := obj_cell (i := 1) hX rfl
        replace c2 := obj_cell (i := 2) hX rfl
        have d0 := obj_cell (i := 0) hY rfl
        have d1 := obj_cell (i := 1) hY rfl
        have d2 := obj_cell (i := 2) hY rfl
        by_cases hk0 : k = 0
        · skip
          subst hk0
          simp only [Nat.zero_mul, Nat.add_zero] at g1 g2 g3
          have hk3 := hkid _ S (.agg #[.int .i64 kk, .string sk, .slice slk nk ck]) b (out ++ [40] ++ sumT (bts ks) 0) v' true HS.out (HKR.out.same fun k o hk => (hF.below.cell (p := ⟨k, o, none⟩) (HS.out k hk))) hP (by simpa only [List.length_append] using hle)
          clear hkid
          go_wp2_with fail
          refine hk3.mono ?_
          rintro e w9 hx
          clear hk3
          rcases hx with ⟨hle9, rfl, ⟨v9, h9⟩, hF9⟩ | ⟨hgt, rfl, h9, hF9⟩
          rotate_left
          · exact ⟨rfl, .inr ⟨by have l1 := HLN.out; have h5 := congrArg List.length HSU.out; have l2 := HSL.out; rw [if_pos trivial] at h5; (try simp [txS] at h5 hgt l1 l2) <;> omega, rfl, h9, hF.trans hF9⟩⟩
          replace hX := hF9.obj hX (by decide) HXB.out
          have hEE : (out ++ [40] ++ sumT (bts ks) 0) ++ txS true u = out ++ [40] ++ sumT (bts ks) (0 + 1) := by rw [HSU.out, if_pos trivial]; simp only [txS, if_true, List.nil_append, List.append_assoc]
          rw [← List.length_append, hEE] at hle9
          rw [hEE] at h9
          have HEE := Lib.hid hEE
          clear hEE hle
          go_wp2_with fail
          go_roundw
          case rel => exact ⟨0 + 1, v9, by omega, by go_num, hle9, h9, hF.trans hF9, hX⟩
          case measure => simp [intOf]; omega
        · skip
          have hk2 : decide ((0 : Int) < (k : Int)) = true := by simp; omega
          have hb4 := put_any _ b (out ++ [40] ++ sumT (bts ks) k) ⟨#[32, 43, 32]⟩ v' hP hle (by decide)
          go_wp2_with fail
          refine hb4.mono ?_
          rintro e w9 hx
          clear hb4
          rcases hx with ⟨hle9, rfl, ⟨v9, h9⟩, hF9⟩ | ⟨hgt, rfl, h9, hF9⟩
          rotate_left
          · exact ⟨rfl, .inr ⟨by have l1 := HLN.out; have h5 := congrArg List.length HSU.out; have l2 := HSL.out; rw [if_neg hk0] at h5; (try simp at h5 hgt l1 l2) <;> omega, rfl, h9, hF.trans hF9⟩⟩
          clear hP hle
          replace hX := hF9.obj hX (by decide) HXB.out
          replace hY := hF9.obj hY (by decide) HYB.out
          replace hF := hF.trans hF9
          clear hF9
          have hP := h9
          have hle := hle9
          clear h9 hle9
          replace c0 := obj_cell (i := 0) hX rfl
          replace c1 := obj_cell (i := 1) hX rfl
          replace c2 := obj_cell (i := 2) hX rfl
          replace d0 := obj_cell (i := 0) hY rfl
          replace d1 := obj_cell (i := 1) hY rfl
          replace d2 := obj_cell (i := 2) hY rfl
          change PR w9 b ((out ++ [40] ++ sumT (bts ks) k) ++ [32, 43, 32]) v9 at hP
          have hk3 := hkid _ S (.agg #[.int .i64 kk, .string sk, .slice slk nk ck]) b ((out ++ [40] ++ sumT (bts ks) k) ++ [32, 43, 32]) v9 true HS.out (HKR.out.same fun k o hk => (hF.below.cell (p := ⟨k, o, none⟩) (HS.out k hk))) hP (by simpa only [List.length_append] using hle)
          clear hkid
          go_wp2_with fail
          refine hk3.mono ?_
          rintro e w9 hx
          clear hk3
          rcases hx with ⟨hle9, rfl, ⟨v9, h9⟩, hF9⟩ | ⟨hgt, rfl, h9, hF9⟩
          rotate_left
          · exact ⟨rfl, .inr ⟨by have l1 := HLN.out; have h5 := congrArg List.length HSU.out; have l2 := HSL.out; rw [if_neg hk0] at h5; (try simp [txS] at h5 hgt l1 l2) <;> omega, rfl, h9, hF.trans hF9⟩⟩
          replace hX := hF9.obj hX (by decide) HXB.out
          have hEE : ((out ++ [40] ++ sumT (bts ks) k) ++ [32, 43, 32]) ++ txS true u = out ++ [40] ++ sumT (bts ks) (k + 1) := by rw [HSU.out, if_neg hk0]; simp only [txS, if_true, List.append_assoc]
          rw [← List.length_append, hEE] at hle9
          rw [hEE] at h9
          have HEE := Lib.hid hEE
          clear hEE hle
          go_wp2_with fail
          go_roundw
          case rel => exact ⟨k + 1, v9, by omega, by go_num, hle9, h9, hF.trans hF9, hX⟩
          case measure => simp [intOf]; omega
      · obtain rfl : k = ks.length := by omega
        have HSE := Lib.hid (show sumT (bts ks) ks.length = joinP (bts ks) by unfold sumT; rw [List.take_of_length_le (by rw [HB.out]; simp)])
        rw [HSE.out] at hP hle
        have hb2 := put_any _ b (out ++ [40] ++ joinP (bts ks)) ⟨#[41]⟩ _ hP (by simpa only [List.length_append] using hle) (by decide)
        go_wp2_with fail
        refine hb2.mono ?_
        rintro e w9 hx
        clear hb2
        rcases hx with ⟨hle9, rfl, ⟨v9, h9⟩, hF9⟩ | ⟨hgt, rfl, h9, hF9⟩
        rotate_left
        · exact ⟨rfl, .inr ⟨by have := HLN.out; (try simp at this hgt) <;> omega, rfl, h9, hF.trans hF9⟩⟩
        clear hP hle
        replace hX := hF9.obj hX (by decide) HXB.out
        replace hF := hF.trans hF9
        clear hF9
        replace hP := h9
        have hle := hle9
        clear h9 hle9
        have c0 := obj_cell (i := 0) hX rfl
        have c1 := obj_cell (i := 1) hX rfl
        have c2 := obj_cell (i := 2) hX rfl
        have HE := Lib.hid (show (out ++ [40] ++ joinP (bts ks)) ++ [41] = out ++ L by rw [HT.out]; simp only [List.append_assoc])
        change PR w9 b ((out ++ [40] ++ joinP (bts ks)) ++ [41]) v9 at hP
        rw [HE.out] at hP
        change (out ++ [40] ++ joinP (bts ks)).length + [(41 : UInt8)].length ≤ 4096 at hle
        rw [← List.length_append, HE.out, List.length_append] at hle
        go_wp2_with fail
        go_end0
        exact .inl ⟨hle, rfl, ⟨_, hP⟩, hF⟩
set_option maxHeartbeats 4000000 in
set_option maxRecDepth 100000 in
theorem expr_4f (h : Nat) (ih : ExprW h) (s : ByteArray) (ks : List E) (hx : SizeOf.sizeOf (E.mk 4 s ks) < h + 1) (hw : Wf (.mk 4 s ks)) (hs : sizeW (.mk 4 s ks) ≤ 20000) (W : World) (S : Nat → Prop) (v : Value) (b : Nat) (out : List UInt8) (vo : Value) (hS : ∀ k, S k → k < b) (hr : RepX W S (.mk 4 s ks) v) (hP : PR W b out vo) (hl : out.length ≤ 4096) :
    Calls Try.prog 40 #[.pointer (some ⟨b, 0, none⟩), v, .bool false] W fun e W' => PP W b out (txS false (.mk 4 s ks)) e W' := by
  obtain ⟨hpo, hwk⟩ := wf_mk hw
  replace hpo := part_4 hpo
  rw [sizeW] at hs
  cases hr with
  | mk _ _ _ sl cap x1 y1 z1 hcap hc hrk =>
    have hA : Below W.heap.size W (W.alloc (.cells #[.int .i64 4, .string s, .slice sl ks.length cap] 26)) := (Below.refl _ _).alloc (Nat.le_refl _) _
    have hX : (W.alloc (.cells #[.int .i64 4, .string s, .slice sl ks.length cap] 26)).heap[W.heap.size]? = some (.cells #[.int .i64 4, .string s, .slice sl ks.length cap] 26 (0, 0)) := heap_alloc_new W _
    have HXB := Lib.hid (show W.heap.size ≠ b by have := hP.lt; omega)
    have hF : Fr W (W.alloc (.cells #[.int .i64 4, .string s, .slice sl ks.length cap] 26)) b := Fr.of_below hA (Nat.le_of_lt hP.lt)
    replace hP := hP.keep hA
    have c0 := obj_cell (i := 0) hX rfl
    have c1 := obj_cell (i := 1) hX rfl
    have c2 := obj_cell (i := 2) hX rfl
    have hle := hl
    have HC := Lib.hid hc
    have HR := Lib.hid hrk
    have HS := Lib.hid hS
    have HW := Lib.hid hwk
    have HX := Lib.hid hx
    have HZ := Lib.hid hs
    have HSZ := Lib.hid (Lib.size_eq s)
    have HO := Lib.hid hpo
    clear hc hrk hS hwk hx hs hpo hw hcap hA
    have hsz : s.size ≤ 20000 := by have := HZ.out; omega
    have hkl : ks.length ≤ 20000 := by have := HZ.out; have := sizeWs_len ks; omega
    have HT := Lib.hid (show txS false (.mk 4 s ks) = sofar (ks.map textE) 4 from by
      have ht : textE (.mk 4 s ks) = sofar (ks.map textE) 4 := by exact text_if HO.out.1
      show textE _ = _
      rw [ht])
    generalize txS false (.mk 4 s ks) = L at *
    have HLN := Lib.hid (congrArg List.length HT.out)
    go_enter Try.func40, Try.ntmps40
    go_wp2_with fail
    have HGB := Lib.hid (show (W.heap.size + 1) ≠ b by have := hP.lt; simp at this; omega)
    obtain ⟨gg, hgg⟩ : ∃ gg, gg = (W.heap.size + 1) := ⟨_, rfl⟩
    have HGG := Lib.hid hgg
    clear hgg
    go_loopw [9, 10, 56] (fun _ _ i wr => ∃ (k : Nat) (v' : Value), k ≤ 4 ∧ i = .int .i64 k ∧ (out ++ sofar (ks.map textE) k).length ≤ 4096 ∧ PR wr b (out ++ sofar (ks.map textE) k) v' ∧ Fr W wr b ∧ wr.heap[W.heap.size]? = some (.cells #[.int .i64 4, .string s, .slice sl ks.length cap] 26 (0, 0)) ∧ wr.heap[(W.heap.size + 1)]? = some (.cells #[.string ⟨#[105, 102, 32]⟩, .string ⟨#[32, 61, 32]⟩, .string ⟨#[32, 116, 104, 101, 110, 32]⟩, .string ⟨#[32, 101, 108, 115, 101, 32]⟩] 9 (0, 0))) (fun _ _ i _ => 4 - (intOf i).toNat)
    case atStart =>
      have hA2 := (Below.refl (W.alloc (.cells #[.int .i64 4, .string s, .slice sl ks.length cap] 26)).heap.size (W.alloc (.cells #[.int .i64 4, .string s, .slice sl ks.length cap] 26))).alloc (Nat.le_refl _) (.cells #[.string ⟨#[105, 102, 32]⟩, .string ⟨#[32, 61, 32]⟩, .string ⟨#[32, 116, 104, 101, 110, 32]⟩, .string ⟨#[32, 101, 108, 115, 101, 32]⟩] 9)
      exact ⟨0, _, Nat.zero_le _, rfl, by simpa [sofar] using hle, by simpa [sofar] using hP.keep hA2, hF.trans (Fr.of_below hA2 (Nat.le_of_lt hP.lt)), (hA2.block W.heap.size (World.block_lt_of_cell? (W.alloc (.cells #[.int .i64 4, .string s, .slice sl ks.length cap] 26)) _ c0)).trans hX, by first | exact heap_alloc_new _ _ | (have := heap_alloc_new (W.alloc (.cells #[.int .i64 4, .string s, .slice sl ks.length cap] 26)) (.cells #[.string ⟨#[105, 102, 32]⟩, .string ⟨#[32, 61, 32]⟩, .string ⟨#[32, 116, 104, 101, 110, 32]⟩, .string ⟨#[32, 101, 108, 115, 101, 32]⟩] 9); rw [World.size_alloc] at this; exact this)⟩
    case round =>
      obtain ⟨k, v', hk, rfl, hle', hP', hF', hX', hY⟩ := hrel
      clear hle hP hF hX c0 c1 c2
      have hle := hle'
      have hP := hP'
      have hF := hF'
      have hX := hX'
      clear hle' hP' hF' hX'
      have c0 := obj_cell (i := 0) hX rfl
      have c1 := obj_cell (i := 1) hX rfl
      have c2 := obj_cell (i := 2) hX rfl
      by_cases hlt : k < 4
      · skip
        obtain ⟨wd, hw1, hw2, hw3⟩ := if_word k hlt
        have hlt4 : k < ks.length := by have := HO.out; omega
        obtain ⟨u, hu⟩ : ∃ u, ks[k]? = some u := ⟨ks[k], List.getElem?_eq_getElem hlt4⟩
        have d0 := obj_cell (i := k) hY hw1
        have hut : (ks.map textE)[k]? = some (textE u) := by rw [List.getElem?_map, hu]; rfl
        have HSU := Lib.hid (sofar_succ hw2 hut)
        have HSL := Lib.hid (sofar_le (ts := ks.map textE) (k + 1))
        have hb4 := put_any _ b (out ++ sofar (ks.map textE) k) wd v' hP hle (by omega)
        clear hw1 hw2 hut
        go_wp2_with fail
        refine hb4.mono ?_
        rintro e w8 hx
        clear hb4 d0
        rcases hx with ⟨hle9, rfl, ⟨v9, h9⟩, hF9⟩ | ⟨hgt, rfl, h9, hF9⟩
        rotate_left
        · exact ⟨rfl, .inr ⟨by have l1 := HLN.out; have h5 := congrArg List.length HSU.out; have l2 := HSL.out; (try simp at h5 hgt l1 l2) <;> omega, rfl, h9, hF.trans hF9⟩⟩
        clear hP hle
        replace hX := hF9.obj hX (by decide) HXB.out
        replace hY := hF9.obj hY (by decide) HGB.out
        replace hF := hF.trans hF9
        clear hF9
        have hP := h9
        have hle := hle9
        clear h9 hle9
        replace c0 := obj_cell (i := 0) hX rfl
        replace c1 := obj_cell (i := 1) hX rfl
        replace c2 := obj_cell (i := 2) hX rfl
        obtain ⟨bk, o, rfl, hbl, h1, h2, h3⟩ := HC.out k u hu
        have g1 := hF.old (HS.out bk hbl) h1
        have g2 := hF.old (HS.out bk hbl) h2
        have g3 := hF.old (HS.out bk hbl) h3
        have hk3 := ih u (by have := kid_lt (k := 4) (s := s) hu; have := HX.out; omega) (HW.out u (List.mem_of_getElem? hu)) (by have := HZ.out; have := sizeWs_kid (List.mem_of_getElem? hu); omega) _ S _ b ((out ++ sofar (ks.map textE) k) ++ wd.data.toList) v9 false HS.out ((HR.out k u hu).same fun k o hk => (hF.below.cell (p := ⟨k, o, none⟩) (HS.out k hk))) hP (by simpa only [List.length_append] using hle)
        clear h1 h2 h3 hu
        go_wp2_with fail
        refine hk3.mono ?_
        rintro e w7 hx
        clear hk3
        rcases hx with ⟨hle9, rfl, ⟨v8, h9⟩, hF9⟩ | ⟨hgt, rfl, h9, hF9⟩
        rotate_left
        · exact ⟨rfl, .inr ⟨by have l1 := HLN.out; have h5 := congrArg List.length HSU.out; have l2 := HSL.out; (try simp [txS] at h5 hgt l1 l2) <;> omega, rfl, h9, hF.trans hF9⟩⟩
        replace hX := hF9.obj hX (by decide) HXB.out
        replace hY := hF9.obj hY (by decide) HGB.out
        have hEE : ((out ++ sofar (ks.map textE) k) ++ wd.data.toList) ++ txS false u = out ++ sofar (ks.map textE) (k + 1) := by rw [HSU.out]; simp only [txS, Bool.false_eq_true, if_false, List.append_assoc]
        rw [← List.length_append, hEE] at hle9
        rw [hEE] at h9
        clear hEE hle
        go_wp2_with fail
        go_roundw
        case rel => exact ⟨k + 1, v8, by omega, by go_num, hle9, h9, hF.trans hF9, hX, hY⟩
        case measure => simp [intOf]; omega
      · obtain rfl : k = 4 := by omega
        have HE := Lib.hid (show (out ++ sofar (ks.map textE) 4) = out ++ L by rw [HT.out]; (try simp only [List.append_assoc]))
        rw [HE.out] at hP
        have hle2 : (out ++ sofar (ks.map textE) 4).length ≤ 4096 := by simpa only [List.length_append] using hle
        rw [HE.out, List.length_append] at hle2
        go_wp2_with fail
        go_end0
        exact .inl ⟨hle2, rfl, ⟨_, hP⟩, hF⟩
set_option maxHeartbeats 4000000 in
set_option maxRecDepth 100000 in
theorem expr_4t (h : Nat) (ih : ExprW h) (s : ByteArray) (ks : List E) (hx : SizeOf.sizeOf (E.mk 4 s ks) < h + 1) (hw : Wf (.mk 4 s ks)) (hs : sizeW (.mk 4 s ks) ≤ 20000) (W : World) (S : Nat → Prop) (v : Value) (b : Nat) (out : List UInt8) (vo : Value) (hS : ∀ k, S k → k < b) (hr : RepX W S (.mk 4 s ks) v) (hP : PR W b out vo) (hl : out.length ≤ 4096) :
    Calls Try.prog 40 #[.pointer (some ⟨b, 0, none⟩), v, .bool true] W fun e W' => PP W b out (txS true (.mk 4 s ks)) e W' := by
  obtain ⟨hpo, hwk⟩ := wf_mk hw
  replace hpo := part_4 hpo
  rw [sizeW] at hs
  cases hr with
  | mk _ _ _ sl cap x1 y1 z1 hcap hc hrk =>
    have hA : Below W.heap.size W (W.alloc (.cells #[.int .i64 4, .string s, .slice sl ks.length cap] 26)) := (Below.refl _ _).alloc (Nat.le_refl _) _
    have hX : (W.alloc (.cells #[.int .i64 4, .string s, .slice sl ks.length cap] 26)).heap[W.heap.size]? = some (.cells #[.int .i64 4, .string s, .slice sl ks.length cap] 26 (0, 0)) := heap_alloc_new W _
    have HXB := Lib.hid (show W.heap.size ≠ b by have := hP.lt; omega)
    have hF : Fr W (W.alloc (.cells #[.int .i64 4, .string s, .slice sl ks.length cap] 26)) b := Fr.of_below hA (Nat.le_of_lt hP.lt)
    replace hP := hP.keep hA
    have c0 := obj_cell (i := 0) hX rfl
    have c1 := obj_cell (i := 1) hX rfl
    have c2 := obj_cell (i := 2) hX rfl
    have hle := hl
    have HC := Lib.hid hc
    have HR := Lib.hid hrk
    have HS := Lib.hid hS
    have HW := Lib.hid hwk
    have HX := Lib.hid hx
    have HZ := Lib.hid hs
    have HSZ := Lib.hid (Lib.size_eq s)
    have HO := Lib.hid hpo
    clear hc hrk hS hwk hx hs hpo hw hcap hA
    have hsz : s.size ≤ 20000 := by have := HZ.out; omega
    have hkl : ks.length ≤ 20000 := by have := HZ.out; have := sizeWs_len ks; omega
    have HT := Lib.hid (show txS true (.mk 4 s ks) = [40] ++ ((sofar (ks.map textE) 4) ++ [41]) from by
      have ht : textE (.mk 4 s ks) = sofar (ks.map textE) 4 := by exact text_if HO.out.1
      show brL 4 _ = _
      rw [ht]
      rfl)
    generalize txS true (.mk 4 s ks) = L at *
    have HLN := Lib.hid (congrArg List.length HT.out)
    have hb1 := put_any _ b out ⟨#[40]⟩ vo hP hle (by decide)
    go_enter Try.func40, Try.ntmps40
    go_wp2_with fail
    refine hb1.mono ?_
    rintro e w9 hx
    clear hb1
    rcases hx with ⟨hle9, rfl, ⟨v9, h9⟩, hF9⟩ | ⟨hgt, rfl, h9, hF9⟩
    rotate_left
    · exact ⟨rfl, .inr ⟨by have := HLN.out; (try simp at this hgt) <;> omega, rfl, h9, hF.trans hF9⟩⟩
    clear hP hle
    replace hX := hF9.obj hX (by decide) HXB.out
    replace hF := hF.trans hF9
    clear hF9
    replace hP := h9
    have hle := hle9
    clear h9 hle9
    have c0 := obj_cell (i := 0) hX rfl
    have c1 := obj_cell (i := 1) hX rfl
    have c2 := obj_cell (i := 2) hX rfl
    change PR w9 b (out ++ [40]) v9 at hP
    change out.length + [(40 : UInt8)].length ≤ 4096 at hle
    rw [← List.length_append] at hle
    have HU := Lib.hid (show (out ++ [40]).length = out.length + 1 from List.length_append)
    go_wp2_with fail
    have HGB := Lib.hid (show w9.heap.size ≠ b by have := hP.lt; omega)
    obtain ⟨gg, hgg⟩ : ∃ gg, gg = w9.heap.size := ⟨_, rfl⟩
    have HGG := Lib.hid hgg
    clear hgg
    go_loopw [9, 10, 56] (fun _ _ i wr => ∃ (k : Nat) (v' : Value), k ≤ 4 ∧ i = .int .i64 k ∧ (out ++ [40] ++ sofar (ks.map textE) k).length ≤ 4096 ∧ PR wr b (out ++ [40] ++ sofar (ks.map textE) k) v' ∧ Fr W wr b ∧ wr.heap[W.heap.size]? = some (.cells #[.int .i64 4, .string s, .slice sl ks.length cap] 26 (0, 0)) ∧ wr.heap[w9.heap.size]? = some (.cells #[.string ⟨#[105, 102, 32]⟩, .string ⟨#[32, 61, 32]⟩, .string ⟨#[32, 116, 104, 101, 110, 32]⟩, .string ⟨#[32, 101, 108, 115, 101, 32]⟩] 9 (0, 0))) (fun _ _ i _ => 4 - (intOf i).toNat)
    case atStart =>
      have hA2 := (Below.refl w9.heap.size w9).alloc (Nat.le_refl _) (.cells #[.string ⟨#[105, 102, 32]⟩, .string ⟨#[32, 61, 32]⟩, .string ⟨#[32, 116, 104, 101, 110, 32]⟩, .string ⟨#[32, 101, 108, 115, 101, 32]⟩] 9)
      exact ⟨0, _, Nat.zero_le _, rfl, by simpa [sofar] using hle, by simpa [sofar] using hP.keep hA2, hF.trans (Fr.of_below hA2 (Nat.le_of_lt hP.lt)), (hA2.block W.heap.size (World.block_lt_of_cell? w9 _ c0)).trans hX, by first | exact heap_alloc_new _ _ | (have := heap_alloc_new w9 (.cells #[.string ⟨#[105, 102, 32]⟩, .string ⟨#[32, 61, 32]⟩, .string ⟨#[32, 116, 104, 101, 110, 32]⟩, .string ⟨#[32, 101, 108, 115, 101, 32]⟩] 9); rw [World.size_alloc] at this; exact this)⟩
    case round =>
      obtain ⟨k, v', hk, rfl, hle', hP', hF', hX', hY⟩ := hrel
      clear hle hP hF hX c0 c1 c2
      have hle := hle'
      have hP := hP'
      have hF := hF'
      have hX := hX'
      clear hle' hP' hF' hX'
      have c0 := obj_cell (i := 0) hX rfl
      have c1 := obj_cell (i := 1) hX rfl
      have c2 := obj_cell (i := 2) hX rfl
      by_cases hlt : k < 4
      · skip
        obtain ⟨wd, hw1, hw2, hw3⟩ := if_word k hlt
        have hlt4 : k < ks.length := by have := HO.out; omega
        obtain ⟨u, hu⟩ : ∃ u, ks[k]? = some u := ⟨ks[k], List.getElem?_eq_getElem hlt4⟩
        have d0 := obj_cell (i := k) hY hw1
        have hut : (ks.map textE)[k]? = some (textE u) := by rw [List.getElem?_map, hu]; rfl
        have HSU := Lib.hid (sofar_succ hw2 hut)
        have HSL := Lib.hid (sofar_le (ts := ks.map textE) (k + 1))
        have hb4 := put_any _ b (out ++ [40] ++ sofar (ks.map textE) k) wd v' hP hle (by omega)
        clear hw1 hw2 hut
        go_wp2_with fail
        refine hb4.mono ?_
        rintro e w8 hx
        clear hb4 d0
        rcases hx with ⟨hle9, rfl, ⟨v9, h9⟩, hF9⟩ | ⟨hgt, rfl, h9, hF9⟩
        rotate_left
        · exact ⟨rfl, .inr ⟨by have l1 := HLN.out; have h5 := congrArg List.length HSU.out; have l2 := HSL.out; (try simp at h5 hgt l1 l2) <;> omega, rfl, h9, hF.trans hF9⟩⟩
        clear hP hle
        replace hX := hF9.obj hX (by decide) HXB.out
        replace hY := hF9.obj hY (by decide) HGB.out
        replace hF := hF.trans hF9
        clear hF9
        have hP := h9
        have hle := hle9
        clear h9 hle9
        replace c0 := obj_cell (i := 0) hX rfl
        replace c1 := obj_cell (i := 1) hX rfl
        replace c2 := obj_cell (i := 2) hX rfl
        obtain ⟨bk, o, rfl, hbl, h1, h2, h3⟩ := HC.out k u hu
        have g1 := hF.old (HS.out bk hbl) h1
        have g2 := hF.old (HS.out bk hbl) h2
        have g3 := hF.old (HS.out bk hbl) h3
        have hk3 := ih u (by have := kid_lt (k := 4) (s := s) hu; have := HX.out; omega) (HW.out u (List.mem_of_getElem? hu)) (by have := HZ.out; have := sizeWs_kid (List.mem_of_getElem? hu); omega) _ S _ b ((out ++ [40] ++ sofar (ks.map textE) k) ++ wd.data.toList) v9 false HS.out ((HR.out k u hu).same fun k o hk => (hF.below.cell (p := ⟨k, o, none⟩) (HS.out k hk))) hP (by simpa only [List.length_append] using hle)
        clear h1 h2 h3 hu
        go_wp2_with fail
        refine hk3.mono ?_
        rintro e w7 hx
        clear hk3
        rcases hx with ⟨hle9, rfl, ⟨v8, h9⟩, hF9⟩ | ⟨hgt, rfl, h9, hF9⟩
        rotate_left
        · exact ⟨rfl, .inr ⟨by have l1 := HLN.out; have h5 := congrArg List.length HSU.out; have l2 := HSL.out; (try simp [txS] at h5 hgt l1 l2) <;> omega, rfl, h9, hF.trans hF9⟩⟩
        replace hX := hF9.obj hX (by decide) HXB.out
        replace hY := hF9.obj hY (by decide) HGB.out
        have hEE : ((out ++ [40] ++ sofar (ks.map textE) k) ++ wd.data.toList) ++ txS false u = out ++ [40] ++ sofar (ks.map textE) (k + 1) := by rw [HSU.out]; simp only [txS, Bool.false_eq_true, if_false, List.append_assoc]
        rw [← List.length_append, hEE] at hle9
        rw [hEE] at h9
        clear hEE hle
        go_wp2_with fail
        go_roundw
        case rel => exact ⟨k + 1, v8, by omega, by go_num, hle9, h9, hF.trans hF9, hX, hY⟩
        case measure => simp [intOf]; omega
      · obtain rfl : k = 4 := by omega
        have hb2 := put_any _ b (out ++ [40] ++ sofar (ks.map textE) 4) ⟨#[41]⟩ _ hP (by simpa only [List.length_append] using hle) (by decide)
        go_wp2_with fail
        refine hb2.mono ?_
        rintro e w9 hx
        clear hb2
        rcases hx with ⟨hle9, rfl, ⟨v9, h9⟩, hF9⟩ | ⟨hgt, rfl, h9, hF9⟩
        rotate_left
        · exact ⟨rfl, .inr ⟨by have := HLN.out; (try simp at this hgt) <;> omega, rfl, h9, hF.trans hF9⟩⟩
        clear hP hle
        replace hX := hF9.obj hX (by decide) HXB.out
        replace hF := hF.trans hF9
        clear hF9
        replace hP := h9
        have hle := hle9
        clear h9 hle9
        have c0 := obj_cell (i := 0) hX rfl
        have c1 := obj_cell (i := 1) hX rfl
        have c2 := obj_cell (i := 2) hX rfl
        have HE := Lib.hid (show (out ++ [40] ++ sofar (ks.map textE) 4) ++ [41] = out ++ L by rw [HT.out]; simp only [List.append_assoc])
        change PR w9 b ((out ++ [40] ++ sofar (ks.map textE) 4) ++ [41]) v9 at hP
        rw [HE.out] at hP
        change (out ++ [40] ++ sofar (ks.map textE) 4).length + [(41 : UInt8)].length ≤ 4096 at hle
        rw [← List.length_append, HE.out, List.length_append] at hle
        go_wp2_with fail
        go_end0
        exact .inl ⟨hle, rfl, ⟨_, hP⟩, hF⟩
set_option maxHeartbeats 4000000 in
set_option maxRecDepth 100000 in
theorem expr_5f (h : Nat) (ih : ExprW h) (s : ByteArray) (ks : List E) (hx : SizeOf.sizeOf (E.mk 5 s ks) < h + 1) (hw : Wf (.mk 5 s ks)) (hs : sizeW (.mk 5 s ks) ≤ 20000) (W : World) (S : Nat → Prop) (v : Value) (b : Nat) (out : List UInt8) (vo : Value) (hS : ∀ k, S k → k < b) (hr : RepX W S (.mk 5 s ks) v) (hP : PR W b out vo) (hl : out.length ≤ 4096) :
    Calls Try.prog 40 #[.pointer (some ⟨b, 0, none⟩), v, .bool false] W fun e W' => PP W b out (txS false (.mk 5 s ks)) e W' := by
  obtain ⟨hpo, hwk⟩ := wf_mk hw
  replace hpo := part_5 hpo
  rw [sizeW] at hs
  cases hr with
  | mk _ _ _ sl cap x1 y1 z1 hcap hc hrk =>
    have hA : Below W.heap.size W (W.alloc (.cells #[.int .i64 5, .string s, .slice sl ks.length cap] 26)) := (Below.refl _ _).alloc (Nat.le_refl _) _
    have hX : (W.alloc (.cells #[.int .i64 5, .string s, .slice sl ks.length cap] 26)).heap[W.heap.size]? = some (.cells #[.int .i64 5, .string s, .slice sl ks.length cap] 26 (0, 0)) := heap_alloc_new W _
    have HXB := Lib.hid (show W.heap.size ≠ b by have := hP.lt; omega)
    have hF : Fr W (W.alloc (.cells #[.int .i64 5, .string s, .slice sl ks.length cap] 26)) b := Fr.of_below hA (Nat.le_of_lt hP.lt)
    replace hP := hP.keep hA
    have c0 := obj_cell (i := 0) hX rfl
    have c1 := obj_cell (i := 1) hX rfl
    have c2 := obj_cell (i := 2) hX rfl
    have hle := hl
    have HC := Lib.hid hc
    have HR := Lib.hid hrk
    have HS := Lib.hid hS
    have HW := Lib.hid hwk
    have HX := Lib.hid hx
    have HZ := Lib.hid hs
    have HSZ := Lib.hid (Lib.size_eq s)
    have HO := Lib.hid hpo
    clear hc hrk hS hwk hx hs hpo hw hcap hA
    have hsz : s.size ≤ 20000 := by have := HZ.out; omega
    have hkl : ks.length ≤ 20000 := by have := HZ.out; have := sizeWs_len ks; omega
    obtain ⟨a, b', rfl⟩ : ∃ a b', ks = [a, b'] := by
      match ks, HO.out.1 with
      | [a, b'], _ => exact ⟨a, b', rfl⟩
    have HT := Lib.hid (show txS false (.mk 5 s [a, b']) = wLet ++ (s.data.toList ++ (wEq ++ (textE a ++ (wIn ++ textE b')))) from by
      have ht : textE (.mk 5 s [a, b']) = wLet ++ (s.data.toList ++ (wEq ++ (textE a ++ (wIn ++ textE b')))) := by rw [textE, if_neg (by decide), if_neg (by decide), if_neg (by decide), if_neg (by decide), if_pos rfl, texts_map]; rfl
      show textE _ = _
      rw [ht])
    generalize txS false (.mk 5 s [a, b']) = L at *
    have HLN := Lib.hid (congrArg List.length HT.out)
    have hc1 := put_any _ b out (⟨#[108, 101, 116, 32]⟩ ++ s ++ ⟨#[32, 61, 32]⟩) vo hP hle (by rw [ByteArray.size_append, ByteArray.size_append]; show 4 + _ + 3 ≤ _; omega)
    go_enter Try.func40, Try.ntmps40
    go_wp2_with fail
    have HQ := Lib.hid (show (⟨#[108, 101, 116, 32]⟩ ++ s ++ ⟨#[32, 61, 32]⟩ : ByteArray).data.toList = wLet ++ (s.data.toList ++ wEq) by simp [ByteArray.data_append, wLet, wEq])
    refine hc1.mono ?_
    rintro e w9 hx
    clear hc1
    rcases hx with ⟨hle9, rfl, ⟨v9, h9⟩, hF9⟩ | ⟨hgt, rfl, h9, hF9⟩
    rotate_left
    · exact ⟨rfl, .inr ⟨by have := HLN.out; rw [HQ.out] at hgt; (try simp at this hgt) <;> omega, rfl, h9, hF.trans hF9⟩⟩
    clear hP hle
    replace hX := hF9.obj hX (by decide) HXB.out
    replace hF := hF.trans hF9
    clear hF9
    replace hP := h9
    have hle := hle9
    clear h9 hle9
    have c0 := obj_cell (i := 0) hX rfl
    have c1 := obj_cell (i := 1) hX rfl
    have c2 := obj_cell (i := 2) hX rfl
    rw [HQ.out] at hP hle
    obtain ⟨bk, o, rfl, hbl, h1, h2, h3⟩ := HC.out 0 a rfl
    have g1 : World.cell? _ ⟨bk, o, none⟩ = _ := hF.old (HS.out bk hbl) h1
    have g2 : World.cell? _ ⟨bk, o + 1, none⟩ = _ := hF.old (HS.out bk hbl) h2
    have g3 : World.cell? _ ⟨bk, o + 2, none⟩ = _ := hF.old (HS.out bk hbl) h3
    clear h1 h2 h3
    have hk0 := ih a (by have := kid_lt (k := 5) (s := s) (ks := [a, b']) (i := 0) (x := a) rfl; have := HX.out; omega) (HW.out a (by simp)) (by have := HZ.out; simp only [sizeWs] at this; omega) _ S _ b ((out) ++ (wLet ++ (s.data.toList ++ wEq))) _ false HS.out ((HR.out 0 a rfl).same fun k o hk => (hF.below.cell (p := ⟨k, o, none⟩) (HS.out k hk))) hP (by simpa only [List.length_append] using hle)
    go_wp2_with fail
    refine hk0.mono ?_
    rintro e w9 hx
    clear hk0
    rcases hx with ⟨hle9, rfl, ⟨v9, h9⟩, hF9⟩ | ⟨hgt, rfl, h9, hF9⟩
    rotate_left
    · exact ⟨rfl, .inr ⟨by have := HLN.out; (try simp [txS] at this hgt) <;> omega, rfl, h9, hF.trans hF9⟩⟩
    clear hP hle
    replace hX := hF9.obj hX (by decide) HXB.out
    replace hF := hF.trans hF9
    clear hF9
    replace hP := h9
    have hle := hle9
    clear h9 hle9
    have c0 := obj_cell (i := 0) hX rfl
    have c1 := obj_cell (i := 1) hX rfl
    have c2 := obj_cell (i := 2) hX rfl
    clear g1 g2 g3
    change PR w9 b (((out) ++ (wLet ++ (s.data.toList ++ wEq))) ++ textE a) v9 at hP
    change ((out) ++ (wLet ++ (s.data.toList ++ wEq))).length + (textE a).length ≤ 4096 at hle
    have hb3 := put_any _ b (((out) ++ (wLet ++ (s.data.toList ++ wEq))) ++ textE a) ⟨#[32, 105, 110, 32]⟩ _ hP (by simpa only [List.length_append] using hle) (by decide)
    go_wp2_with fail
    refine hb3.mono ?_
    rintro e w9 hx
    clear hb3
    rcases hx with ⟨hle9, rfl, ⟨v9, h9⟩, hF9⟩ | ⟨hgt, rfl, h9, hF9⟩
    rotate_left
    · exact ⟨rfl, .inr ⟨by have := HLN.out; (try simp [wIn] at this hgt) <;> omega, rfl, h9, hF.trans hF9⟩⟩
    clear hP hle
    replace hX := hF9.obj hX (by decide) HXB.out
    replace hF := hF.trans hF9
    clear hF9
    replace hP := h9
    have hle := hle9
    clear h9 hle9
    have c0 := obj_cell (i := 0) hX rfl
    have c1 := obj_cell (i := 1) hX rfl
    have c2 := obj_cell (i := 2) hX rfl
    change PR w9 b ((((out) ++ (wLet ++ (s.data.toList ++ wEq))) ++ textE a) ++ wIn) v9 at hP
    change (((out) ++ (wLet ++ (s.data.toList ++ wEq))) ++ textE a).length + wIn.length ≤ 4096 at hle
    obtain ⟨bk2, o2, e2, hbl2, h1, h2, h3⟩ := HC.out 1 b' rfl
    simp only [Option.some.injEq, Addr.mk.injEq, and_true] at e2
    obtain ⟨rfl, rfl⟩ := e2
    have g1 : World.cell? _ ⟨bk, o + 3, none⟩ = _ := hF.old (HS.out bk hbl) h1
    have g2 : World.cell? _ ⟨bk, o + 3 + 1, none⟩ = _ := hF.old (HS.out bk hbl) h2
    have g3 : World.cell? _ ⟨bk, o + 3 + 2, none⟩ = _ := hF.old (HS.out bk hbl) h3
    clear h1 h2 h3
    have hk0 := ih b' (by have := kid_lt (k := 5) (s := s) (ks := [a, b']) (i := 1) (x := b') rfl; have := HX.out; omega) (HW.out b' (by simp)) (by have := HZ.out; simp only [sizeWs] at this; omega) _ S _ b ((((out) ++ (wLet ++ (s.data.toList ++ wEq))) ++ textE a) ++ wIn) _ false HS.out ((HR.out 1 b' rfl).same fun k o hk => (hF.below.cell (p := ⟨k, o, none⟩) (HS.out k hk))) hP (by simpa only [List.length_append] using hle)
    go_wp2_with fail
    refine hk0.mono ?_
    rintro e w9 hx
    clear hk0
    rcases hx with ⟨hle9, rfl, ⟨v9, h9⟩, hF9⟩ | ⟨hgt, rfl, h9, hF9⟩
    rotate_left
    · exact ⟨rfl, .inr ⟨by have := HLN.out; (try simp [txS] at this hgt) <;> omega, rfl, h9, hF.trans hF9⟩⟩
    clear hP hle
    replace hX := hF9.obj hX (by decide) HXB.out
    replace hF := hF.trans hF9
    clear hF9
    replace hP := h9
    have hle := hle9
    clear h9 hle9
    have c0 := obj_cell (i := 0) hX rfl
    have c1 := obj_cell (i := 1) hX rfl
    have c2 := obj_cell (i := 2) hX rfl
    clear g1 g2 g3
    change PR w9 b (((((out) ++ (wLet ++ (s.data.toList ++ wEq))) ++ textE a) ++ wIn) ++ textE b') v9 at hP
    change ((((out) ++ (wLet ++ (s.data.toList ++ wEq))) ++ textE a) ++ wIn).length + (textE b').length ≤ 4096 at hle
    have HE := Lib.hid (show (((((out) ++ (wLet ++ (s.data.toList ++ wEq))) ++ textE a) ++ wIn) ++ textE b') = out ++ L by rw [HT.out]; (try simp only [List.append_assoc]))
    rw [HE.out] at hP
    have hle2 : (((((out) ++ (wLet ++ (s.data.toList ++ wEq))) ++ textE a) ++ wIn) ++ textE b').length ≤ 4096 := by simpa only [List.length_append] using hle
    rw [HE.out, List.length_append] at hle2
    go_wp2_with fail
    go_end0
    exact .inl ⟨hle2, rfl, ⟨_, hP⟩, hF⟩
set_option maxHeartbeats 4000000 in
set_option maxRecDepth 100000 in
theorem expr_5t (h : Nat) (ih : ExprW h) (s : ByteArray) (ks : List E) (hx : SizeOf.sizeOf (E.mk 5 s ks) < h + 1) (hw : Wf (.mk 5 s ks)) (hs : sizeW (.mk 5 s ks) ≤ 20000) (W : World) (S : Nat → Prop) (v : Value) (b : Nat) (out : List UInt8) (vo : Value) (hS : ∀ k, S k → k < b) (hr : RepX W S (.mk 5 s ks) v) (hP : PR W b out vo) (hl : out.length ≤ 4096) :
    Calls Try.prog 40 #[.pointer (some ⟨b, 0, none⟩), v, .bool true] W fun e W' => PP W b out (txS true (.mk 5 s ks)) e W' := by
  obtain ⟨hpo, hwk⟩ := wf_mk hw
  replace hpo := part_5 hpo
  rw [sizeW] at hs
  cases hr with
  | mk _ _ _ sl cap x1 y1 z1 hcap hc hrk =>
    have hA : Below W.heap.size W (W.alloc (.cells #[.int .i64 5, .string s, .slice sl ks.length cap] 26)) := (Below.refl _ _).alloc (Nat.le_refl _) _
    have hX : (W.alloc (.cells #[.int .i64 5, .string s, .slice sl ks.length cap] 26)).heap[W.heap.size]? = some (.cells #[.int .i64 5, .string s, .slice sl ks.length cap] 26 (0, 0)) := heap_alloc_new W _
    have HXB := Lib.hid (show W.heap.size ≠ b by have := hP.lt; omega)
    have hF : Fr W (W.alloc (.cells #[.int .i64 5, .string s, .slice sl ks.length cap] 26)) b := Fr.of_below hA (Nat.le_of_lt hP.lt)
    replace hP := hP.keep hA
    have c0 := obj_cell (i := 0) hX rfl
    have c1 := obj_cell (i := 1) hX rfl
    have c2 := obj_cell (i := 2) hX rfl
    have hle := hl
    have HC := Lib.hid hc
    have HR := Lib.hid hrk
    have HS := Lib.hid hS
    have HW := Lib.hid hwk
    have HX := Lib.hid hx
    have HZ := Lib.hid hs
    have HSZ := Lib.hid (Lib.size_eq s)
    have HO := Lib.hid hpo
    clear hc hrk hS hwk hx hs hpo hw hcap hA
    have hsz : s.size ≤ 20000 := by have := HZ.out; omega
    have hkl : ks.length ≤ 20000 := by have := HZ.out; have := sizeWs_len ks; omega
    obtain ⟨a, b', rfl⟩ : ∃ a b', ks = [a, b'] := by
      match ks, HO.out.1 with
      | [a, b'], _ => exact ⟨a, b', rfl⟩
    have HT := Lib.hid (show txS true (.mk 5 s [a, b']) = [40] ++ ((wLet ++ (s.data.toList ++ (wEq ++ (textE a ++ (wIn ++ textE b'))))) ++ [41]) from by
      have ht : textE (.mk 5 s [a, b']) = wLet ++ (s.data.toList ++ (wEq ++ (textE a ++ (wIn ++ textE b')))) := by rw [textE, if_neg (by decide), if_neg (by decide), if_neg (by decide), if_neg (by decide), if_pos rfl, texts_map]; rfl
      show brL 5 _ = _
      rw [ht]
      rfl)
    generalize txS true (.mk 5 s [a, b']) = L at *
    have HLN := Lib.hid (congrArg List.length HT.out)
    have hb1 := put_any _ b out ⟨#[40]⟩ vo hP hle (by decide)
    go_enter Try.func40, Try.ntmps40
    go_wp2_with fail
    refine hb1.mono ?_
    rintro e w9 hx
    clear hb1
    rcases hx with ⟨hle9, rfl, ⟨v9, h9⟩, hF9⟩ | ⟨hgt, rfl, h9, hF9⟩
    rotate_left
    · exact ⟨rfl, .inr ⟨by have := HLN.out; (try simp at this hgt) <;> omega, rfl, h9, hF.trans hF9⟩⟩
    clear hP hle
    replace hX := hF9.obj hX (by decide) HXB.out
    replace hF := hF.trans hF9
    clear hF9
    replace hP := h9
    have hle := hle9
    clear h9 hle9
    have c0 := obj_cell (i := 0) hX rfl
    have c1 := obj_cell (i := 1) hX rfl
    have c2 := obj_cell (i := 2) hX rfl
    change PR w9 b (out ++ [40]) v9 at hP
    change out.length + [(40 : UInt8)].length ≤ 4096 at hle
    rw [← List.length_append] at hle
    have HU := Lib.hid (show (out ++ [40]).length = out.length + 1 from List.length_append)
    have hc1 := put_any _ b (out ++ [40]) (⟨#[108, 101, 116, 32]⟩ ++ s ++ ⟨#[32, 61, 32]⟩) v9 hP hle (by rw [ByteArray.size_append, ByteArray.size_append]; show 4 + _ + 3 ≤ _; omega)
    go_wp2_with fail
    have HQ := Lib.hid (show (⟨#[108, 101, 116, 32]⟩ ++ s ++ ⟨#[32, 61, 32]⟩ : ByteArray).data.toList = wLet ++ (s.data.toList ++ wEq) by simp [ByteArray.data_append, wLet, wEq])
    refine hc1.mono ?_
    rintro e w9 hx
    clear hc1
    rcases hx with ⟨hle9, rfl, ⟨v9, h9⟩, hF9⟩ | ⟨hgt, rfl, h9, hF9⟩
    rotate_left
    · exact ⟨rfl, .inr ⟨by have := HLN.out; rw [HQ.out] at hgt; (try simp at this hgt) <;> omega, rfl, h9, hF.trans hF9⟩⟩
    clear hP hle
    replace hX := hF9.obj hX (by decide) HXB.out
    replace hF := hF.trans hF9
    clear hF9
    replace hP := h9
    have hle := hle9
    clear h9 hle9
    have c0 := obj_cell (i := 0) hX rfl
    have c1 := obj_cell (i := 1) hX rfl
    have c2 := obj_cell (i := 2) hX rfl
    rw [HQ.out] at hP hle
    obtain ⟨bk, o, rfl, hbl, h1, h2, h3⟩ := HC.out 0 a rfl
    have g1 : World.cell? _ ⟨bk, o, none⟩ = _ := hF.old (HS.out bk hbl) h1
    have g2 : World.cell? _ ⟨bk, o + 1, none⟩ = _ := hF.old (HS.out bk hbl) h2
    have g3 : World.cell? _ ⟨bk, o + 2, none⟩ = _ := hF.old (HS.out bk hbl) h3
    clear h1 h2 h3
    have hk0 := ih a (by have := kid_lt (k := 5) (s := s) (ks := [a, b']) (i := 0) (x := a) rfl; have := HX.out; omega) (HW.out a (by simp)) (by have := HZ.out; simp only [sizeWs] at this; omega) _ S _ b ((out ++ [40]) ++ (wLet ++ (s.data.toList ++ wEq))) _ false HS.out ((HR.out 0 a rfl).same fun k o hk => (hF.below.cell (p := ⟨k, o, none⟩) (HS.out k hk))) hP (by simpa only [List.length_append] using hle)
    go_wp2_with fail
    refine hk0.mono ?_
    rintro e w9 hx
    clear hk0
    rcases hx with ⟨hle9, rfl, ⟨v9, h9⟩, hF9⟩ | ⟨hgt, rfl, h9, hF9⟩
    rotate_left
    · exact ⟨rfl, .inr ⟨by have := HLN.out; (try simp [txS] at this hgt) <;> omega, rfl, h9, hF.trans hF9⟩⟩
    clear hP hle
    replace hX := hF9.obj hX (by decide) HXB.out
    replace hF := hF.trans hF9
    clear hF9
    replace hP := h9
    have hle := hle9
    clear h9 hle9
    have c0 := obj_cell (i := 0) hX rfl
    have c1 := obj_cell (i := 1) hX rfl
    have c2 := obj_cell (i := 2) hX rfl
    clear g1 g2 g3
    change PR w9 b (((out ++ [40]) ++ (wLet ++ (s.data.toList ++ wEq))) ++ textE a) v9 at hP
    change ((out ++ [40]) ++ (wLet ++ (s.data.toList ++ wEq))).length + (textE a).length ≤ 4096 at hle
    have hb3 := put_any _ b (((out ++ [40]) ++ (wLet ++ (s.data.toList ++ wEq))) ++ textE a) ⟨#[32, 105, 110, 32]⟩ _ hP (by simpa only [List.length_append] using hle) (by decide)
    go_wp2_with fail
    refine hb3.mono ?_
    rintro e w9 hx
    clear hb3
    rcases hx with ⟨hle9, rfl, ⟨v9, h9⟩, hF9⟩ | ⟨hgt, rfl, h9, hF9⟩
    rotate_left
    · exact ⟨rfl, .inr ⟨by have := HLN.out; (try simp [wIn] at this hgt) <;> omega, rfl, h9, hF.trans hF9⟩⟩
    clear hP hle
    replace hX := hF9.obj hX (by decide) HXB.out
    replace hF := hF.trans hF9
    clear hF9
    replace hP := h9
    have hle := hle9
    clear h9 hle9
    have c0 := obj_cell (i := 0) hX rfl
    have c1 := obj_cell (i := 1) hX rfl
    have c2 := obj_cell (i := 2) hX rfl
    change PR w9 b ((((out ++ [40]) ++ (wLet ++ (s.data.toList ++ wEq))) ++ textE a) ++ wIn) v9 at hP
    change (((out ++ [40]) ++ (wLet ++ (s.data.toList ++ wEq))) ++ textE a).length + wIn.length ≤ 4096 at hle
    obtain ⟨bk2, o2, e2, hbl2, h1, h2, h3⟩ := HC.out 1 b' rfl
    simp only [Option.some.injEq, Addr.mk.injEq, and_true] at e2
    obtain ⟨rfl, rfl⟩ := e2
    have g1 : World.cell? _ ⟨bk, o + 3, none⟩ = _ := hF.old (HS.out bk hbl) h1
    have g2 : World.cell? _ ⟨bk, o + 3 + 1, none⟩ = _ := hF.old (HS.out bk hbl) h2
    have g3 : World.cell? _ ⟨bk, o + 3 + 2, none⟩ = _ := hF.old (HS.out bk hbl) h3
    clear h1 h2 h3
    have hk0 := ih b' (by have := kid_lt (k := 5) (s := s) (ks := [a, b']) (i := 1) (x := b') rfl; have := HX.out; omega) (HW.out b' (by simp)) (by have := HZ.out; simp only [sizeWs] at this; omega) _ S _ b ((((out ++ [40]) ++ (wLet ++ (s.data.toList ++ wEq))) ++ textE a) ++ wIn) _ false HS.out ((HR.out 1 b' rfl).same fun k o hk => (hF.below.cell (p := ⟨k, o, none⟩) (HS.out k hk))) hP (by simpa only [List.length_append] using hle)
    go_wp2_with fail
    refine hk0.mono ?_
    rintro e w9 hx
    clear hk0
    rcases hx with ⟨hle9, rfl, ⟨v9, h9⟩, hF9⟩ | ⟨hgt, rfl, h9, hF9⟩
    rotate_left
    · exact ⟨rfl, .inr ⟨by have := HLN.out; (try simp [txS] at this hgt) <;> omega, rfl, h9, hF.trans hF9⟩⟩
    clear hP hle
    replace hX := hF9.obj hX (by decide) HXB.out
    replace hF := hF.trans hF9
    clear hF9
    replace hP := h9
    have hle := hle9
    clear h9 hle9
    have c0 := obj_cell (i := 0) hX rfl
    have c1 := obj_cell (i := 1) hX rfl
    have c2 := obj_cell (i := 2) hX rfl
    clear g1 g2 g3
    change PR w9 b (((((out ++ [40]) ++ (wLet ++ (s.data.toList ++ wEq))) ++ textE a) ++ wIn) ++ textE b') v9 at hP
    change ((((out ++ [40]) ++ (wLet ++ (s.data.toList ++ wEq))) ++ textE a) ++ wIn).length + (textE b').length ≤ 4096 at hle
    have hb2 := put_any _ b (((((out ++ [40]) ++ (wLet ++ (s.data.toList ++ wEq))) ++ textE a) ++ wIn) ++ textE b') ⟨#[41]⟩ _ hP (by simpa only [List.length_append] using hle) (by decide)
    go_wp2_with fail
    refine hb2.mono ?_
    rintro e w9 hx
    clear hb2
    rcases hx with ⟨hle9, rfl, ⟨v9, h9⟩, hF9⟩ | ⟨hgt, rfl, h9, hF9⟩
    rotate_left
    · exact ⟨rfl, .inr ⟨by have := HLN.out; (try simp at this hgt) <;> omega, rfl, h9, hF.trans hF9⟩⟩
    clear hP hle
    replace hX := hF9.obj hX (by decide) HXB.out
    replace hF := hF.trans hF9
    clear hF9
    replace hP := h9
    have hle := hle9
    clear h9 hle9
    have c0 := obj_cell (i := 0) hX rfl
    have c1 := obj_cell (i := 1) hX rfl
    have c2 := obj_cell (i := 2) hX rfl
    have HE := Lib.hid (show (((((out ++ [40]) ++ (wLet ++ (s.data.toList ++ wEq))) ++ textE a) ++ wIn) ++ textE b') ++ [41] = out ++ L by rw [HT.out]; simp only [List.append_assoc])
    change PR w9 b ((((((out ++ [40]) ++ (wLet ++ (s.data.toList ++ wEq))) ++ textE a) ++ wIn) ++ textE b') ++ [41]) v9 at hP
    rw [HE.out] at hP
    change (((((out ++ [40]) ++ (wLet ++ (s.data.toList ++ wEq))) ++ textE a) ++ wIn) ++ textE b').length + [(41 : UInt8)].length ≤ 4096 at hle
    rw [← List.length_append, HE.out, List.length_append] at hle
    go_wp2_with fail
    go_end0
    exact .inl ⟨hle, rfl, ⟨_, hP⟩, hF⟩
theorem expr_w : ∀ h, ExprW h := by
  intro h
  induction h with
  | zero => intro x hx; omega
  | succ h ih =>
    intro x hx hw hs W S v b out vo sum hS hr hP hl
    cases x with
    | mk k s ks =>
      have hp := part_kind (wf_mk hw).1
      obtain rfl | rfl | rfl | rfl | rfl : k = 1 ∨ k = 2 ∨ k = 3 ∨ k = 4 ∨ k = 5 := by omega
      all_goals cases sum
      · exact expr_1f h ih s ks hx hw hs W S v b out vo hS hr hP hl
      · exact expr_1t h ih s ks hx hw hs W S v b out vo hS hr hP hl
      · exact expr_2f h ih s ks hx hw hs W S v b out vo hS hr hP hl
      · exact expr_2t h ih s ks hx hw hs W S v b out vo hS hr hP hl
      · exact expr_3f h ih s ks hx hw hs W S v b out vo hS hr hP hl
      · exact expr_3t h ih s ks hx hw hs W S v b out vo hS hr hP hl
      · exact expr_4f h ih s ks hx hw hs W S v b out vo hS hr hP hl
      · exact expr_4t h ih s ks hx hw hs W S v b out vo hS hr hP hl
      · exact expr_5f h ih s ks hx hw hs W S v b out vo hS hr hP hl
      · exact expr_5t h ih s ks hx hw hs W S v b out vo hS hr hP hl
theorem pexpr_any {x : E} (hw : Wf x) (hs : sizeW x ≤ 20000) (W : World) (S : Nat → Prop) (v : Value) (b : Nat) (out : List UInt8) (vo : Value) (hS : ∀ k, S k → k < b) (hr : RepX W S x v) (hP : PR W b out vo) (hl : out.length ≤ 4096) :
    Calls Try.prog 40 #[.pointer (some ⟨b, 0, none⟩), v, .bool false] W fun e W' => PP W b out (textE x) e W' := expr_w _ x (Nat.lt_succ_self _) hw hs W S v b out vo false hS hr hP hl
end Rc
end Go.Proofs.Ytcigggffaofkhaa
