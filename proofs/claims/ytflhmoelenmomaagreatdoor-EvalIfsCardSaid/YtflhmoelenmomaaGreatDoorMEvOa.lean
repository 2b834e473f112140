/-
  Four expressions in an array that came in: as an argument of a law.
-/
import Derived.Test.YtflhmoelenmomaaGreatDoorMRcFin
namespace Go.Proofs.YtflhmoelenmomaaGreatDoor
open Go.RowKit Go.WideShapes Go.ChangeShapes Go.Deep
namespace Ev
open Rc

theorem cells_four : Tryz.prog.cellsOf 56 = 12 := by kernel_rfl
section
variable {H : Type} {enc : TypeId × Value → H} {W : World} {base : Nat} {sp : Nat → Bool} {held : Bool}
set_option maxRecDepth 100000 in
theorem open_four {fuel : Nat} {cs : List Value} {x : DataW H × List MemPlace} (h : DataW.trod enc Tryz.prog W base sp held fuel 56 cs = some x) (hw : ∀ n ∈ x.1.weights Tryz.prog 56, n ≤ reachBytes) :
    ∃ (a b c d : E) (x0 x1 x2 x3 x4 x5 x6 x7 x8 x9 x10 x11 : Value), cs = [x0, x1, x2, x3, x4, x5, x6, x7, x8, x9, x10, x11] ∧ RepX W (fun b => b < W.heap.size) a (.agg #[x0, x1, x2]) ∧ RepX W (fun b => b < W.heap.size) b (.agg #[x3, x4, x5]) ∧
      RepX W (fun b => b < W.heap.size) c (.agg #[x6, x7, x8]) ∧ RepX W (fun b => b < W.heap.size) d (.agg #[x9, x10, x11]) ∧ Sml a ∧ Sml b ∧ Sml c ∧ Sml d := by
  obtain ⟨xs, m, -, rfl, hl, hn, hE⟩ := DataW.trod_array Tryz.underlying56 h
  rw [cells_four] at hl
  rw [cells_expr] at hE
  match cs, hl with
  | [x0, x1, x2, x3, x4, x5, x6, x7, x8, x9, x10, x11], _ =>
    match xs, hn with
    | [y0, y1, y2, y3], _ =>
      simp only [List.map_cons, List.map_nil, DataW.weights, Tryz.underlying56] at hw
      have h0 := hE 0 (by decide)
      have h1 := hE 1 (by decide)
      have h2 := hE 2 (by decide)
      have h3 := hE 3 (by decide)
      simp only [Nat.zero_mul, Nat.one_mul, List.drop_zero, List.drop_succ_cons, List.take_succ_cons, List.take_zero, List.getElem?_cons_zero, List.getElem?_cons_succ, Nat.reduceMul] at h0 h1 h2 h3
      have hm : ∀ (y : DataW H × List MemPlace), y ∈ [y0, y1, y2, y3] → ∀ n ∈ y.1.weights Tryz.prog 24, n ≤ reachBytes := fun y hy n hn => hw n (weightsAll_mem (by
        have := List.mem_map_of_mem (f := Prod.fst) hy
        simpa using this) hn)
      obtain ⟨a, p0, p1, p2, ea, ra, sa⟩ := open_expr m _ _ h0 (hm y0 (by simp))
      obtain ⟨b, q0, q1, q2, eb, rb, sb⟩ := open_expr m _ _ h1 (hm y1 (by simp))
      obtain ⟨c, r0, r1, r2, ec, rc, sc⟩ := open_expr m _ _ h2 (hm y2 (by simp))
      obtain ⟨d, t0, t1, t2, ed, rd, sd⟩ := open_expr m _ _ h3 (hm y3 (by simp))
      simp only [List.cons.injEq, and_true] at ea eb ec ed
      obtain ⟨rfl, rfl, rfl⟩ := ea
      obtain ⟨rfl, rfl, rfl⟩ := eb
      obtain ⟨rfl, rfl, rfl⟩ := ec
      obtain ⟨rfl, rfl, rfl⟩ := ed
      exact ⟨a, b, c, d, _, _, _, _, _, _, _, _, _, _, _, _, rfl, ra, rb, rc, rd, sa, sb, sc, sd⟩
theorem vals_eq {x : E} {S : Nat → Prop} {u0 u1 u2 : Value} (hr : RepX W S x (.agg #[u0, u1, u2])) : ∃ k s sl n m, u0 = .int .i64 k ∧ u1 = .string s ∧ u2 = .slice sl n m := by
  obtain ⟨k, s, sl, n, m, e⟩ := hr.vals
  have e1 := congrArg (fun v => match v with | .agg a => a.toList | _ => []) e
  simp at e1
  exact ⟨k, s, sl, n, m, e1.1, e1.2.1, e1.2.2⟩
set_option maxRecDepth 100000 in
theorem open_arr {r : Reach} {b0 : Nat} {v : Value} {d : DataW H} {q : List MemPlace} (hv : Value.okWide Tryz.prog W r b0 56 v)
    (h : DataW.Trod enc Tryz.prog W base sp held 56 v d q) (hw : ∀ n ∈ d.weights Tryz.prog 56, n ≤ reachBytes) :
    ∃ (a b c d : E) (k1 k2 k3 k4 : Int) (s1 s2 s3 s4 : ByteArray) (l1 l2 l3 l4 : Option Addr) (n1 n2 n3 n4 m1 m2 m3 m4 : Nat), v = .agg #[.int .i64 k1, .string s1, .slice l1 n1 m1, .int .i64 k2, .string s2, .slice l2 n2 m2, .int .i64 k3, .string s3, .slice l3 n3 m3, .int .i64 k4, .string s4, .slice l4 n4 m4] ∧ (Sml a ∧ Sml b ∧ Sml c ∧ Sml d) ∧ RepX W (fun b => b < W.heap.size) a (.agg #[.int .i64 k1, .string s1, .slice l1 n1 m1]) ∧ RepX W (fun b => b < W.heap.size) b (.agg #[.int .i64 k2, .string s2, .slice l2 n2 m2]) ∧ RepX W (fun b => b < W.heap.size) c (.agg #[.int .i64 k3, .string s3, .slice l3 n3 m3]) ∧ RepX W (fun b => b < W.heap.size) d (.agg #[.int .i64 k4, .string s4, .slice l4 n4 m4]) := by
  have hs := Tryz.underlying56
  simp only [Value.okWide, hs] at hv
  obtain ⟨cs, rfl, -⟩ := hv
  obtain ⟨l⟩ := cs
  obtain ⟨fuel, hf⟩ := h
  obtain ⟨a, b, c, d, x0, x1, x2, x3, x4, x5, x6, x7, x8, x9, x10, x11, e, ra, rb, rc, rd, sa, sb, sc, sd⟩ := open_four (by simpa [Value.cells] using hf) hw
  subst e
  obtain ⟨k1, s1, l1, n1, m1, rfl, rfl, rfl⟩ := vals_eq ra
  obtain ⟨k2, s2, l2, n2, m2, rfl, rfl, rfl⟩ := vals_eq rb
  obtain ⟨k3, s3, l3, n3, m3, rfl, rfl, rfl⟩ := vals_eq rc
  obtain ⟨k4, s4, l4, n4, m4, rfl, rfl, rfl⟩ := vals_eq rd
  exact ⟨a, b, c, d, k1, k2, k3, k4, s1, s2, s3, s4, l1, l2, l3, l4, n1, n2, n3, n4, m1, m2, m3, m4, rfl, ⟨sa, sb, sc, sd⟩, ra, rb, rc, rd⟩
end
end Ev
end Go.Proofs.YtflhmoelenmomaaGreatDoor
