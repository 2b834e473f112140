/-
  Plain: what a build can be (layer 18), and how a build lies in memory.
-/
import Derived.Test.YtbhngjhfeejeiaaGreatDoorNm
import Derived.Test.YtbhngjhfeejeiaaGreatDoorMx
import Derived.Test.YtbhngjhfeejeiaaGreatDoorVs
namespace Go.Proofs.YtbhngjhfeejeiaaGreatDoor
open Go.RowKit
namespace Dv

structure D where
  name : ByteArray
  a : Int
  b : Int
  c : Int
  tool : ByteArray
  ins : List (ByteArray × ByteArray)
def less (a b : ByteArray) : Bool := Op.bytesLess a.toList b.toList
theorem bless_tot : ∀ x y : List UInt8, (Op.bytesLess x y || x == y) = !Op.bytesLess y x
  | [], [] => by decide
  | [], y :: ys => by simp [Op.bytesLess]
  | x :: xs, [] => by simp [Op.bytesLess]
  | x :: xs, y :: ys => by
    have ih := bless_tot xs ys
    by_cases h1 : x < y
    · have h2 : ¬ y < x := fun h => by rw [UInt8.lt_iff_toNat_lt] at h h1; omega
      have h3 : x ≠ y := fun e => by subst e; exact h2 h1
      simp [Op.bytesLess, h1, h2, Ne.symm h3]
    · by_cases h2 : y < x
      · have h3 : x ≠ y := fun e => by subst e; exact h1 h2
        simp [Op.bytesLess, h1, h2, h3]
      · have h3 : x = y := UInt8.toNat_inj.1 (by rw [UInt8.lt_iff_toNat_lt] at h1 h2; omega)
        subst h3
        simpa [Op.bytesLess, h1] using ih
/-- input i can stand where it stands -/
def okI (ins : List (ByteArray × ByteArray)) (i : Nat) : Bool := match ins[i]? with
  | none => true
  | some x => Nm.nameL x.1.data.toList && Mx.kok x.2.data.toList && (decide (i = 0) || match ins[i - 1]? with
    | none => true
    | some y => less y.1 x.1)
def okIns (ins : List (ByteArray × ByteArray)) : Bool := (List.range ins.length).all (okI ins)
def goodD (d : D) : Bool := Mx.kok d.tool.data.toList && Nm.nameL d.name.data.toList && Vs.goodB d.a d.b d.c && decide (d.ins.length ≤ 40) && okIns d.ins
theorem okIns_bad {ins : List (ByteArray × ByteArray)} {k : Nat} (hk : k < ins.length) (h : okI ins k = false) : okIns ins = false := by
  cases ha : okIns ins
  · rfl
  · have := List.all_eq_true.1 ha k (List.mem_range.2 hk)
    rw [h] at this
    cases this
theorem okIns_good {ins : List (ByteArray × ByteArray)} (h : ∀ k, k < ins.length → okI ins k = true) : okIns ins = true :=
  List.all_eq_true.2 fun k hk => h k (List.mem_range.1 hk)
theorem okI_key {ins : List (ByteArray × ByteArray)} {k : Nat} {x : ByteArray × ByteArray} (hx : ins[k]? = some x) (h : Mx.kok x.2.data.toList = false) : okI ins k = false := by simp [okI, hx, h]
theorem okI_name {ins : List (ByteArray × ByteArray)} {k : Nat} {x : ByteArray × ByteArray} (hx : ins[k]? = some x) (h : Nm.nameL x.1.data.toList = false) : okI ins k = false := by simp [okI, hx, h]
theorem okI_zero {ins : List (ByteArray × ByteArray)} {x : ByteArray × ByteArray} (hx : ins[0]? = some x) (h1 : Mx.kok x.2.data.toList = true) (h2 : Nm.nameL x.1.data.toList = true) : okI ins 0 = true := by simp [okI, hx, h1, h2]
theorem okI_next {ins : List (ByteArray × ByteArray)} {k : Nat} {x y : ByteArray × ByteArray} (hk : k ≠ 0) (hx : ins[k]? = some x) (hy : ins[k - 1]? = some y) (h1 : Mx.kok x.2.data.toList = true) (h2 : Nm.nameL x.1.data.toList = true) : okI ins k = less y.1 x.1 := by simp [okI, hx, h1, h2, hy, hk]

/-- a slice of inputs -/
def SI (W : World) (v : Value) (ins : List (ByteArray × ByteArray)) : Prop := ∃ sl cap, v = .slice sl ins.length cap ∧ ins.length ≤ 9223372036854775807 ∧ ∀ (i : Nat) (x : ByteArray × ByteArray), ins[i]? = some x → ∃ b o, sl = some ⟨b, o, none⟩ ∧ b < W.heap.size ∧ W.cell? ⟨b, o + i * 2, none⟩ = some (.string x.1) ∧ W.cell? ⟨b, o + i * 2 + 1, none⟩ = some (.string x.2)
theorem SI.below {W W' : World} {v : Value} {ins : List (ByteArray × ByteArray)} (h : SI W v ins) (hb : Below W.heap.size W W') : SI W' v ins := by
  obtain ⟨sl, cap, rfl, hl, hc⟩ := h
  refine ⟨sl, cap, rfl, hl, fun i x hx => ?_⟩
  obtain ⟨b, o, e, hlt, h1, h2⟩ := hc i x hx
  exact ⟨b, o, e, Nat.lt_of_lt_of_le hlt hb.size, (hb.cell (p := ⟨b, _, none⟩) hlt).trans h1, (hb.cell (p := ⟨b, _, none⟩) hlt).trans h2⟩
abbrev DV (d : D) (v : Value) : Value := .agg #[.string d.name, .int .i64 d.a, .int .i64 d.b, .int .i64 d.c, .string d.tool, v]
abbrev DO (d : D) (v : Value) : Obj := .cells #[.string d.name, .int .i64 d.a, .int .i64 d.b, .int .i64 d.c, .string d.tool, v] 29
/-- block o holds a build -/
structure DC (W : World) (o : Nat) (d : D) (v : Value) : Prop where
  lt : o < W.heap.size
  c0 : W.cell? ⟨o, 0, none⟩ = some (.string d.name)
  c1 : W.cell? ⟨o, 1, none⟩ = some (.int .i64 d.a)
  c2 : W.cell? ⟨o, 2, none⟩ = some (.int .i64 d.b)
  c3 : W.cell? ⟨o, 3, none⟩ = some (.int .i64 d.c)
  c4 : W.cell? ⟨o, 4, none⟩ = some (.string d.tool)
  c5 : W.cell? ⟨o, 5, none⟩ = some v
theorem DC.new (W : World) (d : D) (v : Value) : DC (W.alloc (DO d v)) W.heap.size d v := by
  refine ⟨by simp, ?_, ?_, ?_, ?_, ?_, ?_⟩
  all_goals go_simp
theorem DC.below {W W' : World} {o : Nat} {d : D} {v : Value} (h : DC W o d v) (hb : Below W.heap.size W W') : DC W' o d v := by
  obtain ⟨hc, -⟩ := Sx.bcell hb
  exact ⟨Nat.lt_of_lt_of_le h.lt hb.size, (hc _ _ h.lt).trans h.c0, (hc _ _ h.lt).trans h.c1, (hc _ _ h.lt).trans h.c2, (hc _ _ h.lt).trans h.c3, (hc _ _ h.lt).trans h.c4, (hc _ _ h.lt).trans h.c5⟩
theorem kv_t {l : List UInt8} (h : Mx.kok l = true) : Mx.KV l = .tuple #[.int .u64 (Mx.kv l : Nat), .bool true] := by unfold Mx.KV; rw [if_pos h]
theorem kv_f {l : List UInt8} (h : Mx.kok l = false) : Mx.KV l = .tuple #[.int .u64 0, .bool false] := by unfold Mx.KV; rw [h]; rfl
theorem trans' {A W W' : World} (h : Below A.heap.size A W) (hb : Below W.heap.size W W') : Below A.heap.size A W' := h.trans (hb.mono h.size)
end Dv
end Go.Proofs.YtbhngjhfeejeiaaGreatDoor
