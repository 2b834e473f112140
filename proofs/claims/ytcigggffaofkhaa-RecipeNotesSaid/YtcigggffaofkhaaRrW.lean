/-
  The law RecipeParses.
-/
import Derived.Test.YtcigggffaofkhaaRrV
namespace Go.Proofs.Ytcigggffaofkhaa
open Go.RowKit
namespace Rc

abbrev src0 : Src := ⟨.mk 0 ⟨#[]⟩ [], .mk 0 ⟨#[]⟩ [], []⟩
/-- what comes out, as three values -/
def outT : Out → Src × Int × Int
  | .ok x => (x, 0, 0)
  | .bad p f => (src0, p, f)
theorem rep_zero (W : World) (S : Nat → Prop) : RepR W S src0 (.agg zeroS) :=
  ⟨_, _, _, _, _, _, _, _, _, _, none, 0, 0, rfl, RepX.leaf _ _ _ _, RepX.leaf _ _ _ _, ⟨rfl, fun i t ht => by simp at ht⟩, Nat.le_refl _⟩
theorem few_zero : FewS src0 := ⟨few_leaf _ _, few_leaf _ _, by simp, fun f hf => by simp at hf⟩
theorem RepR.keep {W W' : World} {S : Nat → Prop} {x : Src} {v : Value} (hr : RepR W S x v) (hS : ∀ b, S b → b < W.heap.size) (hb : Below W.heap.size W W') : RepR W' S x v := hr.move fun b h => ⟨h, hb.block b (hS b h)⟩
/-- an answer of Parse -/
structure PT (W : World) (o : Out) (e : Ending) (W' : World) (k1 : Int) (σ1 : ByteArray) (sl1 : Option Addr) (n1 c1 : Nat) (k2 : Int) (σ2 : ByteArray) (sl2 : Option Addr) (n2 c2 : Nat) (sl : Option Addr) (n c : Nat) : Prop where
  below : Below W.heap.size W W'
  end_ : e = .returned (.tuple #[.agg #[.int .i64 k1, .string σ1, .slice sl1 n1 c1, .int .i64 k2, .string σ2, .slice sl2 n2 c2, .slice sl n c], .int .i64 (outT o).2.1, .int .i64 (outT o).2.2])
  rep : RepR W' (fun j => W.heap.size ≤ j ∧ j < W'.heap.size) (outT o).1 (.agg #[.int .i64 k1, .string σ1, .slice sl1 n1 c1, .int .i64 k2, .string σ2, .slice sl2 n2 c2, .slice sl n c])
theorem pt_of {W W' : World} {o : Out} {e : Ending} (h : PA W o e W') : ∃ k1 σ1 sl1 n1 c1 k2 σ2 sl2 n2 c2 sl n c, PT W o e W' k1 σ1 sl1 n1 c1 k2 σ2 sl2 n2 c2 sl n c := by
  obtain ⟨hb, h⟩ := h
  cases o with
  | ok x =>
    obtain ⟨v, rfl, hr⟩ := h
    obtain ⟨k1, σ1, sl1, n1, c1, k2, σ2, sl2, n2, c2, sl, n, c, rfl, r⟩ := id hr
    exact ⟨_, _, _, _, _, _, _, _, _, _, _, _, _, hb, rfl, hr⟩
  | bad p f =>
    subst h
    exact ⟨_, _, _, _, _, _, _, _, _, _, _, _, _, hb, rfl, rep_zero _ _⟩
theorem out_few {s : List UInt8} : FewS (outT (parseP s)).1 := by
  cases h : parseP s with
  | ok x => exact parse_few h
  | bad p f => exact few_zero
set_option maxHeartbeats 1000000 in
set_option maxRecDepth 100000 in
theorem parseslaw_any (s : ByteArray) (W : World) : Calls Try.prog 4 #[.string s] W fun e W' => e = .returned (.bool true) ∧ Below W.heap.size W W' := by
  have h1 := alive_any W
  by_cases hs : s.size ≤ 8192
  · have k1 : decide ((8192 : Int) < s.size) = false := by simp; omega
    have h2 := fun w => parse_any s w
    have h3 := fun w => rparse_any s w
    have hfew := out_few (s := s.data.toList)
    generalize parseP s.data.toList = o at *
    clear hs
    go_enter Try.func4, Try.ntmps4
    go_wp2_with fail
    refine h1.mono ?_
    rintro e w1 ⟨rfl, hb1⟩
    have h2 := h2 w1
    clear h1
    go_wp2_with fail
    refine h2.mono ?_
    intro e w2 hpa
    obtain ⟨k1, σ1, sl1, n1, c1, k2, σ2, sl2, n2, c2, sl, n, c, hb2, rfl, hr⟩ := pt_of hpa
    have h3 := h3 (w2.alloc (.cells #[.int .i64 k1, .string σ1, .slice sl1 n1 c1, .int .i64 k2, .string σ2, .slice sl2 n2 c2, .slice sl n c] 29))
    have hV := VC.made w2 [.int .i64 k1, .string σ1, .slice sl1 n1 c1, .int .i64 k2, .string σ2, .slice sl2 n2 c2, .slice sl n c] 29
    have hA : Below w2.heap.size w2 (w2.alloc (.cells #[.int .i64 k1, .string σ1, .slice sl1 n1 c1, .int .i64 k2, .string σ2, .slice sl2 n2 c2, .slice sl n c] 29)) := (Below.refl _ _).alloc (Nat.le_refl _) _
    have HR := Lib.hid hr
    have HV := Lib.hid hV
    have HA := Lib.hid hA
    have HB := Lib.hid (hb1.trans (hb2.mono hb1.size))
    clear h2 hpa hb1 hb2 hr hV hA
    go_wp2_with fail
    refine h3.mono ?_
    intro e w3 hpa
    obtain ⟨k1', σ1', sl1', n1', c1', k2', σ2', sl2', n2', c2', sl', n', c', hb3, rfl, hr⟩ := pt_of hpa
    have hA3 := HA.out.trans (hb3.mono HA.out.size)
    have hA4 : Below w3.heap.size w3 (w3.alloc (.cells #[.int .i64 k1', .string σ1', .slice sl1' n1' c1', .int .i64 k2', .string σ2', .slice sl2' n2' c2', .slice sl' n' c'] 29)) := (Below.refl _ _).alloc (Nat.le_refl _) _
    have hV := (HV.out.keep hb3).keep hA4
    have a0 := hV.cs 0 _ rfl
    have a1 := hV.cs 1 _ rfl
    have a2 := hV.cs 2 _ rfl
    have a3 := hV.cs 3 _ rfl
    have a4 := hV.cs 4 _ rfl
    have a5 := hV.cs 5 _ rfl
    have a6 := hV.cs 6 _ rfl
    have hc := rsames_any hfew (w3.alloc (.cells #[.int .i64 k1', .string σ1', .slice sl1' n1' c1', .int .i64 k2', .string σ2', .slice sl2' n2' c2', .slice sl' n' c'] 29)) _ _ _ _ (fun b hb => Nat.lt_of_lt_of_le hb.2 (hA3.trans (hA4.mono hA3.size)).size) (fun b hb => Nat.lt_of_lt_of_le hb.2 hA4.size) (HR.out.keep (fun b hb => hb.2) (hA3.trans (hA4.mono hA3.size))) (hr.keep (fun b hb => hb.2) hA4)
    have HB := Lib.hid ((HB.out.trans (hA3.mono HB.out.size)).trans (hA4.mono (Nat.le_trans HB.out.size hA3.size)))
    clear h3 hpa hr hV hA3 hA4 hb3 HR HV HA
    go_wp2_with fail
    refine hc.mono ?_
    rintro e w4 ⟨rfl, hb4⟩
    have HB := Lib.hid (HB.out.trans (hb4.mono HB.out.size))
    clear hc hb4 a0 a1 a2 a3 a4 a5 a6
    go_wp2_with fail
    go_ret
    exact ⟨rfl, HB.out⟩
  · have k1 : decide ((8192 : Int) < s.size) = true := by simp; omega
    clear hs
    go_enter Try.func4, Try.ntmps4
    go_wp2_with fail
    refine h1.mono ?_
    rintro e w1 ⟨rfl, hb1⟩
    clear h1
    go_wp2_with fail
    go_ret
    exact ⟨rfl, hb1⟩
end Rc
end Go.Proofs.Ytcigggffaofkhaa
