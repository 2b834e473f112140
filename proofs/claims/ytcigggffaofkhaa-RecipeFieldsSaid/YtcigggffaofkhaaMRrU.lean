/-
  What is read has few kids; 'alive'; the laws RecipeNames and RecipeParses.
-/
import Derived.Test.YtcigggffaofkhaaMRrS
import Derived.Test.YtcigggffaofkhaaMRrM
namespace Go.Proofs.Ytcigggffaofkhaa
open Go.RowKit
namespace Rc

def FewF (f : Tk → Res E) : Prop := ∀ t x t', f t = .ok x t' → Few x
theorem sum_few {s : List UInt8} {f : Tk → Res E} (hf : FewF f) : ∀ (m : Nat) (t : Tk) (acc l : List E) (t' : Tk), sumP s f m t acc = .ok l t' → (∀ x ∈ acc, Few x) → (∀ x ∈ l, Few x) ∧ l.length ≤ acc.length + m
  | 0, t, acc, l, t', h, _ => by cases h
  | m + 1, t, acc, l, t', h, ha => by
    unfold sumP at h
    split at h
    · obtain ⟨_, t1, h1, h⟩ := bind_ok h
      obtain ⟨y, t2, h2, h⟩ := bind_ok h
      have := sum_few hf m t2 _ l t' h (fun x hx => by
        rw [List.mem_append, List.mem_singleton] at hx
        rcases hx with hx | rfl
        · exact ha x hx
        · exact hf _ _ _ h2)
      refine ⟨this.1, ?_⟩
      have h3 := this.2
      simp at h3
      omega
    · cases h
      exact ⟨ha, by omega⟩
theorem expr_few {s : List UInt8} {f : Tk → Res E} (hs : s.length ≤ 4096) (hf : FewF f) : FewF (exprP s f) := by
  intro t x t' h
  unfold exprP at h
  obtain ⟨y, t1, h1, h⟩ := bind_ok h
  obtain ⟨l, t2, h2, h⟩ := bind_ok h
  simp only [Res.ok.injEq] at h
  obtain ⟨rfl, rfl⟩ := h
  have hy := hf _ _ _ h1
  have hl := sum_few hf _ _ _ _ _ h2 (fun x hx => by simp at hx)
  have hl2 := hl.2
  simp only [List.length_nil] at hl2
  unfold catE
  split
  · exact hy
  · refine .mk 3 _ _ (by simp only [List.length_cons]; omega) (fun x hx => ?_)
    rw [List.mem_cons] at hx
    rcases hx with rfl | hx
    · exact hy
    · exact hl.1 x hx
theorem few_leaf (k : Int) (s : ByteArray) : Few (.mk k s []) := .mk k s [] (by simp) (fun x hx => by simp at hx)
theorem term_few {s : List UInt8} (hs : s.length ≤ 4096) : ∀ h, FewF (termP s h)
  | 0, t, x, t', h => by
    unfold termP at h
    split at h <;> cases h
  | n + 1, t, x, t', h => by
    have ih := expr_few (s := s) hs (term_few hs n)
    unfold termP at h
    split at h
    · cases h
    · obtain ⟨_, t1, h1, h⟩ := bind_ok h
      split at h
      · cases h; exact few_leaf _ _
      · split at h
        · obtain ⟨x1, t2, h2, h⟩ := bind_ok h
          obtain ⟨_, t3, h3, h⟩ := bind_ok h
          cases h
          exact ih _ _ _ h2
        · split at h
          · obtain ⟨x1, t2, h2, h⟩ := bind_ok h
            obtain ⟨_, t3, h3, h⟩ := bind_ok h
            obtain ⟨x2, t4, h4, h⟩ := bind_ok h
            obtain ⟨_, t5, h5, h⟩ := bind_ok h
            obtain ⟨x3, t6, h6, h⟩ := bind_ok h
            obtain ⟨_, t7, h7, h⟩ := bind_ok h
            obtain ⟨x4, t8, h8, h⟩ := bind_ok h
            cases h
            refine .mk _ _ _ (by simp) (fun x hx => ?_)
            simp only [List.mem_cons, List.not_mem_nil, or_false] at hx
            rcases hx with rfl | rfl | rfl | rfl
            · exact ih _ _ _ h2
            · exact ih _ _ _ h4
            · exact ih _ _ _ h6
            · exact ih _ _ _ h8
          · split at h
            · split at h
              · obtain ⟨_, t2, h2, h⟩ := bind_ok h
                obtain ⟨_, t3, h3, h⟩ := bind_ok h
                obtain ⟨x1, t4, h4, h⟩ := bind_ok h
                obtain ⟨_, t5, h5, h⟩ := bind_ok h
                obtain ⟨x2, t6, h6, h⟩ := bind_ok h
                cases h
                refine .mk _ _ _ (by simp) (fun x hx => ?_)
                simp only [List.mem_cons, List.not_mem_nil, or_false] at hx
                rcases hx with rfl | rfl
                · exact ih _ _ _ h4
                · exact ih _ _ _ h6
              · cases h
            · cases h; exact few_leaf _ _
theorem fields_few {s : List UInt8} {f : Tk → Res E} (hf : FewF f) : ∀ (m : Nat) (t : Tk) (acc l : List (Int × E × E)) (t' : Tk), fieldsP s f m t acc = .ok l t' → acc.length ≤ 20 → (∀ x ∈ acc, Few x.2.1 ∧ Few x.2.2) → (∀ x ∈ l, Few x.2.1 ∧ Few x.2.2) ∧ l.length ≤ 20
  | 0, t, acc, l, t', h, _, _ => by cases h
  | m + 1, t, acc, l, t', h, hn, ha => by
    unfold fieldsP at h
    split at h
    · cases h
      exact ⟨ha, hn⟩
    · split at h
      · cases h
      · split at h
        · cases h
        · obtain ⟨_, t1, h1, h⟩ := bind_ok h
          obtain ⟨a, t2, h2, h⟩ := bind_ok h
          obtain ⟨b, t3, h3, h⟩ := bind_ok h
          refine fields_few hf m t3 _ l t' h (by simp; omega) (fun x hx => ?_)
          rw [List.mem_append, List.mem_singleton] at hx
          rcases hx with hx | rfl
          · exact ha x hx
          · exact ⟨hf _ _ _ h2, hf _ _ _ h3⟩
theorem parse_few {s : List UInt8} {x : Src} (h : parseP s = .ok x) : FewS x := by
  unfold parseP at h
  split at h
  · cases h
  · rename_i hs
    have hs : s.length ≤ 4096 := by omega
    have hf := expr_few hs (term_few hs 32)
    cases hr : sourceP s with
    | bad p e => rw [hr] at h; cases h
    | ok y t =>
      rw [hr] at h
      simp only [Out.ok.injEq] at h
      subst h
      rw [source_eq] at hr
      obtain ⟨_, t0, _, hr⟩ := bind_ok hr
      obtain ⟨_, t1, _, hr⟩ := bind_ok hr
      obtain ⟨a, t2, h2, hr⟩ := bind_ok hr
      obtain ⟨_, t3, _, hr⟩ := bind_ok hr
      obtain ⟨b, t4, h4, hr⟩ := bind_ok hr
      obtain ⟨l, t5, h5, hr⟩ := bind_ok hr
      simp only [Res.ok.injEq] at hr
      obtain ⟨rfl, rfl⟩ := hr
      have := fields_few hf _ _ _ _ _ h5 (by simp) (fun x hx => by simp at hx)
      exact ⟨hf _ _ _ h2, hf _ _ _ h4, by have := this.2; show l.length ≤ _; omega, this.1⟩

/-! the recipes that the document tells -/
abbrev doc1 : ByteArray := ⟨#[112, 97, 99, 107, 97, 103, 101, 32, 34, 97, 34, 32, 118, 101, 114, 115, 105, 111, 110, 32, 34, 49, 46, 48, 46, 34, 32, 43, 32, 34, 48, 34, 32, 116, 111, 111, 108, 32, 34, 99, 99, 34, 32, 34, 42, 34]⟩
abbrev doc2 : ByteArray := ⟨#[112, 97, 99, 107, 97, 103, 101, 32, 97, 32, 118, 101, 114, 115, 105, 111, 110]⟩
abbrev src1 : Src := ⟨.mk 1 ⟨#[97]⟩ [], .mk 3 ⟨#[]⟩ [.mk 1 ⟨#[49, 46, 48, 46]⟩ [], .mk 1 ⟨#[48]⟩ []], [(1, .mk 1 ⟨#[99, 99]⟩ [], .mk 1 ⟨#[42]⟩ [])]⟩
theorem parse1 : parseP doc1.data.toList = .ok src1 := by kernel_rfl
theorem parse2 : parseP doc2.data.toList = .bad 17 50 := by kernel_rfl
end Rc
end Go.Proofs.Ytcigggffaofkhaa

/-
  'alive'; the laws RecipeNames and RecipeParses.
-/
namespace Go.Proofs.Ytcigggffaofkhaa
open Go.RowKit
namespace Rc

theorem repX_head {W : World} {S : Nat → Prop} {k : Int} {s : ByteArray} {ks : List E} {k' : Int} {s' : ByteArray} {sl : Option Addr} {n c : Nat} (h : RepX W S (.mk k s ks) (.agg #[.int .i64 k', .string s', .slice sl n c])) : k' = k ∧ s' = s ∧ n = ks.length := by
  cases h
  exact ⟨rfl, rfl, rfl⟩
set_option maxHeartbeats 1000000 in
set_option maxRecDepth 100000 in
theorem alive_any (W : World) : Calls Try.prog 9 #[] W fun e W' => e = .returned (.bool true) ∧ Below W.heap.size W W' := by
  have h1 := parse_any doc1 W
  rw [parse1] at h1
  have h2 := fun w => parse_any doc2 w
  rw [parse2] at h2
  go_enter Try.func9, Try.ntmps9
  go_wp2_with fail
  refine h1.mono ?_
  rintro e w1 ⟨hb1, v, rfl, k1, σ1, sl1, n1, c1, k2, σ2, sl2, n2, c2, sl, n, c, rfl, r1, r2, rf, -⟩
  obtain ⟨rfl, rfl, -⟩ := repX_head r1
  obtain ⟨rfl, rfl, -⟩ := repX_head r2
  obtain rfl : n = 1 := rf.1
  clear r1 r2 rf h1
  have hV := VC.made w1 [.int .i64 1, .string ⟨#[97]⟩, .slice sl1 n1 c1, .int .i64 3, .string ⟨#[]⟩, .slice sl2 n2 c2, .slice sl 1 c] 29
  change VC (w1.alloc (.cells #[.int .i64 1, .string ⟨#[97]⟩, .slice sl1 n1 c1, .int .i64 3, .string ⟨#[]⟩, .slice sl2 n2 c2, .slice sl 1 c] 29)) _ _ at hV
  have hB := hb1.alloc hb1.size (.cells #[.int .i64 1, .string ⟨#[97]⟩, .slice sl1 n1 c1, .int .i64 3, .string ⟨#[]⟩, .slice sl2 n2 c2, .slice sl 1 c] 29)
  have h3 := h2 (w1.alloc (.cells #[.int .i64 1, .string ⟨#[97]⟩, .slice sl1 n1 c1, .int .i64 3, .string ⟨#[]⟩, .slice sl2 n2 c2, .slice sl 1 c] 29))
  have HV := Lib.hid hV
  have HB := Lib.hid hB
  clear h2 hV hB hb1
  go_wp2_with fail
  refine h3.mono ?_
  rintro e w2 ⟨hb2, rfl⟩
  have hV := HV.out.keep (hb2.alloc hb2.size (.cells zeroS 29))
  have HB := Lib.hid (HB.out.trans ((hb2.alloc hb2.size (.cells zeroS 29)).mono HB.out.size))
  have a0 := hV.cs 0 _ rfl
  have a1 := hV.cs 1 _ rfl
  have a2 := hV.cs 2 _ rfl
  have a3 := hV.cs 3 _ rfl
  have a4 := hV.cs 4 _ rfl
  have a5 := hV.cs 5 _ rfl
  have a6 := hV.cs 6 _ rfl
  clear h3 hb2 hV HV
  go_wp2_with fail
  go_ret
  exact ⟨rfl, HB.out⟩
theorem nameslaw_any (s : ByteArray) (W : World) : Calls Try.prog 3 #[.string s] W fun e W' => e = .returned (.bool true) ∧ Below W.heap.size W W' := by
  have h1 := alive_any W
  by_cases hs : s.size ≤ 1024
  · have k1 : decide ((1024 : Int) < s.size) = false := by simp; omega
    have h2 := fun w => name_any s w
    have h3 := fun w => rname0_any s w (by omega)
    generalize nameL s.data.toList = q at *
    have HQ := Lib.hid (show (q == q) = true by simp)
    clear hs
    go_enter Try.func3, Try.ntmps3
    go_wp2_with fail
    refine h1.mono ?_
    rintro e w1 ⟨rfl, hb1⟩
    have h2 := h2 w1
    clear h1
    go_wp2_with fail
    refine h2.mono ?_
    rintro e w2 ⟨rfl, hb2⟩
    have h3 := h3 w2
    clear h2
    go_wp2_with fail
    refine h3.mono ?_
    rintro e w3 ⟨rfl, hb3⟩
    have HB := Lib.hid ((hb1.trans (hb2.mono hb1.size)).trans (hb3.mono (Nat.le_trans hb1.size hb2.size)))
    clear h3 hb1 hb2 hb3
    go_wp2_with fail
    go_ret
    exact ⟨by cases q <;> rfl, HB.out⟩
  · have k1 : decide ((1024 : Int) < s.size) = true := by simp; omega
    clear hs
    go_enter Try.func3, Try.ntmps3
    go_wp2_with fail
    refine h1.mono ?_
    rintro e w1 ⟨rfl, hb1⟩
    clear h1
    go_wp2_with fail
    go_ret
    exact ⟨rfl, hb1⟩
end Rc
end Go.Proofs.Ytcigggffaofkhaa

/-
  The law RecipeParses.
-/
namespace Go.Proofs.Ytcigggffaofkhaa
open Go.RowKit
namespace Rc

abbrev src0 : Src := ⟨.mk 0 ⟨#[]⟩ [], .mk 0 ⟨#[]⟩ [], []⟩
/-- what comes out, as three values -/
def outT : Out → Src × Int × Int
  | .ok x => (x, 0, 0)
  | .bad p f => (src0, p, f)
theorem rep_zero (W : World) (S : Nat → Prop) : RepR W S src0 (.agg zeroS) :=
  ⟨_, _, _, _, _, _, _, _, _, _, none, 0, 0, rfl, RepX.leaf _ _ _ _, RepX.leaf _ _ _ _, ⟨rfl, fun i t ht => by simp at ht⟩, Nat.le_refl _⟩
theorem few_zero : FewS src0 := ⟨few_leaf _ _, few_leaf _ _, by simp, fun f hf => by simp at hf⟩
theorem RepR.keep {W W' : World} {S : Nat → Prop} {x : Src} {v : Value} (hr : RepR W S x v) (hS : ∀ b, S b → b < W.heap.size) (hb : Below W.heap.size W W') : RepR W' S x v := hr.move fun b h => ⟨h, hb.block b (hS b h)⟩
/-- an answer of Parse -/
structure PT (W : World) (o : Out) (e : Ending) (W' : World) (k1 : Int) (σ1 : ByteArray) (sl1 : Option Addr) (n1 c1 : Nat) (k2 : Int) (σ2 : ByteArray) (sl2 : Option Addr) (n2 c2 : Nat) (sl : Option Addr) (n c : Nat) : Prop where
  below : Below W.heap.size W W'
  end_ : e = .returned (.tuple #[.agg #[.int .i64 k1, .string σ1, .slice sl1 n1 c1, .int .i64 k2, .string σ2, .slice sl2 n2 c2, .slice sl n c], .int .i64 (outT o).2.1, .int .i64 (outT o).2.2])
  rep : RepR W' (fun j => W.heap.size ≤ j ∧ j < W'.heap.size) (outT o).1 (.agg #[.int .i64 k1, .string σ1, .slice sl1 n1 c1, .int .i64 k2, .string σ2, .slice sl2 n2 c2, .slice sl n c])
theorem pt_of {W W' : World} {o : Out} {e : Ending} (h : PA W o e W') : ∃ k1 σ1 sl1 n1 c1 k2 σ2 sl2 n2 c2 sl n c, PT W o e W' k1 σ1 sl1 n1 c1 k2 σ2 sl2 n2 c2 sl n c := by
  obtain ⟨hb, h⟩ := h
  cases o with
  | ok x =>
    obtain ⟨v, rfl, hr⟩ := h
    obtain ⟨k1, σ1, sl1, n1, c1, k2, σ2, sl2, n2, c2, sl, n, c, rfl, r⟩ := id hr
    exact ⟨_, _, _, _, _, _, _, _, _, _, _, _, _, hb, rfl, hr⟩
  | bad p f =>
    subst h
    exact ⟨_, _, _, _, _, _, _, _, _, _, _, _, _, hb, rfl, rep_zero _ _⟩
theorem out_few {s : List UInt8} : FewS (outT (parseP s)).1 := by
  cases h : parseP s with
  | ok x => exact parse_few h
  | bad p f => exact few_zero
set_option maxHeartbeats 1000000 in
set_option maxRecDepth 100000 in
theorem parseslaw_any (s : ByteArray) (W : World) : Calls Try.prog 4 #[.string s] W fun e W' => e = .returned (.bool true) ∧ Below W.heap.size W W' := by
  have h1 := alive_any W
  by_cases hs : s.size ≤ 8192
  · have k1 : decide ((8192 : Int) < s.size) = false := by simp; omega
    have h2 := fun w => parse_any s w
    have h3 := fun w => rparse_any s w
    have hfew := out_few (s := s.data.toList)
    generalize parseP s.data.toList = o at *
    clear hs
    go_enter Try.func4, Try.ntmps4
    go_wp2_with fail
    refine h1.mono ?_
    rintro e w1 ⟨rfl, hb1⟩
    have h2 := h2 w1
    clear h1
    go_wp2_with fail
    refine h2.mono ?_
    intro e w2 hpa
    obtain ⟨k1, σ1, sl1, n1, c1, k2, σ2, sl2, n2, c2, sl, n, c, hb2, rfl, hr⟩ := pt_of hpa
    have h3 := h3 (w2.alloc (.cells #[.int .i64 k1, .string σ1, .slice sl1 n1 c1, .int .i64 k2, .string σ2, .slice sl2 n2 c2, .slice sl n c] 29))
    have hV := VC.made w2 [.int .i64 k1, .string σ1, .slice sl1 n1 c1, .int .i64 k2, .string σ2, .slice sl2 n2 c2, .slice sl n c] 29
    have hA : Below w2.heap.size w2 (w2.alloc (.cells #[.int .i64 k1, .string σ1, .slice sl1 n1 c1, .int .i64 k2, .string σ2, .slice sl2 n2 c2, .slice sl n c] 29)) := (Below.refl _ _).alloc (Nat.le_refl _) _
    have HR := Lib.hid hr
    have HV := Lib.hid hV
    have HA := Lib.hid hA
    have HB := Lib.hid (hb1.trans (hb2.mono hb1.size))
    clear h2 hpa hb1 hb2 hr hV hA
    go_wp2_with fail
    refine h3.mono ?_
    intro e w3 hpa
    obtain ⟨k1', σ1', sl1', n1', c1', k2', σ2', sl2', n2', c2', sl', n', c', hb3, rfl, hr⟩ := pt_of hpa
    have hA3 := HA.out.trans (hb3.mono HA.out.size)
    have hA4 : Below w3.heap.size w3 (w3.alloc (.cells #[.int .i64 k1', .string σ1', .slice sl1' n1' c1', .int .i64 k2', .string σ2', .slice sl2' n2' c2', .slice sl' n' c'] 29)) := (Below.refl _ _).alloc (Nat.le_refl _) _
    have hV := (HV.out.keep hb3).keep hA4
    have a0 := hV.cs 0 _ rfl
    have a1 := hV.cs 1 _ rfl
    have a2 := hV.cs 2 _ rfl
    have a3 := hV.cs 3 _ rfl
    have a4 := hV.cs 4 _ rfl
    have a5 := hV.cs 5 _ rfl
    have a6 := hV.cs 6 _ rfl
    have hc := rsames_any hfew (w3.alloc (.cells #[.int .i64 k1', .string σ1', .slice sl1' n1' c1', .int .i64 k2', .string σ2', .slice sl2' n2' c2', .slice sl' n' c'] 29)) _ _ _ _ (fun b hb => Nat.lt_of_lt_of_le hb.2 (hA3.trans (hA4.mono hA3.size)).size) (fun b hb => Nat.lt_of_lt_of_le hb.2 hA4.size) (HR.out.keep (fun b hb => hb.2) (hA3.trans (hA4.mono hA3.size))) (hr.keep (fun b hb => hb.2) hA4)
    have HB := Lib.hid ((HB.out.trans (hA3.mono HB.out.size)).trans (hA4.mono (Nat.le_trans HB.out.size hA3.size)))
    clear h3 hpa hr hV hA3 hA4 hb3 HR HV HA
    go_wp2_with fail
    refine hc.mono ?_
    rintro e w4 ⟨rfl, hb4⟩
    have HB := Lib.hid (HB.out.trans (hb4.mono HB.out.size))
    clear hc hb4 a0 a1 a2 a3 a4 a5 a6
    go_wp2_with fail
    go_ret
    exact ⟨rfl, HB.out⟩
  · have k1 : decide ((8192 : Int) < s.size) = true := by simp; omega
    clear hs
    go_enter Try.func4, Try.ntmps4
    go_wp2_with fail
    refine h1.mono ?_
    rintro e w1 ⟨rfl, hb1⟩
    clear h1
    go_wp2_with fail
    go_ret
    exact ⟨rfl, hb1⟩
end Rc
end Go.Proofs.Ytcigggffaofkhaa
