/-
  'alive'; the laws RecipeNames and RecipeParses.
-/
import Derived.Test.YtcigggffaofkhaaRrU
namespace Go.Proofs.Ytcigggffaofkhaa
open Go.RowKit
namespace Rc

theorem repX_head {W : World} {S : Nat → Prop} {k : Int} {s : ByteArray} {ks : List E} {k' : Int} {s' : ByteArray} {sl : Option Addr} {n c : Nat} (h : RepX W S (.mk k s ks) (.agg #[.int .i64 k', .string s', .slice sl n c])) : k' = k ∧ s' = s ∧ n = ks.length := by
  cases h
  exact ⟨rfl, rfl, rfl⟩
set_option maxHeartbeats 1000000 in
set_option maxRecDepth 100000 in
theorem alive_any (W : World) : Calls Try.prog 9 #[] W fun e W' => e = .returned (.bool true) ∧ Below W.heap.size W W' := by
  have h1 := parse_any doc1 W
  rw [parse1] at h1
  have h2 := fun w => parse_any doc2 w
  rw [parse2] at h2
  go_enter Try.func9, Try.ntmps9
  go_wp2_with fail
  refine h1.mono ?_
  rintro e w1 ⟨hb1, v, rfl, k1, σ1, sl1, n1, c1, k2, σ2, sl2, n2, c2, sl, n, c, rfl, r1, r2, rf, -⟩
  obtain ⟨rfl, rfl, -⟩ := repX_head r1
  obtain ⟨rfl, rfl, -⟩ := repX_head r2
  obtain rfl : n = 1 := rf.1
  clear r1 r2 rf h1
  have hV := VC.made w1 [.int .i64 1, .string ⟨#[97]⟩, .slice sl1 n1 c1, .int .i64 3, .string ⟨#[]⟩, .slice sl2 n2 c2, .slice sl 1 c] 29
  change VC (w1.alloc (.cells #[.int .i64 1, .string ⟨#[97]⟩, .slice sl1 n1 c1, .int .i64 3, .string ⟨#[]⟩, .slice sl2 n2 c2, .slice sl 1 c] 29)) _ _ at hV
  have hB := hb1.alloc hb1.size (.cells #[.int .i64 1, .string ⟨#[97]⟩, .slice sl1 n1 c1, .int .i64 3, .string ⟨#[]⟩, .slice sl2 n2 c2, .slice sl 1 c] 29)
  have h3 := h2 (w1.alloc (.cells #[.int .i64 1, .string ⟨#[97]⟩, .slice sl1 n1 c1, .int .i64 3, .string ⟨#[]⟩, .slice sl2 n2 c2, .slice sl 1 c] 29))
  have HV := Lib.hid hV
  have HB := Lib.hid hB
  clear h2 hV hB hb1
  go_wp2_with fail
  refine h3.mono ?_
  rintro e w2 ⟨hb2, rfl⟩
  have hV := HV.out.keep (hb2.alloc hb2.size (.cells zeroS 29))
  have HB := Lib.hid (HB.out.trans ((hb2.alloc hb2.size (.cells zeroS 29)).mono HB.out.size))
  have a0 := hV.cs 0 _ rfl
  have a1 := hV.cs 1 _ rfl
  have a2 := hV.cs 2 _ rfl
  have a3 := hV.cs 3 _ rfl
  have a4 := hV.cs 4 _ rfl
  have a5 := hV.cs 5 _ rfl
  have a6 := hV.cs 6 _ rfl
  clear h3 hb2 hV HV
  go_wp2_with fail
  go_ret
  exact ⟨rfl, HB.out⟩
theorem nameslaw_any (s : ByteArray) (W : World) : Calls Try.prog 3 #[.string s] W fun e W' => e = .returned (.bool true) ∧ Below W.heap.size W W' := by
  have h1 := alive_any W
  by_cases hs : s.size ≤ 1024
  · have k1 : decide ((1024 : Int) < s.size) = false := by simp; omega
    have h2 := fun w => name_any s w
    have h3 := fun w => rname0_any s w (by omega)
    generalize nameL s.data.toList = q at *
    have HQ := Lib.hid (show (q == q) = true by simp)
    clear hs
    go_enter Try.func3, Try.ntmps3
    go_wp2_with fail
    refine h1.mono ?_
    rintro e w1 ⟨rfl, hb1⟩
    have h2 := h2 w1
    clear h1
    go_wp2_with fail
    refine h2.mono ?_
    rintro e w2 ⟨rfl, hb2⟩
    have h3 := h3 w2
    clear h2
    go_wp2_with fail
    refine h3.mono ?_
    rintro e w3 ⟨rfl, hb3⟩
    have HB := Lib.hid ((hb1.trans (hb2.mono hb1.size)).trans (hb3.mono (Nat.le_trans hb1.size hb2.size)))
    clear h3 hb1 hb2 hb3
    go_wp2_with fail
    go_ret
    exact ⟨by cases q <;> rfl, HB.out⟩
  · have k1 : decide ((1024 : Int) < s.size) = true := by simp; omega
    clear hs
    go_enter Try.func3, Try.ntmps3
    go_wp2_with fail
    refine h1.mono ?_
    rintro e w1 ⟨rfl, hb1⟩
    clear h1
    go_wp2_with fail
    go_ret
    exact ⟨rfl, hb1⟩
end Rc
end Go.Proofs.Ytcigggffaofkhaa
