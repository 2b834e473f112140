/-
  Walk: bound: the gap that a comparison is.
-/
import Derived.Test.YtlmmhhkhoaoheaaGreatDoorSgI
import Derived.Test.YtlmmhhkhoaoheaaGreatDoorVersionB
import Derived.Test.YtlmmhhkhoaoheaaGreatDoorMix
import Derived.Test.YtlmmhhkhoaoheaaGreatDoorSxExt
namespace Go.Proofs.YtlmmhhkhoaoheaaGreatDoor
open Go.RowKit Go.Shelf Go.Lib
namespace Sg

abbrev gapV (g : G) : Value := .agg #[.int .i64 g.1, .int .i64 g.2]
/-- what bound answers -/
def BQ (o : Option G) (e : Ending) : Prop := (∃ g, o = some g ∧ e = .returned (.tuple #[gapV g, .bool true])) ∨ (o = none ∧ ∃ g : G, e = .returned (.tuple #[gapV g, .bool false]))
theorem str_ff {s : ByteArray} {l : List UInt8} (h : s.data.toList ≠ l) : (s.toList == l) = false := by
  rw [ByteArray.toList_eq]
  exact beq_eq_false_iff_ne.2 h
theorem str_tt {s : ByteArray} {l : List UInt8} (h : s.data.toList = l) : (s.toList == l) = true := by rw [ByteArray.toList_eq, h]; exact beq_self_eq_true _
theorem head_take (s : ByteArray) (i : Nat) : (s.extract 0 i).data.toList = s.data.toList.take i := by
  rw [ByteArray.data_extract, Array.toList_extract]
  simp [List.extract]
theorem tail_drop (s : ByteArray) (i : Nat) : (s.extract i s.size).data.toList = s.data.toList.drop i := by
  rw [Lib.extract_data, List.take_of_length_le]
  have : s.size = s.data.toList.length := Lib.size_eq s
  rw [List.length_drop]
  omega
theorem two_below {W W' : World} {b : Nat} {u0 u1 : Value} {T : TypeId} (hb : Below W.heap.size W W') (h : W.heap[b]? = some (.cells #[u0, u1] T (0, 0))) : W'.heap[b]? = some (.cells #[u0, u1] T (0, 0)) := (hb.block b (Array.getElem?_eq_some_iff.1 h).1).trans h
theorem two_set {W : World} {b : Nat} {u0 u1 : Value} {T : TypeId} (h : W.heap[b]? = some (.cells #[u0, u1] T (0, 0))) (x y : Value) : ((W.setCell ⟨b, 0, none⟩ x).setCell ⟨b, 1, none⟩ y).heap[b]? = some (.cells #[x, y] T (0, 0)) :=
  heap_setCell_same _ b 1 _ _ _ (heap_setCell_same W b 0 _ _ _ h)
theorem below_two {B : Nat} {W w : World} (h : Below B W w) {b : Nat} (hb : B ≤ b) (x y : Value) : Below B W ((w.setCell ⟨b, 0, none⟩ x).setCell ⟨b, 1, none⟩ y) := (h.setCell (p := ⟨b, 0, none⟩) hb x).setCell (p := ⟨b, 1, none⟩) hb y
theorem indexAny_lt (chars : List UInt8) : ∀ l : List UInt8, Lib.indexAny l chars < l.length ∨ Lib.indexAny l chars = -1
  | [] => .inr rfl
  | b :: l => by
    have ih := indexAny_lt chars l
    rw [Lib.indexAny, List.length_cons]
    split
    · exact .inl (by omega)
    · split
      · exact .inr rfl
      · rcases ih with ih | ih
        · exact .inl (by omega)
        · rename_i h; exact absurd (beq_iff_eq.2 ih) h
theorem bound_results {tmps : Array Value} {X : World} {h : Nat} {x y : Int} {b : Bool} (t2 : tmps[2]? = some (.pointer (some ⟨h, 0, none⟩))) (t3 : tmps[3]? = some (.bool b)) (k : X.heap[h]? = some (.cells #[.int .i64 x, .int .i64 y] 42 (0, 0))) :
    (results Tryz.f25 tmps).run Tryz.prog X = .ok (.tuple #[gapV (x, y), .bool b]) X := by
  obtain ⟨c0, c1, -, -⟩ := obj_two k
  simp [results, Tryz.results25, go_sem, t2, t3, c0, c1]
theorem bq_some {o : Option G} {x y : Int} (h : o = some (x, y)) : BQ o (.returned (.tuple #[gapV (x, y), .bool true])) := .inl ⟨_, h, rfl⟩
theorem bq_none {o : Option G} (h : o = none) (g : G) : BQ o (.returned (.tuple #[gapV g, .bool false])) := .inr ⟨h, g, rfl⟩
set_option maxHeartbeats 8000000 in
set_option maxRecDepth 100000 in
theorem bound_any (s : ByteArray) (W : World) (hs : s.size ≤ 1048576) (hE : Vs.Env W) :
    Calls Tryz.prog 25 #[.string s] W fun e W' => BQ (boundL s.data.toList) e ∧ Below W.heap.size W W' := by
  have hB0 := (Below.refl W.heap.size W).alloc (Nat.le_refl _) (.cells #[.int .i64 0, .int .i64 0] 42)
  have hK0 := heap_alloc_new W (.cells #[.int .i64 0, .int .i64 0] 42)
  have HK0 := Lib.hid hK0
  clear hK0
  have hia := fun w => anyd_any s w hs
  have hge := Lib.indexAny_ge digs s.data.toList
  by_cases hi : Lib.indexAny s.data.toList digs = -1
  · rw [hi] at hia
    by_cases hst : s.data.toList = [42]
    · have HQ := Lib.hid (show boundL s.data.toList = some (0, 1000000000) by unfold boundL; rw [if_pos hi, if_pos hst])
      have j1 := str_tt hst
      clear hi hge hst
      go_enter Tryz.func25, Tryz.ntmps25
      go_wp2_with (go_at_call 44; refine (hia _).mono ?_; rintro e W1 ⟨rfl, hB1⟩; have hB2 := hB0.trans (hB1.mono hB0.size); obtain ⟨c0, c1, f0, f1⟩ := obj_two (two_below hB1 HK0.out); have HK1 := Lib.hid (two_below hB1 HK0.out); clear hB1)
      refine bodyPost_ret (bound_results rfl rfl (two_set HK1.out _ _)) rfl ?_
      exact ⟨bq_some HQ.out, below_two hB2 (Nat.le_refl _) _ _⟩
    · have HQ := Lib.hid (show boundL s.data.toList = none by unfold boundL; rw [if_pos hi, if_neg hst])
      have j1 := str_ff hst
      clear hi hge hst
      go_enter Tryz.func25, Tryz.ntmps25
      go_wp2_with (go_at_call 44; refine (hia _).mono ?_; rintro e W1 ⟨rfl, hB1⟩; have hB2 := hB0.trans (hB1.mono hB0.size); obtain ⟨c0, c1, f0, f1⟩ := obj_two (two_below hB1 HK0.out); have HK1 := Lib.hid (two_below hB1 HK0.out); clear hB1)
      refine bodyPost_ret (bound_results rfl rfl (two_set HK1.out _ _)) rfl ?_
      exact ⟨bq_none HQ.out _, below_two hB2 (Nat.le_refl _) _ _⟩
  · obtain ⟨i, hii⟩ : ∃ i : Nat, Lib.indexAny s.data.toList digs = i := ⟨(Lib.indexAny s.data.toList digs).toNat, by omega⟩
    have HQ := Lib.hid (show boundL s.data.toList = (Vs.parseL (s.data.toList.drop i)).bind fun v => signL (s.data.toList.take i) v.1 v.2.1 v.2.2 by unfold boundL; rw [if_neg hi, hii]; rfl)
    rw [hii] at hia
    have hil2 : i ≤ s.size := by
      have h1 := indexAny_lt digs s.data.toList
      have h2 : s.size = s.data.toList.length := Lib.size_eq s
      rw [hii] at h1
      omega
    clear hi hge hii
    have hpa := fun w (hb : Below W.heap.size W w) => Vs.parse_any (s.extract i s.size) (by rw [ByteArray.size_extract]; omega) w (hE.below (Nat.le_refl _) hb)
    rw [tail_drop] at hpa
    cases hp : Vs.parseL (s.data.toList.drop i) with
    | none =>
      have HQ2 := Lib.hid (show boundL s.data.toList = none by rw [HQ.out, hp]; rfl)
      rw [hp, Vs.PV_none] at hpa
      have hnum := fun w => Vs.number_any 0 0 0 w
      clear hp
      go_enter Tryz.func25, Tryz.ntmps25
      go_wp2_with (first
        | (go_at_call 44; refine (hia _).mono ?_; rintro e W1 ⟨rfl, hB1⟩; have hB2 := hB0.trans (hB1.mono hB0.size); have HK1 := Lib.hid (two_below hB1 HK0.out); clear hB1)
        | (go_at_call 45; refine (hpa _ hB2).mono ?_; rintro e W3 ⟨rfl, hB3⟩; have hB4 := hB2.trans (hB3.mono hB2.size); have HK3 := Lib.hid (two_below hB3 HK1.out); clear hB3; have hB5 := hB4.alloc hB4.size (.cells #[.int .i64 0, .int .i64 0, .int .i64 0] 31); have HK5 := Lib.hid (two_below ((Below.refl _ _).alloc (Nat.le_refl _) (.cells #[.int .i64 0, .int .i64 0, .int .i64 0] 31)) HK3.out))
        | (go_at_call 35; refine (hnum _).mono ?_; rintro e W6 ⟨rfl, hB6⟩; have hB7 := hB5.trans (hB6.mono hB5.size); obtain ⟨c0, c1, f0, f1⟩ := obj_two (two_below hB6 HK5.out); have HK7 := Lib.hid (two_below hB6 HK5.out); clear hB6))
      refine bodyPost_ret (bound_results rfl rfl (two_set HK7.out _ _)) rfl ?_
      exact ⟨bq_none HQ2.out _, below_two hB7 (Nat.le_refl _) _ _⟩
    | some v =>
      obtain ⟨a, b, c⟩ := v
      have hgd := (Vs.text_parse hp).2
      have HQ2 := Lib.hid (show boundL s.data.toList = signL (s.data.toList.take i) a b c by rw [HQ.out, hp]; rfl)
      rw [hp, Vs.PV_some] at hpa
      have hnum := fun w => Vs.number_any a b c w
      obtain ⟨-, n0, n1⟩ := num_bd hgd
      obtain ⟨a0, a1, b0, b1, -, -⟩ := Vs.of_good hgd
      generalize hn : Vs.num a b c = n at hnum n0 n1
      have HN := Lib.hid hn
      have hT := head_take s i
      clear hp hgd HQ hn
      go_enter Tryz.func25, Tryz.ntmps25
      go_wp2_with (first
        | (go_at_call 44; refine (hia _).mono ?_; rintro e W1 ⟨rfl, hB1⟩; have hB2 := hB0.trans (hB1.mono hB0.size); have HK1 := Lib.hid (two_below hB1 HK0.out); clear hB1)
        | (go_at_call 45; refine (hpa _ hB2).mono ?_; rintro e W3 ⟨rfl, hB3⟩; have hB4 := hB2.trans (hB3.mono hB2.size); have HK3 := Lib.hid (two_below hB3 HK1.out); clear hB3; have hB5 := hB4.alloc hB4.size (.cells #[.int .i64 a, .int .i64 b, .int .i64 c] 31); have HK5 := Lib.hid (two_below ((Below.refl _ _).alloc (Nat.le_refl _) (.cells #[.int .i64 a, .int .i64 b, .int .i64 c] 31)) HK3.out); have HC5 := Lib.hid (Vs.C3.new W3 a b c)))
      go_at_call 35
      refine (hnum _).mono ?_
      rintro e W6 ⟨rfl, hB6⟩
      have hB7 := hB5.trans (hB6.mono hB5.size)
      obtain ⟨c0, c1, f0, f1⟩ := obj_two (two_below hB6 HK5.out)
      have HK7 := Lib.hid (two_below hB6 HK5.out)
      obtain ⟨-, d0, d1, -, -⟩ := HC5.out.below hB6
      clear hB6 hB5 hB4 hB2 hpa hnum hia hB0
      by_cases e0 : s.data.toList.take i = [61]
      · have k0 := str_tt (s := s.extract 0 i) (l := [61]) (by rw [hT]; exact e0)
        have HR := Lib.hid (show boundL s.data.toList = some (n, n + 1) by rw [HQ2.out]; unfold signL; rw [if_pos e0, HN.out])
        clear hT e0
        go_wp2_with fail
        refine bodyPost_ret (bound_results rfl rfl (two_set HK7.out _ _)) rfl ?_
        exact ⟨bq_some HR.out, below_two hB7 (Nat.le_refl _) _ _⟩
      by_cases e1 : s.data.toList.take i = [62, 61]
      · have k0 := str_ff (s := s.extract 0 i) (l := [61]) (by rw [hT]; exact e0)
        have k1 := str_tt (s := s.extract 0 i) (l := [62, 61]) (by rw [hT]; exact e1)
        have HR := Lib.hid (show boundL s.data.toList = some (n, 1000000000) by rw [HQ2.out]; unfold signL; rw [if_neg e0]; rw [if_pos e1, HN.out])
        clear hT e0 e1
        go_wp2_with fail
        refine bodyPost_ret (bound_results rfl rfl (two_set HK7.out _ _)) rfl ?_
        exact ⟨bq_some HR.out, below_two hB7 (Nat.le_refl _) _ _⟩
      by_cases e2 : s.data.toList.take i = [62]
      · have k0 := str_ff (s := s.extract 0 i) (l := [61]) (by rw [hT]; exact e0)
        have k1 := str_ff (s := s.extract 0 i) (l := [62, 61]) (by rw [hT]; exact e1)
        have k2 := str_tt (s := s.extract 0 i) (l := [62]) (by rw [hT]; exact e2)
        have HR := Lib.hid (show boundL s.data.toList = some (n + 1, 1000000000) by rw [HQ2.out]; unfold signL; rw [if_neg e0]; rw [if_neg e1]; rw [if_pos e2, HN.out])
        clear hT e0 e1 e2
        go_wp2_with fail
        refine bodyPost_ret (bound_results rfl rfl (two_set HK7.out _ _)) rfl ?_
        exact ⟨bq_some HR.out, below_two hB7 (Nat.le_refl _) _ _⟩
      by_cases e3 : s.data.toList.take i = [60]
      · have k0 := str_ff (s := s.extract 0 i) (l := [61]) (by rw [hT]; exact e0)
        have k1 := str_ff (s := s.extract 0 i) (l := [62, 61]) (by rw [hT]; exact e1)
        have k2 := str_ff (s := s.extract 0 i) (l := [62]) (by rw [hT]; exact e2)
        have k3 := str_tt (s := s.extract 0 i) (l := [60]) (by rw [hT]; exact e3)
        have HR := Lib.hid (show boundL s.data.toList = some (0, n) by rw [HQ2.out]; unfold signL; rw [if_neg e0]; rw [if_neg e1]; rw [if_neg e2]; rw [if_pos e3, HN.out])
        clear hT e0 e1 e2 e3
        go_wp2_with fail
        refine bodyPost_ret (bound_results rfl rfl (two_set HK7.out _ _)) rfl ?_
        exact ⟨bq_some HR.out, below_two hB7 (Nat.le_refl _) _ _⟩
      by_cases e4 : s.data.toList.take i = [60, 61]
      · have k0 := str_ff (s := s.extract 0 i) (l := [61]) (by rw [hT]; exact e0)
        have k1 := str_ff (s := s.extract 0 i) (l := [62, 61]) (by rw [hT]; exact e1)
        have k2 := str_ff (s := s.extract 0 i) (l := [62]) (by rw [hT]; exact e2)
        have k3 := str_ff (s := s.extract 0 i) (l := [60]) (by rw [hT]; exact e3)
        have k4 := str_tt (s := s.extract 0 i) (l := [60, 61]) (by rw [hT]; exact e4)
        have HR := Lib.hid (show boundL s.data.toList = some (0, n + 1) by rw [HQ2.out]; unfold signL; rw [if_neg e0]; rw [if_neg e1]; rw [if_neg e2]; rw [if_neg e3]; rw [if_pos e4, HN.out])
        clear hT e0 e1 e2 e3 e4
        go_wp2_with fail
        refine bodyPost_ret (bound_results rfl rfl (two_set HK7.out _ _)) rfl ?_
        exact ⟨bq_some HR.out, below_two hB7 (Nat.le_refl _) _ _⟩
      by_cases e5 : s.data.toList.take i = [94]
      · have k0 := str_ff (s := s.extract 0 i) (l := [61]) (by rw [hT]; exact e0)
        have k1 := str_ff (s := s.extract 0 i) (l := [62, 61]) (by rw [hT]; exact e1)
        have k2 := str_ff (s := s.extract 0 i) (l := [62]) (by rw [hT]; exact e2)
        have k3 := str_ff (s := s.extract 0 i) (l := [60]) (by rw [hT]; exact e3)
        have k4 := str_ff (s := s.extract 0 i) (l := [60, 61]) (by rw [hT]; exact e4)
        have k5 := str_tt (s := s.extract 0 i) (l := [94]) (by rw [hT]; exact e5)
        have HR := Lib.hid (show boundL s.data.toList = some (n, (a + 1) * 1000000) by rw [HQ2.out]; unfold signL; rw [if_neg e0]; rw [if_neg e1]; rw [if_neg e2]; rw [if_neg e3]; rw [if_neg e4]; rw [if_pos e5, HN.out])
        clear hT e0 e1 e2 e3 e4 e5
        go_wp2_with fail
        refine bodyPost_ret (bound_results rfl rfl (two_set HK7.out _ _)) rfl ?_
        exact ⟨bq_some HR.out, below_two hB7 (Nat.le_refl _) _ _⟩
      by_cases e6 : s.data.toList.take i = [126]
      · have k0 := str_ff (s := s.extract 0 i) (l := [61]) (by rw [hT]; exact e0)
        have k1 := str_ff (s := s.extract 0 i) (l := [62, 61]) (by rw [hT]; exact e1)
        have k2 := str_ff (s := s.extract 0 i) (l := [62]) (by rw [hT]; exact e2)
        have k3 := str_ff (s := s.extract 0 i) (l := [60]) (by rw [hT]; exact e3)
        have k4 := str_ff (s := s.extract 0 i) (l := [60, 61]) (by rw [hT]; exact e4)
        have k5 := str_ff (s := s.extract 0 i) (l := [94]) (by rw [hT]; exact e5)
        have k6 := str_tt (s := s.extract 0 i) (l := [126]) (by rw [hT]; exact e6)
        have HR := Lib.hid (show boundL s.data.toList = some (n, (a * 1000 + b + 1) * 1000) by rw [HQ2.out]; unfold signL; rw [if_neg e0]; rw [if_neg e1]; rw [if_neg e2]; rw [if_neg e3]; rw [if_neg e4]; rw [if_neg e5]; rw [if_pos e6, HN.out])
        clear hT e0 e1 e2 e3 e4 e5 e6
        go_wp2_with fail
        refine bodyPost_ret (bound_results rfl rfl (two_set HK7.out _ _)) rfl ?_
        exact ⟨bq_some HR.out, below_two hB7 (Nat.le_refl _) _ _⟩
      have k0 := str_ff (s := s.extract 0 i) (l := [61]) (by rw [hT]; exact e0)
      have k1 := str_ff (s := s.extract 0 i) (l := [62, 61]) (by rw [hT]; exact e1)
      have k2 := str_ff (s := s.extract 0 i) (l := [62]) (by rw [hT]; exact e2)
      have k3 := str_ff (s := s.extract 0 i) (l := [60]) (by rw [hT]; exact e3)
      have k4 := str_ff (s := s.extract 0 i) (l := [60, 61]) (by rw [hT]; exact e4)
      have k5 := str_ff (s := s.extract 0 i) (l := [94]) (by rw [hT]; exact e5)
      have k6 := str_ff (s := s.extract 0 i) (l := [126]) (by rw [hT]; exact e6)
      have HR := Lib.hid (show boundL s.data.toList = none by rw [HQ2.out]; unfold signL; rw [if_neg e0]; rw [if_neg e1]; rw [if_neg e2]; rw [if_neg e3]; rw [if_neg e4]; rw [if_neg e5]; rw [if_neg e6])
      clear hT e0 e1 e2 e3 e4 e5 e6
      go_wp2_with fail
      refine bodyPost_ret (bound_results rfl rfl (two_set HK7.out _ _)) rfl ?_
      exact ⟨bq_none HR.out _, below_two hB7 (Nat.le_refl _) _ _⟩
end Sg
end Go.Proofs.YtlmmhhkhoaoheaaGreatDoor
