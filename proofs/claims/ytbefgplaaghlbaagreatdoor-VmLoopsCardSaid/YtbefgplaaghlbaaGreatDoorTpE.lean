/-
  Walks: the reference's trees (Same, Good, Get, Put).
-/
import Derived.Test.YtbefgplaaghlbaaGreatDoorTpD
namespace Go.Proofs.YtbefgplaaghlbaaGreatDoor
open Go.RowKit Go.Shelf Go.Lib Go.Sort
namespace Tr

theorem two_start (w : World) (a b : Obj) : Below w.heap.size w ((w.alloc a).alloc b) ∧ ((w.alloc a).alloc b).heap[w.heap.size]? = some a ∧ ((w.alloc a).alloc b).heap[w.heap.size + 1]? = some b := by
  have e1 : (w.alloc a).heap.size = w.heap.size + 1 := by simp
  refine ⟨((Below.refl w.heap.size w).alloc (Nat.le_refl _) a).alloc (by simp) b, ?_, ?_⟩
  · rw [heap_alloc_old _ _ (by omega), heap_alloc_new]
  · rw [← e1, heap_alloc_new]
set_option maxHeartbeats 1000000 in
set_option maxRecDepth 100000 in
theorem same5_any (a b : List F) (va vb : Value) (w : World) (hA : FS w va a) (hB : FS w vb b) (hl' : b.length ≤ 1000000) :
    Calls Tryz.prog 17 #[.agg #[va], .agg #[vb]] w fun e w' => e = .returned (.bool (decide (a = b))) ∧ Below w.heap.size w w' := by
  obtain ⟨sa, ca, rfl, hfa⟩ := hA.form
  obtain ⟨sb, cb, rfl, hfb⟩ := hB.form
  obtain ⟨hW, b0, b1⟩ := two_start w (.cells #[.slice sa a.length ca] 25) (.cells #[.slice sb b.length cb] 25)
  have HA := Lib.hid hfa
  have HB := Lib.hid hfb
  have HW := Lib.hid hW
  clear hfa hfb hA hB hW
  by_cases hn : a.length = b.length
  · have HN := Lib.hid hn
    rw [hn] at b0 b1 ⊢
    rw [hn] at HW
    clear hn
    generalize hL : b.length = n at *
    have HL := Lib.hid hL
    have d0 := (blk_cell b0).1
    have d1 := (blk_cell b1).1
    have HD := Lib.hid (And.intro b0 b1)
    clear hL b0 b1
    go_enter Tryz.func17, Tryz.ntmps17
    go_wp2_with fail
    generalize hWW : (w.alloc (.cells #[.slice sa n ca] 25)).alloc (.cells #[.slice sb n cb] 25) = W at *
    clear hWW d0 d1
    go_loopw [16] (fun i wr => ∃ k : Nat, k ≤ n ∧ i = .int .i64 (k : Int) ∧ a.take k = b.take k ∧ Below W.heap.size W wr) (fun i _ => n - (RowKit.intOf i).toNat)
    case atStart => exact ⟨0, Nat.zero_le _, rfl, rfl, Below.refl _ _⟩
    case round =>
      obtain ⟨k, hk, rfl, ht, hb⟩ := hrel
      have HT := Lib.hid ht
      have HBB := Lib.hid (show Below w.heap.size w wr from HW.out.trans (hb.mono HW.out.size))
      have HB2 := Lib.hid hb
      clear ht
      by_cases hlt : k < n
      · obtain ⟨x, hx⟩ : ∃ x, a[k]? = some x := ⟨a[k]'(by rw [HN.out]; exact hlt), List.getElem?_eq_getElem _⟩
        obtain ⟨y, hy⟩ : ∃ y, b[k]? = some y := ⟨b[k]'(by rw [HL.out]; exact hlt), List.getElem?_eq_getElem _⟩
        obtain ⟨g, o, rfl, hg, c0, c1⟩ := HA.out k x hx
        obtain ⟨g', o', rfl, hg', c0', c1'⟩ := HB.out k y hy
        replace c0 := (HBB.out.cell (p := ⟨g, o + k * 2, none⟩) hg).trans c0
        replace c1 := (HBB.out.cell (p := ⟨g, o + k * 2 + 1, none⟩) hg).trans c1
        replace c0' := (HBB.out.cell (p := ⟨g', o' + k * 2, none⟩) hg').trans c0'
        replace c1' := (HBB.out.cell (p := ⟨g', o' + k * 2 + 1, none⟩) hg').trans c1'
        have d0 := Sx.keep_cell hb (blk_cell HD.out.1).1
        have d1 := Sx.keep_cell hb (blk_cell HD.out.2).1
        have HX := Lib.hid (And.intro hx hy)
        clear hx hy hb
        by_cases he : x = y
        · subst he
          go_wp2_with fail
          go_quiet (fail)
          go_wp2_with fail
          go_roundw
          case rel => exact ⟨k + 1, by omega, by push_cast; rfl, eq_next HT.out HX.out.1 HX.out.2 rfl, Sx.below_drewN HB2.out _⟩
          case measure => simp [RowKit.intOf]; omega
        · have HR := Lib.hid (decide_eq_false (eq_not HX.out.1 HX.out.2 he))
          obtain ⟨x1, x2⟩ := x
          obtain ⟨y1, y2⟩ := y
          by_cases h1 : x1 = y1
          · subst h1
            have h2 := Sx.seq_ff (fun h : x2 = y2 => he (by rw [h]))
            clear he
            go_wp2_with fail
            go_quiet (fail)
            go_wp2_with fail
            go_ret
            rw [HR.out]
            exact ⟨rfl, Sx.below_drewN HBB.out _⟩
          · have h2 := Sx.seq_ff h1
            clear he h1
            go_wp2_with fail
            go_quiet (fail)
            go_wp2_with fail
            go_ret
            rw [HR.out]
            exact ⟨rfl, Sx.below_drewN HBB.out _⟩
      · obtain rfl : k = n := by omega
        have HR := Lib.hid (show decide (a = b) = true by
          have h1 := HN.out
          have h2 := HL.out
          have := HT.out
          rw [List.take_of_length_le (by omega), List.take_of_length_le (by omega)] at this
          exact decide_eq_true this)
        clear hb
        go_wp2_with fail
        go_ret
        rw [HR.out]
        exact ⟨rfl, HBB.out⟩
  · have HR := Lib.hid (show decide (a = b) = false from decide_eq_false fun e => hn (by rw [e]))
    have h1 : ((a.length : Int) == b.length) = false := by rw [beq_eq_false_iff_ne]; omega
    have d0 := (blk_cell b0).1
    have d1 := (blk_cell b1).1
    clear b0 b1
    go_enter Tryz.func17, Tryz.ntmps17
    go_wp2_with fail
    go_ret
    rw [HR.out]
    exact ⟨rfl, HW.out⟩
set_option maxHeartbeats 1000000 in
set_option maxRecDepth 100000 in
theorem good5_any (l : List F) (v : Value) (w : World) (hF : FS w v l) (hs : ∀ f ∈ l, f.1.size ≤ 1000000) (hl : l.length ≤ 1000000) :
    Calls Tryz.prog 21 #[.agg #[v]] w fun e w' => e = .returned (.bool (goodT l)) ∧ Below w.heap.size w w' := by
  have hA : Below w.heap.size w (w.alloc (.cells #[v] 25)) := (Below.refl _ _).alloc (Nat.le_refl _) _
  have hm := make5_any l v _ (hF.keep hA) hs hl
  have hq : (w.alloc (.cells #[v] 25)).cell? ⟨w.heap.size, 0, none⟩ = some v := by simp only [World.cell?, heap_alloc_new]; rfl
  obtain ⟨sl, cap, rfl⟩ := hF.len
  unfold MakeOut at hm
  have HA := Lib.hid hA
  have HF := Lib.hid (hF.keep hA)
  have HQ := Lib.hid hq
  cases hp : makeP l with
  | error c =>
    have HR := Lib.hid (show goodT l = false by unfold goodT; rw [hp])
    have hc : (c == 0) = false := beq_eq_false_iff_ne.2 (make_err hp)
    rw [hp] at hm
    clear hp hA hF hq
    go_enter Tryz.func21, Tryz.ntmps21
    go_wp2_with (go_at_call 42; with_reducible refine hm.mono ?_; clear hm; rintro e w2 ⟨hb2, he⟩; unfold MakeV at he; subst he; have HB2 := Lib.hid hb2; clear hb2)
    go_ret
    rw [HR.out]
    exact ⟨rfl, (HA.out.trans (HB2.out.mono HA.out.size)).alloc (Nat.le_trans HA.out.size HB2.out.size) _⟩
  | ok s =>
    have HR := Lib.hid (show goodT l = decide (l = s) by
      unfold goodT; rw [hp]
      exact decide_eq_decide.2 eq_comm)
    have hsl : s.length ≤ 1000000 := by
      rw [(make_good hp).1, (sort_perm l).length_eq]; exact hl
    rw [hp] at hm
    clear hp hA hF hq
    go_enter Tryz.func21, Tryz.ntmps21
    go_wp2_with (first
      | (go_at_call 42; with_reducible refine hm.mono ?_; clear hm; rintro e w2 ⟨hb2, he⟩; obtain ⟨v2, he, hf2⟩ := he.fs; obtain ⟨sl2, cap2, hv2⟩ := hf2.len; subst hv2; subst he; have HB2 := Lib.hid hb2; have HF2 := Lib.hid hf2; have q2 := Sx.keep_cell (hb2.trans ((Below.refl _ w2).alloc hb2.size (.cells #[.slice sl2 s.length cap2] 25))) HQ.out; have heq := same5_any l s _ _ _ ((HF.out.keep hb2).keep ((Below.refl _ w2).alloc (Nat.le_refl _) (.cells #[.slice sl2 s.length cap2] 25))) (hf2.keep ((Below.refl _ w2).alloc (Nat.le_refl _) (.cells #[.slice sl2 s.length cap2] 25))) hsl; clear hb2 hf2)
      | (go_at_call 17; with_reducible refine heq.mono ?_; clear heq; rintro e w3 ⟨he, hb3⟩; subst he))
    go_ret
    rw [HR.out]
    exact ⟨rfl, HA.out.trans ((HB2.out.trans (((Below.refl _ w2).alloc HB2.out.size _).trans (hb3.mono (Nat.le_trans HB2.out.size (by simp))))).mono HA.out.size)⟩
theorem get_at {l : List F} {p : List UInt8} {k : Nat} {x : F} (hn : ∀ y ∈ l.take k, K y ≠ p) (hx : l[k]? = some x) (he : K x = p) : getT l p = some x.2 := by
  unfold getT
  have : l.find? (fun f => K f == p) = some x := by
    rw [List.find?_eq_some_iff_getElem]
    obtain ⟨h1, h2⟩ := List.getElem?_eq_some_iff.1 hx
    refine ⟨by simp [he], k, h1, h2, fun j hj => ?_⟩
    have := hn l[j] (by
      rw [List.mem_take_iff_getElem]
      exact ⟨j, by omega, rfl⟩)
    simpa using this
  rw [this]
  rfl
theorem get_no {l : List F} {p : List UInt8} (hn : ∀ y ∈ l, K y ≠ p) : getT l p = none := by
  unfold getT
  rw [Option.map_eq_none_iff, List.find?_eq_none]
  intro y hy
  simpa using hn y hy
set_option maxHeartbeats 1000000 in
set_option maxRecDepth 100000 in
theorem get5_any (p : ByteArray) (l : List F) (v : Value) (w : World) (hF : FS w v l) (hl : l.length ≤ 1000000) :
    Calls Tryz.prog 45 #[.agg #[v], .string p] w fun e w' => e = .returned (.tuple #[.string ((getT l p.data.toList).getD ⟨#[]⟩), .bool (getT l p.data.toList).isSome]) ∧ Below w.heap.size w w' := by
  have hA : Below w.heap.size w (w.alloc (.cells #[v] 25)) := (Below.refl _ _).alloc (Nat.le_refl _) _
  obtain ⟨sl, cap, rfl, hf⟩ := hF.form
  have HA := Lib.hid hA
  have HF := Lib.hid hf
  clear hf hF hA
  go_enter Tryz.func45, Tryz.ntmps45
  go_wp2_with fail
  generalize hW : w.alloc (.cells #[.slice sl l.length cap] 25) = W at *
  clear hW
  go_loopw [11] (fun i wr => ∃ k : Nat, k ≤ l.length ∧ i = .int .i64 (k : Int) ∧ (∀ y ∈ l.take k, K y ≠ p.data.toList) ∧ Below W.heap.size W wr) (fun i _ => l.length - (RowKit.intOf i).toNat)
  case atStart => exact ⟨0, Nat.zero_le _, rfl, fun y h => by simp at h, Below.refl _ _⟩
  case round =>
    obtain ⟨k, hk, rfl, hn, hb⟩ := hrel
    have HN := Lib.hid hn
    have HBB := Lib.hid (show Below w.heap.size w wr from HA.out.trans (hb.mono HA.out.size))
    have HB := Lib.hid hb
    clear hn hb
    by_cases hlt : k < l.length
    · obtain ⟨x, hx⟩ : ∃ x, l[k]? = some x := ⟨l[k], List.getElem?_eq_getElem hlt⟩
      obtain ⟨g, o, rfl, hg, c0, c1⟩ := HF.out k x hx
      replace c0 := (HBB.out.cell (p := ⟨g, o + k * 2, none⟩) hg).trans c0
      replace c1 := (HBB.out.cell (p := ⟨g, o + k * 2 + 1, none⟩) hg).trans c1
      have HX := Lib.hid hx
      clear hx
      by_cases he : K x = p.data.toList
      · have hq := Sx.seq_tt (ByteArray.ext (Array.toList_inj.1 he) : x.1 = p)
        have HR := Lib.hid (get_at HN.out HX.out he)
        clear he
        go_wp2_with fail
        go_ret2
        rw [HR.out]
        exact ⟨rfl, HBB.out.alloc HBB.out.size _⟩
      · have hq := Sx.seq_ff (fun h : x.1 = p => he (by unfold K; rw [h]))
        have HR := Lib.hid (show ∀ y ∈ l.take (k + 1), K y ≠ p.data.toList by
          intro y hy
          rw [take_snoc HX.out] at hy
          rcases List.mem_append.1 hy with hy | hy
          · exact HN.out y hy
          · simp at hy
            subst hy
            exact he)
        clear he
        go_wp2_with fail
        go_roundw
        case rel => exact ⟨k + 1, hlt, by push_cast; rfl, HR.out, HB.out.alloc HB.out.size _⟩
        case measure => simp [RowKit.intOf]; omega
    · obtain rfl : k = l.length := by omega
      have HR := Lib.hid (get_no (l := l) (p := p.data.toList) (by have := HN.out; rwa [List.take_length] at this))
      go_wp2_with fail
      go_ret2
      rw [HR.out]
      exact ⟨rfl, HBB.out⟩
end Tr
end Go.Proofs.YtbefgplaaghlbaaGreatDoor
