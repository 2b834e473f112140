/-
  Walk: strings.IndexAny at the ten digits, for every text (bytes beyond ASCII too).
-/
import Derived.Test.YtlmmhhkhoaoheaaGreatDoorSgT
import Derived.Test.YtlmmhhkhoaoheaaGreatDoorShelf
import Derived.Test.YtlmmhhkhoaoheaaGreatDoorMix
import Derived.Laws.RangeAny
import Derived.Lib.DecodeN
import Derived.Lib.OthersKept
import Derived.WalkKit
import Derived.WalkLawsBesides
import Derived.WalkSpells
import Derived.WalkSmall
import Derived.Lib.Hide
import Derived.Deep.LoopGhost
namespace Go.Proofs.YtlmmhhkhoaoheaaGreatDoor
open Go.RowKit Go.Shelf Go.Lib
namespace Sg

abbrev digB : ByteArray := ⟨#[48, 49, 50, 51, 52, 53, 54, 55, 56, 57]⟩
theorem digs_low : ∀ b ∈ digs, b.toNat < 128 := by decide
theorem digs_hi {b : UInt8} (h : 128 ≤ b.toNat) : digs.contains b = false := by
  cases hc : digs.contains b with
  | false => rfl
  | true => have := digs_low b (by simpa using hc); omega
theorem byte_no {l : List UInt8} {c : UInt8} (h : c ∉ l) : Lib.indexByte l c = -1 := by
  induction l with
  | nil => rfl
  | cons a l ih =>
    have h1 : (a == c) = false := beq_eq_false_iff_ne.2 fun e => h (by rw [e]; exact .head _)
    rw [Lib.indexByte, h1, ih fun hc => h (.tail _ hc)]
    rfl
/-- the bytes of one rune beyond ASCII are beyond ASCII -/
theorem decode_hi (s : ByteArray) (i : Nat) (h : i < s.size) (ha : 128 ≤ (s[i]'h).toNat) : ∀ k, k < (Utf8.decode s i).2 → ∃ hk : i + k < s.size, 128 ≤ (s[i + k]'hk).toNat := by
  have get : ∀ j (hj : j < s.size), s.get! j = s[j]'hj := fun j hj => get_at s j hj
  have cont : ∀ k, 1 ≤ k → k < s.size - i → (s.get! (i + k)).toNat / 64 = 2 → ∃ hk : i + k < s.size, 128 ≤ (s[i + k]'hk).toNat := fun k _ h2 h3 => by
    have hk : i + k < s.size := by omega
    refine ⟨hk, ?_⟩
    rw [get _ hk] at h3
    omega
  intro k hk
  by_cases h0 : k = 0
  · subst h0; exact ⟨h, ha⟩
  rw [decode_at] at hk
  have hn : ¬ (s.get! i).toNat < 128 := by rw [get i h]; omega
  unfold decodeN at hk
  rw [if_neg hn] at hk
  split at hk
  · rename_i h1
    split at hk
    · have : k = 1 := by simp only at hk; omega
      subst this
      exact cont 1 (by omega) h1.2.1 h1.2.2
    · simp only at hk; omega
  · split at hk
    · rename_i h1
      split at hk
      · have : k = 1 ∨ k = 2 := by simp only at hk; omega
        rcases this with rfl | rfl
        · exact cont 1 (by omega) h1.2.1.1 h1.2.1.2
        · exact cont 2 (by omega) h1.2.2.1 h1.2.2.2
      · simp only at hk; omega
    · split at hk
      · rename_i h1
        split at hk
        · have : k = 1 ∨ k = 2 ∨ k = 3 := by simp only at hk; omega
          rcases this with rfl | rfl | rfl
          · exact cont 1 (by omega) h1.2.1.1 h1.2.1.2
          · exact cont 2 (by omega) h1.2.2.1.1 h1.2.2.1.2
          · exact cont 3 (by omega) h1.2.2.2.1 h1.2.2.2.2
        · simp only at hk; omega
      · simp only at hk; omega
/-- a rune beyond ASCII as text: two to four bytes, the last of them beyond ASCII -/
theorem encode_hi {r : Int} (h0 : 128 ≤ r) : ∃ (l : Nat) (b : UInt8), 1 ≤ l ∧ l ≤ 3 ∧ (Utf8.encode r).size = l + 1 ∧ (Utf8.encode r).data.toList[l]? = some b ∧ 128 ≤ b.toNat := by
  have low : ∀ n : Nat, n < 256 → (UInt8.ofNat n).toNat = n := fun n hn => by simp; omega
  have hc : 128 ≤ (if Utf8.valid r then r.toNat else Utf8.runeError) := by
    split
    · omega
    · decide
  unfold Utf8.encode
  generalize (if Utf8.valid r then r.toNat else Utf8.runeError) = c at hc
  simp only
  have hc2 : ¬ c < 128 := by omega
  rw [if_neg hc2]
  split
  · exact ⟨1, UInt8.ofNat (0x80 + c % 64), by omega, by omega, rfl, rfl, by rw [low _ (by omega)]; omega⟩
  · split
    · exact ⟨2, UInt8.ofNat (0x80 + c % 64), by omega, by omega, rfl, rfl, by rw [low _ (by omega)]; omega⟩
    · exact ⟨3, UInt8.ofNat (0x80 + c % 64), by omega, by omega, rfl, rfl, by rw [low _ (by omega)]; omega⟩
theorem quiet_at {P : Program} {f : FuncId} {args : Array Value} {v : Value} (h : ∀ w, Calls P f args w fun e w' => e = .returned v ∧ w' = w) (w : World) (a : Nat) : Calls P f args (w.drewN a) fun e w'' => e = .returned v ∧ ∃ n, w'' = w.drewN n :=
  (h (w.drewN a)).mono fun _ _ hw => ⟨hw.1, a, hw.2⟩
theorem data_get {s : ByteArray} {k : Nat} {b : UInt8} (h : s.data.toList[k]? = some b) (hk : k < s.size) : s[k]'hk = b := by
  rw [Lib.data_getElem? s k hk] at h
  exact Option.some.inj h
set_option maxHeartbeats 4000000 in
set_option maxRecDepth 100000 in
/-- IndexRune of a rune beyond ASCII among the digits -/
theorem rune_hi (r : Int) (h0 : 128 ≤ r) (h1 : r ≤ 2147483647) (W : World) :
    Calls Tryz.prog 63 #[.string digB, .int .i32 r] W fun e W' => e = .returned (.int .i64 (-1)) ∧ Below W.heap.size W W' := by
  have k0 : ¬ r < 128 := by omega
  have k1 : (0 : Int) ≤ r := by omega
  by_cases he : r = 65533
  · subst he
    go_enter Tryz.func63, Tryz.ntmps63
    go_wp2_with fail
    go_loopw [5, 6] (fun _ _ wr => ∃ i : Nat, i ≤ 10 ∧ wr = W.iter digB i) (fun _ _ wr => 10 - wr.iterPos W.heap.size)
    case atStart => exact ⟨0, by omega, rfl⟩
    case round =>
      obtain ⟨i, hi, rfl⟩ := hrel
      by_cases hlt : i < 10
      · have hlt2 : i < digB.size := hlt
        have hx : (digB[i]'hlt2).toNat < 128 := digs_low _ (List.getElem_mem hlt)
        have hnx := fun ty => run_next_ascii (P := Tryz.prog) W digB i ty hlt2 hx
        have hne : (((digB[i]'hlt2).toNat : Int) == 65533) = false := beq_eq_false_iff_ne.2 (by omega)
        obtain ⟨x, hxx⟩ : ∃ x : UInt8, digB[i]'hlt2 = x := ⟨_, rfl⟩
        rw [hxx] at hnx hne
        clear hx hxx
        go_wp2_with fail
        go_roundw
        case rel => exact ⟨i + 1, by omega, rfl⟩
        case measure => rw [World.iterPos_iter, World.iterPos_iter]; omega
      · obtain rfl : i = 10 := by omega
        have hnx := fun ty => run_next_end (P := Tryz.prog) W digB 10 ty (by decide)
        go_wp2_with fail
        go_ret
        exact ⟨rfl, (Below.refl _ _).alloc (Nat.le_refl _) _⟩
  · have k2 : (r == 65533) = false := beq_eq_false_iff_ne.2 he
    cases hv : Lib.validRune r with
    | false =>
      have hvr := fun w => Tryz.utf8_ValidRune r w
      rw [hv] at hvr
      go_enter Tryz.func63, Tryz.ntmps63
      go_wp2_with (go_at_call 78; refine (hvr _).mono ?_; rintro e w' ⟨rfl, rfl⟩)
      go_ret
      exact ⟨rfl, Below.refl _ _⟩
    | true =>
      have hvr := fun w => Tryz.utf8_ValidRune r w
      rw [hv] at hvr
      go_enter Tryz.func63, Tryz.ntmps63
      go_wp2_with (go_at_call 78; refine (hvr _).mono ?_; rintro e w' ⟨rfl, rfl⟩)
      go_step3
      go_wp2_with fail
      obtain ⟨l, b, l1, l3, hsz, hb, hb128⟩ := encode_hi h0
      generalize Utf8.encode r = e at hsz hb ⊢
      have hw : wrap64 (((l + 1 : Nat) : Int) - 1) = (l : Int) := by
        rcases (show l = 1 ∨ l = 2 ∨ l = 3 by omega) with rfl | rfl | rfl <;> decide +kernel
      rw [hsz, hw]
      clear hw
      go_loopw [9, 10, 11, 12] (fun i _ _ _ wr => i = .int .i64 (l : Int) ∧ w' = wr) (fun _ _ _ _ _ => 0)
      case atStart => exact ⟨rfl, rfl⟩
      case round =>
        obtain ⟨rfl, rfl⟩ := hrel
        have hl10 : l < digB.size := by show l < 10; omega
        have hle : l < e.size := by omega
        have heb := data_get hb hle
        have hdl := digs_low (digB[l]'hl10) (List.getElem_mem hl10)
        have hne : (((digB[l]'hl10).toNat : Int) == ((e[l]'hle).toNat : Int)) = false := beq_eq_false_iff_ne.2 (by rw [heb]; omega)
        have hne2 : (((digB[l]'hl10).toNat : Int) != ((e[l]'hle).toNat : Int)) = true := by unfold bne; rw [hne]; rfl
        have j1 : ((l : Int) + 1).toNat = l + 1 := by omega
        have j2 : (0 : Int) ≤ (l : Int) + 1 := by omega
        have j3 : (l : Int) + 1 ≤ 10 := by omega
        have j4 : IntKind.i64.wrap ((l : Int) + 1) = (l : Int) + 1 := IntWalk.i64_in _ (by omega)
        have i1 : ∀ w, Calls Tryz.prog 77 #[.string (digB.extract (l + 1) 10), .int .u8 ((e[l]'hle).toNat : Int)] w fun e w' => e = .returned (.int .i64 (-1)) ∧ w' = w := fun w => (Tryz.strings_IndexByte _ _ w).mono fun e w' h => ⟨by
          rw [h.1, byte_no]
          intro hm
          have h9 : ∀ x ∈ digs, x.toNat < 128 := digs_low
          rw [Lib.extract_data] at hm
          have h8 := h9 _ (List.mem_of_mem_drop (List.mem_of_mem_take hm))
          rw [heb] at h8
          simp at h8
          omega, h.2⟩
        have i2 := quiet_at i1
        have HSZ := Lib.hid hsz
        clear hsz i1 hdl heb hb
        go_wp2_with fail
        go_step3
        go_wp2_with fail
        go_quiet (fail)
        have hb1 := Sx.below_drewN (Below.refl w'.heap.size w') nq
        generalize w'.drewN nq = w1 at hb1 ⊢
        go_wp2_with fail
        go_quiet ((go_at_call 77; exact i2 _ _))
        have hb2 := Sx.below_drewN hb1 nq
        generalize w1.drewN nq = w2 at hb2 ⊢
        go_wp2_with fail
        simp (config := { zetaDelta := true }) only [Exit.inBlock, Exit.then, Exit.noGoto_ret]
        go_ret
        exact ⟨rfl, hb2⟩
theorem anyd_go {l : List UInt8} {i : Nat} (h : Lib.NoAny l digs i) {k : Nat} (hk : ∀ j, j < k → ∀ b, l[i + j]? = some b → digs.contains b = false) : Lib.NoAny l digs (i + k) := fun j b hj hb => by
  by_cases h1 : j < i
  · exact h j b h1 hb
  · exact hk (j - i) (by omega) b (by rw [show i + (j - i) = j by omega]; exact hb)
theorem below_iterAt {B : Nat} {W w : World} (h : Below B W w) {k : Nat} (hk : B ≤ k) (s : ByteArray) (p : Nat) : Below B W (w.iterAt k s p) :=
  ⟨h.os, h.tape, h.output, by have := h.size; simpa [World.iterAt] using this, fun j hj => by
    have h1 : (w.iterAt k s p).heap[j]? = w.heap[j]? := by
      show (w.heap.setIfInBounds k _)[j]? = _
      rw [Array.getElem?_setIfInBounds_ne (by omega)]
    exact h1.trans (h.block j hj)⟩
theorem iterPos_of {w : World} {k : Nat} {s : ByteArray} {p : Nat} (h : w.heap[k]? = some (.stringIter s p)) : w.iterPos k = p := by simp [World.iterPos, h]
set_option maxHeartbeats 4000000 in
set_option maxRecDepth 100000 in
/-- s of at most 8 bytes -/
theorem any_short (s : ByteArray) (W : World) (h8 : s.size ≤ 8) :
    Calls Tryz.prog 44 #[.string s, .string digB] W fun e W' => e = .returned (.int .i64 (Lib.indexAny s.data.toList digs)) ∧ Below W.heap.size W W' := by
  have h8z : decide ((8 : Int) < (s.size : Int)) = false := decide_eq_false (by omega)
  have hsu := fun w => Tryz.strings_shouldUseASCIISet (s.size : Int) w
  rw [h8z] at hsu
  have hemp : digB.toList.isEmpty = false := by decide +kernel
  go_enter Tryz.func44, Tryz.ntmps44
  go_wp2_with (go_at_call 64; refine (hsu _).mono ?_; rintro e w' ⟨rfl, rfl⟩)
  clear hsu
  obtain ⟨W, rfl⟩ : ∃ W, W = w' := ⟨_, rfl⟩
  go_loopw [9, 10] (fun _ _ wr => ∃ i : Nat, i ≤ s.size ∧ wr.heap[W.heap.size]? = some (.stringIter s i) ∧ Lib.NoAny s.data.toList digs i ∧ Below W.heap.size W wr) (fun _ _ wr => s.size - wr.iterPos W.heap.size)
  case atStart => exact ⟨0, Nat.zero_le _, heap_alloc_new _ _, Lib.NoAny.zero _ _, (Below.refl _ _).alloc (Nat.le_refl _) _⟩
  case round =>
    obtain ⟨i, hi, hk, hno, hb⟩ := hrel
    have HN := Lib.hid hno
    have HK := Lib.hid hk
    by_cases hlt : i < s.size
    · obtain ⟨x, hx⟩ : ∃ x : UInt8, s[i]'hlt = x := ⟨_, rfl⟩
      have hxl : s.data.toList[i]? = some x := by rw [← hx]; exact Lib.data_getElem? s i hlt
      have HX := Lib.hid hxl
      have HB := Lib.hid (fun p => below_iterAt hb (Nat.le_refl _) s p)
      have HA := Lib.hid (fun p => iterAt_heap wr W.heap.size s i p hk)
      by_cases ha : x.toNat < 128
      · have hnx := fun ty => run_next_ascii_at (P := Tryz.prog) wr W.heap.size s i ty hk hlt (by rw [hx]; exact ha)
        rw [hx] at hnx
        have hir := fun w => Tryz.strings_IndexRune_ascii digB (x.toNat : Int) w (by omega) (by omega)
        have hcon := Lib.contains_iff_indexByte digs x
        have hback : ((x.toNat : Int)).toNat.toUInt8 = x := by simp
        rw [hback] at hir
        obtain ⟨v, hv⟩ : ∃ v, v = Lib.indexByte digs x := ⟨_, rfl⟩
        rw [show Lib.indexByte digB.data.toList x = v from hv.symm] at hir
        rw [← hv] at hcon
        clear hk hno hxl hx hback hv
        cases hin : digs.contains x with
        | false =>
          rw [hin] at hcon
          have HIN := Lib.hid hin
          have hlt0 : ¬ ((0 : Int) ≤ v) := of_decide_eq_false hcon.symm
          clear hcon hin
          go_wp2_with (go_at_call 63; refine (hir _).mono ?_; rintro e w' ⟨rfl, rfl⟩)
          go_roundw
          case rel => exact ⟨i + 1, by omega, HA.out _, HN.out.succ HX.out HIN.out, HB.out _⟩
          case measure => rw [iterPos_of HK.out, iterPos_of (HA.out _)]; omega
        | true =>
          rw [hin] at hcon
          have HIN := Lib.hid hin
          have hge : (0 : Int) ≤ v := of_decide_eq_true hcon.symm
          clear hcon hin
          go_wp2_with (go_at_call 63; refine (hir _).mono ?_; rintro e w' ⟨rfl, rfl⟩)
          go_ret
          exact ⟨by rw [Lib.indexAny_hit HN.out HX.out HIN.out]; rfl, HB.out _⟩
      · have hxa : 128 ≤ (s[i]'hlt).toNat := by rw [hx]; omega
        have hnx := fun ty => run_next_any_at (P := Tryz.prog) wr W.heap.size s i ty hk hlt
        obtain ⟨h128, hw1⟩ := decode_high s i hlt hxa
        have hmax := decode_le s i
        have hd := decode_hi s i hlt hxa
        rcases hdec : Utf8.decode s i with ⟨rn, wd⟩
        rw [hdec] at hnx h128 hw1 hmax hd
        have hir := fun w => rune_hi (rn : Int) (by omega) (by omega) w
        have hle : i + wd ≤ s.size := by
          obtain ⟨h9, _⟩ := hd (wd - 1) (by omega)
          omega
        have HGO := Lib.hid (show Lib.NoAny s.data.toList digs (i + wd) from anyd_go hno fun j hj b hb' => by
          obtain ⟨h9, h8⟩ := hd j hj
          rw [Lib.data_getElem? s (i + j) h9] at hb'
          rw [← Option.some.inj hb']
          exact digs_hi h8)
        have HW := Lib.hid hw1
        clear hk hno hxl hx hdec h128 hmax hd hxa hw1
        go_wp2_with (go_at_call 63; refine (hir _).mono ?_; rintro e w' ⟨rfl, hb9⟩)
        have HK9 := Lib.hid ((hb9.block W.heap.size (Array.getElem?_eq_some_iff.1 (HA.out _)).1).trans (HA.out _))
        have HB9 := Lib.hid ((HB.out _).trans (hb9.mono (HB.out _).size))
        clear hb9
        go_wp2_with fail
        go_roundw
        case rel => exact ⟨i + wd, hle, HK9.out, HGO.out, HB9.out⟩
        case measure => rw [iterPos_of HK.out, iterPos_of HK9.out]; have := HW.out; omega
    · obtain rfl : i = s.size := by omega
      have hnx := fun ty => run_next_end_at (P := Tryz.prog) wr W.heap.size s s.size ty hk hlt
      clear hk hno
      go_wp2_with fail
      go_ret
      exact ⟨by rw [Lib.indexAny_none (by rw [← Lib.size_eq]; exact HN.out)]; rfl, hb⟩
theorem zero_as (w : World) : (zeroValue 95).run Tryz.prog w = .ok (.agg (Array.replicate 256 (.bool false))) w := (zero_of_info (P := Tryz.prog) (n := 256) (by kernel_rfl)).1 w
/-- where the first digit stands -/
theorem anyd_any (s : ByteArray) (W : World) (hs : s.size ≤ 1048576) :
    Calls Tryz.prog 44 #[.string s, .string digB] W fun e W' => e = .returned (.int .i64 (Lib.indexAny s.data.toList digs)) ∧ Below W.heap.size W W' := by
  by_cases h8 : s.size ≤ 8
  · exact any_short s W h8
  · refine (Tryz.strings_IndexAny_long zero_as s digB W (by decide) (by omega) (by omega) (by decide) (fun j b hb => digs_low b (List.mem_of_getElem? hb))).mono ?_
    rintro e w' ⟨rfl, rfl⟩
    exact ⟨rfl, ((Below.refl _ _).alloc (Nat.le_refl _) _).alloc (by simp) _⟩
end Sg
end Go.Proofs.YtlmmhhkhoaoheaaGreatDoor
