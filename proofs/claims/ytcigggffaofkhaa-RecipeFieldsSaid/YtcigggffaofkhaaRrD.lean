/-
  Walk of the reference: Next.
-/
import Derived.Test.YtcigggffaofkhaaRrC
import Derived.Test.YtcigggffaofkhaaRcJ
namespace Go.Proofs.Ytcigggffaofkhaa
open Go.RowKit
namespace Rc

/-- what the reference's Next answers -/
def NT (W : World) (o : RT) (e : Ending) (W' : World) : Prop := Below W.heap.size W W' ∧ match o with
  | .ok t => e = .returned (.tuple #[.agg #[.int .i64 t.kind, .string t.s, .int .i64 t.pl, .int .i64 t.fin], .bool true])
  | .bad p => ∃ (k : Int) (σ : ByteArray) (f : Int), σ.size ≤ 10000 ∧ e = .returned (.tuple #[.agg #[.int .i64 k, .string σ, .int .i64 p, .int .i64 f], .bool false])
theorem nt_of {W W' : World} {o : RT} {e : Ending} (h : TT W o e W') : NT W o e W' := by
  refine ⟨h.1, ?_⟩
  cases o with
  | ok t => exact h.2
  | bad p => exact ⟨_, _, _, Nat.zero_le _, h.2⟩
theorem tok_here' {s : ByteArray} {a m : Nat} {note : Bool} (h : SK s a m note) (hm : s.size ≤ m ∨ ∃ (hm : m < s.size), (note || blank s[m]) = false) : tokAt s.data.toList a = tokP s.data.toList m := by
  rcases hm with hm | ⟨hm, hc⟩
  · have h0 := h
    obtain ⟨h1, h2⟩ := h
    unfold tokAt
    rw [h2, drop_end hm]
    simp only [skipL]
    rw [show a + (m - a + 0) = m by omega]
  · simp only [Bool.or_eq_false_iff] at hc
    obtain ⟨rfl, hc⟩ := hc
    exact tok_here h (.inr ⟨hm, hc⟩)
set_option maxHeartbeats 4000000 in
set_option maxRecDepth 100000 in
theorem rnext_any (s : ByteArray) (a : Nat) (W : World) (ha : a ≤ s.size) (hs : s.size ≤ 10000) : Calls Try.prog 15 #[.string s, .int .i64 (a : Int)] W fun e w' => NT W (tokAt s.data.toList a) e w' := by
  have hX : Below W.heap.size W (W.alloc (.cells zeroT 37)) := (Below.refl _ _).alloc (Nat.le_refl _) _
  have hn := heap_alloc_new W (.cells zeroT 37)
  have b0 : (W.alloc (.cells zeroT 37)).cell? ⟨W.heap.size, 0, none⟩ = some (.int .i64 0) := by simp only [World.cell?, hn]; rfl
  have b1 : (W.alloc (.cells zeroT 37)).cell? ⟨W.heap.size, 1, none⟩ = some (.string ⟨#[]⟩) := by simp only [World.cell?, hn]; rfl
  have b2 : (W.alloc (.cells zeroT 37)).cell? ⟨W.heap.size, 2, none⟩ = some (.int .i64 0) := by simp only [World.cell?, hn]; rfl
  have b3 : (W.alloc (.cells zeroT 37)).cell? ⟨W.heap.size, 3, none⟩ = some (.int .i64 0) := by simp only [World.cell?, hn]; rfl
  have bf : ∀ j, (W.alloc (.cells zeroT 37)).frozen? ⟨W.heap.size, j, none⟩ = false := fun j => by simp only [World.frozen?, hn]; rfl
  clear hn
  go_enter Try.func15, Try.ntmps15
  go_wp2_with fail
  generalize (W.alloc (.cells zeroT 37)) = W1 at *
  have HBW := Lib.hid hX
  clear hX
  go_loop [1, 6] (fun i v => ∃ (m : Nat) (note : Bool), i = .int .i64 m ∧ v = .bool note ∧ m ≤ s.size ∧ SK s a m note) (fun i v => s.size - (intOf i).toNat)
  case atStart => exact ⟨a, false, rfl, rfl, ha, SK.start s a⟩
  case round =>
    obtain ⟨m, note, rfl, rfl, hm2, hsk⟩ := hrel
    have HSK := Lib.hid hsk
    clear hsk
    have k9 : IntKind.i64.wrap ((m : Int) + 1) = (m : Int) + 1 := IntWalk.i64_in _ (by omega)
    by_cases hm : m < s.size
    rotate_left
    · have k2 : decide ((m : Int) < s.size) = false := by simp; omega
      have k3 : ((m : Int) == s.size) = true := by rw [beq_iff_eq]; omega
      have HT := Lib.hid ((tok_here' HSK.out (.inl (by omega))).trans (tok_end (by omega)))
      go_wp2_with fail
      refine bodyPost_ret (v := .tuple #[.agg #[.int .i64 0, .string ⟨#[]⟩, .int .i64 (m : Int), .int .i64 (m : Int)], .bool true]) (by simp [results, Try.results15, go_sem, b0, b1, b2, b3]) rfl ?_
      rw [HT.out]
      exact ⟨(((HBW.out.setCell (p := ⟨W.heap.size, 0, none⟩) (Nat.le_refl _) _).setCell (p := ⟨W.heap.size, 1, none⟩) (Nat.le_refl _) _).setCell (p := ⟨W.heap.size, 2, none⟩) (Nat.le_refl _) _).setCell (p := ⟨W.heap.size, 3, none⟩) (Nat.le_refl _) _, rfl⟩
    have k2 : decide ((m : Int) < s.size) = true := by simp; omega
    have k3 : ((m : Int) == s.size) = false := by rw [beq_eq_false_iff_ne]; omega
    have hch : ∀ n : Nat, n < 256 → (s[m] ≠ UInt8.ofNat n) → ((s[m].toNat : Int) == (n : Int)) = false := fun n hn h => by
      rw [beq_eq_false_iff_ne]
      intro e
      exact h (u8_eq (n := n) (by omega) hn)
    cases hb : (note || blank s[m])
    · have HT := Lib.hid (tok_here' HSK.out (.inr ⟨hm, hb⟩))
      simp only [Bool.or_eq_false_iff] at hb
      obtain ⟨rfl, hb⟩ := hb
      simp only [blank, Bool.or_eq_false_iff, beq_eq_false_iff_ne] at hb
      obtain ⟨⟨⟨h1, h2⟩, h3⟩, h4⟩ := hb
      have c1 : ((s[m].toNat : Int) == 32) = false := hch 32 (by decide) h1
      have c2 : ((s[m].toNat : Int) == 10) = false := hch 10 (by decide) h2
      have c3 : ((s[m].toNat : Int) == 9) = false := hch 9 (by decide) h3
      have c4 : ((s[m].toNat : Int) == 35) = false := hch 35 (by decide) h4
      clear h1 h2 h3 h4
      by_cases g34 : s[m] = 34
      · have d1 : ((s[m].toNat : Int) == 34) = true := by rw [g34]; rfl
        have HT := Lib.hid (show tokAt s.data.toList a = strT s m from HT.out.trans (tok_str hm g34))
        have htx := rtext_any s m W1 hm hs
        clear g34 hch
        go_wp2_with fail
        refine htx.mono ?_
        rintro e w9 ⟨hb9, hx⟩
        have b0 : w9.cell? ⟨W.heap.size, 0, none⟩ = some (.int .i64 0) := (hb9.cell (World.block_lt_of_cell? _ _ b0)).trans b0
        have b1 : w9.cell? ⟨W.heap.size, 1, none⟩ = some (.string ⟨#[]⟩) := (hb9.cell (World.block_lt_of_cell? _ _ b1)).trans b1
        have b2 : w9.cell? ⟨W.heap.size, 2, none⟩ = some (.int .i64 0) := (hb9.cell (World.block_lt_of_cell? _ _ b2)).trans b2
        have b3 : w9.cell? ⟨W.heap.size, 3, none⟩ = some (.int .i64 0) := (hb9.cell (World.block_lt_of_cell? _ _ b3)).trans b3
        have bf : ∀ j, w9.frozen? ⟨W.heap.size, j, none⟩ = false := fun j => (World.frozen?_of_block (hb9.block W.heap.size (World.block_lt_of_cell? _ _ ‹W1.cell? ⟨W.heap.size, 0, none⟩ = _›))).trans (bf j)
        have HBW := Lib.hid (HBW.out.trans (hb9.mono HBW.out.size))
        clear htx hb9
        cases ho : strT s m with
        | ok tk =>
          rw [ho] at hx
          have HT := Lib.hid (HT.out.trans ho)
          subst hx
          clear ho
          go_wp2_with fail
          refine bodyPost_ret (v := .tuple #[.agg #[.int .i64 tk.kind, .string tk.s, .int .i64 tk.pl, .int .i64 tk.fin], .bool true]) (by simp [results, Try.results15, go_sem, b0, b1, b2, b3]) rfl ?_
          rw [HT.out]
          exact ⟨(((HBW.out.setCell (p := ⟨W.heap.size, 0, none⟩) (Nat.le_refl _) _).setCell (p := ⟨W.heap.size, 1, none⟩) (Nat.le_refl _) _).setCell (p := ⟨W.heap.size, 2, none⟩) (Nat.le_refl _) _).setCell (p := ⟨W.heap.size, 3, none⟩) (Nat.le_refl _) _, rfl⟩
        | bad q =>
          rw [ho] at hx
          have HT := Lib.hid (HT.out.trans ho)
          subst hx
          clear ho
          go_wp2_with fail
          refine bodyPost_ret (v := .tuple #[.agg #[.int .i64 0, .string ⟨#[]⟩, .int .i64 q, .int .i64 0], .bool false]) (by simp [results, Try.results15, go_sem, b0, b1, b2, b3]) rfl ?_
          rw [HT.out]
          exact ⟨(((HBW.out.setCell (p := ⟨W.heap.size, 0, none⟩) (Nat.le_refl _) _).setCell (p := ⟨W.heap.size, 1, none⟩) (Nat.le_refl _) _).setCell (p := ⟨W.heap.size, 2, none⟩) (Nat.le_refl _) _).setCell (p := ⟨W.heap.size, 3, none⟩) (Nat.le_refl _) _, _, _, _, Nat.zero_le _, rfl⟩
      have d1 : ((s[m].toNat : Int) == 34) = false := hch 34 (by decide) g34
      have e1 : s.extract m (m + 1) = ⟨#[s[m]]⟩ := ext_one hm
      have k10 : (m : Int) ≤ (m : Int) + 1 := by omega
      have t1 : ((m : Int) + 1).toNat = m + 1 := by omega
      have t2 : (m : Int) + 1 ≤ s.size := by omega
      cases hsg : sign s[m]
      · have HT := Lib.hid (HT.out.trans (tok_word hm g34 hsg rfl))
        simp only [sign, Bool.or_eq_false_iff, beq_eq_false_iff_ne] at hsg
        obtain ⟨⟨⟨h1, h2⟩, h3⟩, h4⟩ := hsg
        have d2 : ((s[m].toNat : Int) == 40) = false := hch 40 (by decide) h1
        have d3 : ((s[m].toNat : Int) == 41) = false := hch 41 (by decide) h2
        have d4 : ((s[m].toNat : Int) == 43) = false := hch 43 (by decide) h3
        have d5 : ((s[m].toNat : Int) == 61) = false := hch 61 (by decide) h4
        clear h1 h2 h3 h4 g34 hch e1 k10 t1 t2
        go_wp2_with fail
        have hlet := rletter_any
        go_loop [8] (fun i => ∃ k : Nat, i = .int .i64 k ∧ m ≤ k ∧ k ≤ s.size ∧ WN s m k) (fun i => s.size - (intOf i).toNat)
        case atStart => exact ⟨m, rfl, Nat.le_refl _, by omega, WN.start s m⟩
        case round =>
          obtain ⟨k, rfl, hk1, hk2, hwn⟩ := hrel
          have HWN := Lib.hid hwn
          have kk : IntKind.i64.wrap ((k : Int) + 1) = (k : Int) + 1 := IntWalk.i64_in _ (by omega)
          clear hwn
          by_cases hk : k < s.size
          · have l2 : decide ((k : Int) < s.size) = true := by simp; omega
            have hlk := hlet s[k]
            cases hl : letter s[k]
            · have HLC := Lib.hid hl
              rw [hl] at hlk
              clear hl hlet
              have hlet := hlk
              have hw0 := (WN.stop HWN.out (by exact .inr ⟨hk, HLC.out⟩))
              have HT := Lib.hid (show tokAt s.data.toList a = if k - m = 0 then .bad m else .ok ⟨1, ⟨((s.data.toList.drop m).take (k - m)).toArray⟩, m, m + (k - m)⟩ by rw [HT.out, hw0])
              have q1 : (m : Int) ≤ k := by omega
              have q2 : (k : Int) ≤ s.size := by omega
              clear hw0 HLC
              by_cases hk0 : m < k
              · have j1 : decide ((m : Int) < k) = true := by simp; omega
                have HT := Lib.hid (tok_w1 HT.out hk0)
                go_wp2_with (go_at_call 26; refine (hlk _).mono ?_; rintro e w' ⟨rfl, rfl⟩)
                refine bodyPost_ret (v := .tuple #[.agg #[.int .i64 1, .string (s.extract m k), .int .i64 (m : Int), .int .i64 (k : Int)], .bool true]) (by simp [results, Try.results15, go_sem, b0, b1, b2, b3]) rfl ?_
                rw [HT.out]
                exact ⟨(((HBW.out.setCell (p := ⟨W.heap.size, 0, none⟩) (Nat.le_refl _) _).setCell (p := ⟨W.heap.size, 1, none⟩) (Nat.le_refl _) _).setCell (p := ⟨W.heap.size, 2, none⟩) (Nat.le_refl _) _).setCell (p := ⟨W.heap.size, 3, none⟩) (Nat.le_refl _) _, rfl⟩
              · have j1 : decide ((m : Int) < k) = false := by simp; omega
                have HT := Lib.hid (tok_w0 HT.out (by omega))
                go_wp2_with (go_at_call 26; refine (hlk _).mono ?_; rintro e w' ⟨rfl, rfl⟩)
                refine bodyPost_ret (v := .tuple #[.agg #[.int .i64 1, .string (s.extract m k), .int .i64 (m : Int), .int .i64 (k : Int)], .bool false]) (by simp [results, Try.results15, go_sem, b0, b1, b2, b3]) rfl ?_
                rw [HT.out]
                exact ⟨(((HBW.out.setCell (p := ⟨W.heap.size, 0, none⟩) (Nat.le_refl _) _).setCell (p := ⟨W.heap.size, 1, none⟩) (Nat.le_refl _) _).setCell (p := ⟨W.heap.size, 2, none⟩) (Nat.le_refl _) _).setCell (p := ⟨W.heap.size, 3, none⟩) (Nat.le_refl _) _, _, _, _, (by simp only [ByteArray.size_extract]; omega), rfl⟩
            · have HN := Lib.hid (HWN.out.step hk hl)
              rw [hl] at hlk
              clear hl hlet
              go_wp2_with (go_at_call 26; refine (hlk _).mono ?_; rintro e w' ⟨rfl, rfl⟩)
              go_round
              case rel => exact ⟨k + 1, by go_num, by omega, by omega, HN.out⟩
              case measure => simp [intOf]; omega
          · have l2 : decide ((k : Int) < s.size) = false := by simp; omega
            have HLC : True := trivial
            have hw0 := (WN.stop HWN.out (by exact .inl (by omega)))
            have HT := Lib.hid (show tokAt s.data.toList a = if k - m = 0 then .bad m else .ok ⟨1, ⟨((s.data.toList.drop m).take (k - m)).toArray⟩, m, m + (k - m)⟩ by rw [HT.out, hw0])
            have q1 : (m : Int) ≤ k := by omega
            have q2 : (k : Int) ≤ s.size := by omega
            clear hw0 hlet HLC
            by_cases hk0 : m < k
            · have j1 : decide ((m : Int) < k) = true := by simp; omega
              have HT := Lib.hid (tok_w1 HT.out hk0)
              go_wp2_with fail
              refine bodyPost_ret (v := .tuple #[.agg #[.int .i64 1, .string (s.extract m k), .int .i64 (m : Int), .int .i64 (k : Int)], .bool true]) (by simp [results, Try.results15, go_sem, b0, b1, b2, b3]) rfl ?_
              rw [HT.out]
              exact ⟨(((HBW.out.setCell (p := ⟨W.heap.size, 0, none⟩) (Nat.le_refl _) _).setCell (p := ⟨W.heap.size, 1, none⟩) (Nat.le_refl _) _).setCell (p := ⟨W.heap.size, 2, none⟩) (Nat.le_refl _) _).setCell (p := ⟨W.heap.size, 3, none⟩) (Nat.le_refl _) _, rfl⟩
            · omega
      · have HT := Lib.hid (HT.out.trans (tok_sign hm g34 hsg))
        by_cases h1 : s[m] = 40
        · have d2 : ((s[m].toNat : Int) == 40) = true := by rw [h1]; rfl
          clear h1 hsg hch g34
          go_wp2_with fail
          refine bodyPost_ret (v := .tuple #[.agg #[.int .i64 2, .string ⟨#[s[m]]⟩, .int .i64 (m : Int), .int .i64 ((m : Int) + 1)], .bool true]) (by simp [results, Try.results15, go_sem, b0, b1, b2, b3]) rfl ?_
          rw [HT.out]
          exact ⟨(((HBW.out.setCell (p := ⟨W.heap.size, 0, none⟩) (Nat.le_refl _) _).setCell (p := ⟨W.heap.size, 1, none⟩) (Nat.le_refl _) _).setCell (p := ⟨W.heap.size, 2, none⟩) (Nat.le_refl _) _).setCell (p := ⟨W.heap.size, 3, none⟩) (Nat.le_refl _) _, rfl⟩
        have d2 : ((s[m].toNat : Int) == 40) = false := hch 40 (by decide) h1
        by_cases h2 : s[m] = 41
        · have d3 : ((s[m].toNat : Int) == 41) = true := by rw [h2]; rfl
          clear h1 h2 hsg hch g34
          go_wp2_with fail
          refine bodyPost_ret (v := .tuple #[.agg #[.int .i64 2, .string ⟨#[s[m]]⟩, .int .i64 (m : Int), .int .i64 ((m : Int) + 1)], .bool true]) (by simp [results, Try.results15, go_sem, b0, b1, b2, b3]) rfl ?_
          rw [HT.out]
          exact ⟨(((HBW.out.setCell (p := ⟨W.heap.size, 0, none⟩) (Nat.le_refl _) _).setCell (p := ⟨W.heap.size, 1, none⟩) (Nat.le_refl _) _).setCell (p := ⟨W.heap.size, 2, none⟩) (Nat.le_refl _) _).setCell (p := ⟨W.heap.size, 3, none⟩) (Nat.le_refl _) _, rfl⟩
        have d3 : ((s[m].toNat : Int) == 41) = false := hch 41 (by decide) h2
        by_cases h3 : s[m] = 43
        · have d4 : ((s[m].toNat : Int) == 43) = true := by rw [h3]; rfl
          clear h1 h2 h3 hsg hch g34
          go_wp2_with fail
          refine bodyPost_ret (v := .tuple #[.agg #[.int .i64 2, .string ⟨#[s[m]]⟩, .int .i64 (m : Int), .int .i64 ((m : Int) + 1)], .bool true]) (by simp [results, Try.results15, go_sem, b0, b1, b2, b3]) rfl ?_
          rw [HT.out]
          exact ⟨(((HBW.out.setCell (p := ⟨W.heap.size, 0, none⟩) (Nat.le_refl _) _).setCell (p := ⟨W.heap.size, 1, none⟩) (Nat.le_refl _) _).setCell (p := ⟨W.heap.size, 2, none⟩) (Nat.le_refl _) _).setCell (p := ⟨W.heap.size, 3, none⟩) (Nat.le_refl _) _, rfl⟩
        have d4 : ((s[m].toNat : Int) == 43) = false := hch 43 (by decide) h3
        have h4 : s[m] = 61 := by
          simp only [sign, Bool.or_eq_true, beq_iff_eq] at hsg
          rcases hsg with ((hb | hb) | hb) | hb
          · exact absurd hb h1
          · exact absurd hb h2
          · exact absurd hb h3
          · exact hb
        have d5 : ((s[m].toNat : Int) == 61) = true := by rw [h4]; rfl
        clear h1 h2 h3 h4 hsg hch g34
        go_wp2_with fail
        refine bodyPost_ret (v := .tuple #[.agg #[.int .i64 2, .string ⟨#[s[m]]⟩, .int .i64 (m : Int), .int .i64 ((m : Int) + 1)], .bool true]) (by simp [results, Try.results15, go_sem, b0, b1, b2, b3]) rfl ?_
        rw [HT.out]
        exact ⟨(((HBW.out.setCell (p := ⟨W.heap.size, 0, none⟩) (Nat.le_refl _) _).setCell (p := ⟨W.heap.size, 1, none⟩) (Nat.le_refl _) _).setCell (p := ⟨W.heap.size, 2, none⟩) (Nat.le_refl _) _).setCell (p := ⟨W.heap.size, 3, none⟩) (Nat.le_refl _) _, rfl⟩
    · have HK0 := Lib.hid (HSK.out.step hm hb)
      by_cases h35 : s[m] = 35
      · have c4 : ((s[m].toNat : Int) == 35) = true := by rw [h35]; rfl
        have HK := Lib.hid (show SK s a (m + 1) true by have := HK0.out; rw [h35] at this; exact this)
        have c1 : ((s[m].toNat : Int) == 32) = false := by rw [h35]; rfl
        have c2 : ((s[m].toNat : Int) == 10) = false := by rw [h35]; rfl
        have c3 : ((s[m].toNat : Int) == 9) = false := by rw [h35]; rfl
        clear h35 hb hch HK0
        cases note
        all_goals
          go_wp2_with fail
          go_round
          case rel => exact ⟨m + 1, true, by go_num, rfl, by omega, HK.out⟩
          case measure => simp [intOf]; omega
      have c4 : ((s[m].toNat : Int) == 35) = false := hch 35 (by decide) h35
      by_cases h10 : s[m] = 10
      · have c2 : ((s[m].toNat : Int) == 10) = true := by rw [h10]; rfl
        have c2' : ((s[m].toNat : Int) != 10) = false := by rw [h10]; rfl
        have HK := Lib.hid (show SK s a (m + 1) false by have := HK0.out; rw [h10] at this; simpa using this)
        have c1 : ((s[m].toNat : Int) == 32) = false := by rw [h10]; rfl
        clear HK0 h35 h10 hb hch
        cases note
        all_goals
          go_wp2_with fail
          go_round
          case rel => exact ⟨m + 1, false, by go_num, rfl, by omega, HK.out⟩
          case measure => simp [intOf]; omega
      have c2 : ((s[m].toNat : Int) == 10) = false := hch 10 (by decide) h10
      have c2' : ((s[m].toNat : Int) != 10) = true := by rw [bne, c2]; rfl
      have HK := Lib.hid (show SK s a (m + 1) note by
        have := HK0.out
        rw [beq_eq_false_iff_ne.2 h35, show (s[m] != 10) = true by rw [bne, beq_eq_false_iff_ne.2 h10]; rfl] at this
        simpa using this)
      cases note with
      | true =>
        clear HK0 h35 h10 hb hch
        go_wp2_with fail
        go_round
        case rel => exact ⟨m + 1, true, by go_num, rfl, by omega, HK.out⟩
        case measure => simp [intOf]; omega
      | false =>
        by_cases h32 : s[m] = 32
        · have c1 : ((s[m].toNat : Int) == 32) = true := by rw [h32]; rfl
          clear HK0 h35 h10 hb hch h32
          go_wp2_with fail
          go_round
          case rel => exact ⟨m + 1, false, by go_num, rfl, by omega, HK.out⟩
          case measure => simp [intOf]; omega
        · have c1 : ((s[m].toNat : Int) == 32) = false := hch 32 (by decide) h32
          have h9 : s[m] = 9 := by
            simp only [Bool.false_or, blank, Bool.or_eq_true, beq_iff_eq] at hb
            rcases hb with ((hb | hb) | hb) | hb
            · exact absurd hb h32
            · exact absurd hb h10
            · exact hb
            · exact absurd hb h35
          have c3 : ((s[m].toNat : Int) == 9) = true := by rw [h9]; rfl
          clear HK0 h35 h10 hb hch h32 h9
          go_wp2_with fail
          go_round
          case rel => exact ⟨m + 1, false, by go_num, rfl, by omega, HK.out⟩
          case measure => simp [intOf]; omega
end Rc
end Go.Proofs.Ytcigggffaofkhaa
