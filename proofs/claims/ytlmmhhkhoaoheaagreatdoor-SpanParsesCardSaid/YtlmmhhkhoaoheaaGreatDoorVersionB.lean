/-
  What the walks of version.Parse want of the world (the library's variables), and version.Parse for every text of at most 2^20 bytes.
-/
import Derived.Test.YtlmmhhkhoaoheaaGreatDoorVersionP
import Derived.Test.YtlmmhhkhoaoheaaGreatDoorShelf
import Derived.WalkSmall
namespace Go.Proofs.YtlmmhhkhoaoheaaGreatDoor
open Go.RowKit
namespace Vs

/-- the library's variables, as start-up code lays them -/
structure Env (W : World) : Prop where
  max : ∃ m : Int, W.cell? ⟨2, 0, none⟩ = some (.int .i64 m)
  pow : Lib.TabIs Tryz.prog W "internal/strconv.uint64pow10" .u64 Lib.pow10Tab
  syn : ∃ tp p, W.var? Tryz.prog "strconv.ErrSyntax" = some #[.iface tp p]
  rng : ∃ tp p, W.var? Tryz.prog "strconv.ErrRange" = some #[.iface tp p]
  big : 8 ≤ W.heap.size
theorem gPow : Tryz.prog.globalNamed "internal/strconv.uint64pow10" = some 3 := by kernel_rfl
theorem gSyn : Tryz.prog.globalNamed "strconv.ErrSyntax" = some 4 := by kernel_rfl
theorem gRng : Tryz.prog.globalNamed "strconv.ErrRange" = some 5 := by kernel_rfl
theorem Env.below {B : Nat} {W W' : World} (h : Env W) (hB : W.heap.size ≤ B) (hb : Below B W W') : Env W' := by
  have hs := h.big
  obtain ⟨m, hm⟩ := h.max
  obtain ⟨t1, p1, h1⟩ := h.syn
  obtain ⟨t2, p2, h2⟩ := h.rng
  exact ⟨⟨m, by rw [hb.cell (p := ⟨2, 0, none⟩) (by show 2 < B; omega)]; exact hm⟩, var?_below hb gPow (by omega) h.pow, ⟨t1, p1, var?_below hb gSyn (by omega) h1⟩, ⟨t2, p2, var?_below hb gRng (by omega) h2⟩, Nat.le_trans hs hb.size⟩
theorem Env.alloc {W : World} (h : Env W) (o : Obj) : Env (W.alloc o) := h.below (Nat.le_refl _) ((Below.refl _ _).alloc (Nat.le_refl _) o)

theorem below_drewN {B : Nat} {a w : World} (h : Below B a w) (n : Nat) : Below B a (w.drewN n) := ⟨h.os, h.tape, h.output, h.size, h.block⟩

theorem below_grow (w : World) (k : Nat) (os : Array Obj) : Below w.heap.size w (Sort.grow (w.drewN k) os) :=
  ⟨rfl, rfl, rfl, by show w.heap.size ≤ (w.heap ++ os).size; simp, fun i hi => by show (w.heap ++ os)[i]? = w.heap[i]?; rw [Array.getElem?_append_left hi]⟩

theorem atoi_ok (s : ByteArray) (hs : s.size ≤ 1048576) (v : Int) (h : Lib.atoiAll s.data.toList = .ok v) (w : World) :
    Calls Tryz.prog 68 #[.string s] w fun e w' => e = .returned (.tuple #[.int .i64 v, .nilIface]) ∧ Below w.heap.size w w' := by
  refine (Tryz.strconv_Atoi_ok s (by omega) v h w).mono fun e w' ⟨he, hw⟩ => ⟨he, ?_⟩
  rcases hw with rfl | ⟨t, rfl⟩
  · exact Below.refl _ _
  · exact Lib.bytesWorld_below _ _ _

theorem atoi_bad (s : ByteArray) (hs : s.size ≤ 1048576) (h : ∀ v, Lib.atoiAll s.data.toList ≠ .ok v) (w : World) (hE : Env w) :
    Calls Tryz.prog 68 #[.string s] w fun e w' => ∃ (x : Int) (N : Nat), e = .returned (.tuple #[.int .i64 x, .iface 140 (.pointer (some ⟨N, 0, none⟩))]) ∧ Below w.heap.size w w' := by
  cases hx : Lib.atoiAll s.data.toList
  · exact absurd hx (h _)
  · obtain ⟨t1, p1, h1⟩ := hE.syn
    exact (Any.strconv_Atoi_syntax_var Tryz.laysC172 s (by omega) hx t1 p1 w h1).mono fun e w' ⟨N, he, _, _, hb⟩ => ⟨_, N, he, hb⟩
  · obtain ⟨t1, p1, h1⟩ := hE.rng
    exact (Any.strconv_Atoi_range_var Tryz.laysC172 s (by omega) hx t1 p1 w h1).mono fun e w' ⟨N, he, _, _, hb⟩ => ⟨_, N, he, hb⟩

theorem itoa_any (n : Int) (h0 : -9223372036854775808 ≤ n) (h1 : n ≤ 9223372036854775807) (w : World) (hE : Env w) :
    Calls Tryz.prog 34 #[.int .i64 n] w fun e w' => e = .returned (.string ⟨(Lib.itoa n).toArray⟩) ∧ Below w.heap.size w w' :=
  (Tryz.strconv_Itoa n h0 h1 w hE.pow).mono fun e w' ⟨he, k, os, hw⟩ => ⟨he, by subst hw; exact below_grow w k os⟩

theorem split_pts (s : ByteArray) : (Lib.splitB ⟨#[46]⟩ 0 (Lib.countB s ⟨#[46]⟩) s).map (·.data.toList) = pieces 46 s.data.toList ∧ (Lib.splitB ⟨#[46]⟩ 0 (Lib.countB s ⟨#[46]⟩) s).length = Lib.countB s ⟨#[46]⟩ + 1 :=
  ⟨by rw [Lib.splitB_data]; exact split_pieces 46 _, Lib.splitB_all _ (by decide) 0 _ _ rfl⟩

/-- the world of Parse's loop: the result's cells (block B), the words (B + 1), the version under way (B + 2) -/
structure PRel (B : Nat) (p q r : ByteArray) (w wr : World) (x0 x1 x2 : Int) : Prop where
  old : Below B w wr
  size : B + 3 ≤ wr.heap.size
  a0 : wr.cell? ⟨B, 0, none⟩ = some (.int .i64 0)
  a1 : wr.cell? ⟨B, 1, none⟩ = some (.int .i64 0)
  a2 : wr.cell? ⟨B, 2, none⟩ = some (.int .i64 0)
  fa : ∀ j, wr.frozen? ⟨B, j, none⟩ = false
  p0 : wr.cell? ⟨B + 1, 0, none⟩ = some (.string p)
  p1 : wr.cell? ⟨B + 1, 1, none⟩ = some (.string q)
  p2 : wr.cell? ⟨B + 1, 2, none⟩ = some (.string r)
  c0 : wr.cell? ⟨B + 1 + 1, 0, none⟩ = some (.int .i64 x0)
  c1 : wr.cell? ⟨B + 1 + 1, 1, none⟩ = some (.int .i64 x1)
  c2 : wr.cell? ⟨B + 1 + 1, 2, none⟩ = some (.int .i64 x2)
  fc : ∀ j, wr.frozen? ⟨B + 1 + 1, j, none⟩ = false
theorem PRel.next {B : Nat} {p q r : ByteArray} {w wr w1 : World} {x0 x1 x2 : Int} (h : PRel B p q r w wr x0 x1 x2) (hb : Below wr.heap.size wr w1) : PRel B p q r w w1 x0 x1 x2 := by
  obtain ⟨hc, hf⟩ := bcell hb
  have hs := h.size
  exact ⟨h.old.trans (hb.mono (by omega)), Nat.le_trans hs hb.size, (hc _ _ (by omega)).trans h.a0, (hc _ _ (by omega)).trans h.a1, (hc _ _ (by omega)).trans h.a2, fun j => (hf _ _ (by omega)).trans (h.fa j),
    (hc _ _ (by omega)).trans h.p0, (hc _ _ (by omega)).trans h.p1, (hc _ _ (by omega)).trans h.p2, (hc _ _ (by omega)).trans h.c0, (hc _ _ (by omega)).trans h.c1, (hc _ _ (by omega)).trans h.c2, fun j => (hf _ _ (by omega)).trans (h.fc j)⟩
theorem PRel.start (p q r : ByteArray) (w : World) : PRel w.heap.size p q r w (((w.alloc (.cells #[.int .i64 0, .int .i64 0, .int .i64 0] 31)).alloc (.cells (List.map Value.string [p, q, r]).toArray 9)).alloc (.cells #[.int .i64 0, .int .i64 0, .int .i64 0] 31)) 0 0 0 := by
  refine ⟨(((Below.refl _ _).alloc (Nat.le_refl _) _).alloc (by simp) _).alloc (by simp; omega) _, by simp, ?_, ?_, ?_, ?_, ?_, ?_, ?_, ?_, ?_, ?_, ?_⟩
  all_goals first | go_simp | (intro j; go_simp)
theorem btl (s : ByteArray) : s.toList = s.data.toList := ByteArray.toList_eq s
theorem PRel.end0 {p q r : ByteArray} {w wr : World} {x0 x1 x2 : Int} (h : PRel w.heap.size p q r w wr x0 x1 x2) : Below w.heap.size w (((wr.setCell ⟨w.heap.size, 0, none⟩ (.int .i64 0)).setCell ⟨w.heap.size, 1, none⟩ (.int .i64 0)).setCell ⟨w.heap.size, 2, none⟩ (.int .i64 0)) :=
  ((h.old.setCell (Nat.le_refl _) _).setCell (Nat.le_refl _) _).setCell (Nat.le_refl _) _
theorem PRel.end1 {p q r : ByteArray} {w wr : World} {x0 x1 x2 y0 y1 y2 : Int} (h : PRel w.heap.size p q r w wr x0 x1 x2) : Below w.heap.size w (((wr.setCell ⟨w.heap.size, 0, none⟩ (.int .i64 y0)).setCell ⟨w.heap.size, 1, none⟩ (.int .i64 y1)).setCell ⟨w.heap.size, 2, none⟩ (.int .i64 y2)) :=
  ((h.old.setCell (Nat.le_refl _) _).setCell (Nat.le_refl _) _).setCell (Nat.le_refl _) _
theorem PRel.set0 {B : Nat} {p q r : ByteArray} {w wr : World} {x0 x1 x2 : Int} (h : PRel B p q r w wr x0 x1 x2) (x : Int) : PRel B p q r w (wr.setCell ⟨B + 1 + 1, 0, none⟩ (.int .i64 x)) x x1 x2 := by
  obtain ⟨h1, h2, h3, h4, h5, h6, h7, h8, h9, h10, h11, h12, h13⟩ := h
  refine ⟨h1.setCell (by show B ≤ B + 1 + 1; omega) _, by simpa [World.setCell] using h2, ?_, ?_, ?_, ?_, ?_, ?_, ?_, ?_, ?_, ?_, ?_⟩
  all_goals first | (intro j; rw [World.frozen?_setCell]; first | exact h6 j | exact h13 j) | (rw [World.cell?_setCell_other _ _ _ _ (by simp)]; assumption) | (exact World.cell?_setCell_same _ _ _ h10)
theorem PRel.set1 {B : Nat} {p q r : ByteArray} {w wr : World} {x0 x1 x2 : Int} (h : PRel B p q r w wr x0 x1 x2) (x : Int) : PRel B p q r w (wr.setCell ⟨B + 1 + 1, 1, none⟩ (.int .i64 x)) x0 x x2 := by
  obtain ⟨h1, h2, h3, h4, h5, h6, h7, h8, h9, h10, h11, h12, h13⟩ := h
  refine ⟨h1.setCell (by show B ≤ B + 1 + 1; omega) _, by simpa [World.setCell] using h2, ?_, ?_, ?_, ?_, ?_, ?_, ?_, ?_, ?_, ?_, ?_⟩
  all_goals first | (intro j; rw [World.frozen?_setCell]; first | exact h6 j | exact h13 j) | (rw [World.cell?_setCell_other _ _ _ _ (by simp)]; assumption) | (exact World.cell?_setCell_same _ _ _ h11)
theorem PRel.set2 {B : Nat} {p q r : ByteArray} {w wr : World} {x0 x1 x2 : Int} (h : PRel B p q r w wr x0 x1 x2) (x : Int) : PRel B p q r w (wr.setCell ⟨B + 1 + 1, 2, none⟩ (.int .i64 x)) x0 x1 x := by
  obtain ⟨h1, h2, h3, h4, h5, h6, h7, h8, h9, h10, h11, h12, h13⟩ := h
  refine ⟨h1.setCell (by show B ≤ B + 1 + 1; omega) _, by simpa [World.setCell] using h2, ?_, ?_, ?_, ?_, ?_, ?_, ?_, ?_, ?_, ?_, ?_⟩
  all_goals first | (intro j; rw [World.frozen?_setCell]; first | exact h6 j | exact h13 j) | (rw [World.cell?_setCell_other _ _ _ _ (by simp)]; assumption) | (exact World.cell?_setCell_same _ _ _ h12)

set_option maxHeartbeats 1000000 in
theorem parse_any (s : ByteArray) (hs : s.size ≤ 1048576) (w : World) (hE : Env w) :
    Calls Tryz.prog 45 #[.string s] w fun e w' => e = .returned (PV (parseL s.data.toList)) ∧ Below w.heap.size w w' := by
  obtain ⟨hp, hl⟩ := split_pts s
  obtain ⟨m, hm⟩ := (hE.alloc (.cells #[.int .i64 0, .int .i64 0, .int .i64 0] 31)).max
  have hc := Lib.countB_le ⟨#[46]⟩ (by decide) _ s (Nat.le_refl _)
  have hc1 : Lib.countB s ⟨#[46]⟩ ≤ 1048576 := by omega
  clear hc
  have HP := Lib.hid (show pieces 46 s.data.toList = _ from hp.symm)
  clear hp
  generalize hxs : Lib.splitB ⟨#[46]⟩ 0 (Lib.countB s ⟨#[46]⟩) s = xs at *
  generalize hn : Lib.countB s ⟨#[46]⟩ = n at *
  have HX := Lib.hid hxs
  have HN := Lib.hid hn
  have HL := Lib.hid hl
  clear hxs hn hl
  go_enter Tryz.func45, Tryz.ntmps45
  go_wp2_with fail
  refine (Tryz.strings_Split s ⟨#[46]⟩ m _ (by omega) hm (by decide)).mono ?_
  rintro e w1 ⟨rfl, rfl⟩
  rw [HN.out, HX.out]
  by_cases h3 : n = 2
  · subst h3
    obtain ⟨p, q, r, rfl⟩ : ∃ p q r, xs = [p, q, r] := by
      have hl := HL.out
      match xs, hl with
      | [p, q, r], _ => exact ⟨p, q, r, rfl⟩
    have HS := PRel.start p q r w
    have hsz0 : Hid (p.size ≤ 1048576) := by
      have h := pieces_len 46 s.data.toList p.data.toList (by rw [HP.out]; simp)
      rw [← Lib.size_eq, ← Lib.size_eq] at h
      exact (show p.size ≤ 1048576 by omega)
    have hsz1 : Hid (q.size ≤ 1048576) := by
      have h := pieces_len 46 s.data.toList q.data.toList (by rw [HP.out]; simp)
      rw [← Lib.size_eq, ← Lib.size_eq] at h
      exact (show q.size ≤ 1048576 by omega)
    have hsz2 : Hid (r.size ≤ 1048576) := by
      have h := pieces_len 46 s.data.toList r.data.toList (by rw [HP.out]; simp)
      rw [← Lib.size_eq, ← Lib.size_eq] at h
      exact (show r.size ≤ 1048576 by omega)
    clear hm
    go_wp2_with fail
    go_loopw [18] (fun i wr => ∃ (k : Nat) (x0 x1 x2 : Int), k ≤ 3 ∧ i = .int .i64 k ∧ PRel w.heap.size p q r w wr x0 x1 x2 ∧ (1 ≤ k → partV p.data.toList = some x0) ∧ (2 ≤ k → partV q.data.toList = some x1) ∧ (3 ≤ k → partV r.data.toList = some x2)) (fun i _ => 3 - (intOf i).toNat)
    case atStart => exact ⟨0, 0, 0, 0, by omega, rfl, HS, by omega, by omega, by omega⟩
    case round =>
      obtain ⟨k, x0, x1, x2, hk, rfl, hR, h0, h1, h2⟩ := hrel
      clear HS
      have hk5 : k = 0 ∨ k = 1 ∨ k = 2 ∨ k = 3 := by omega
      rcases hk5 with rfl | rfl | rfl | rfl
      ·
        clear h0 h1 h2
        have hE1 := hE.below (Nat.le_refl _) hR.old
        have hp0 := hR.p0
        have hsz := hsz0.out
        by_cases hat : ∃ v, Lib.atoiAll p.data.toList = .ok v
        · obtain ⟨v, hv⟩ := hat
          obtain ⟨v0, v1⟩ := atoi_bd hv
          have HV := Lib.hid hv
          clear hv
          by_cases hi : Lib.itoa v = p.data.toList
          · have hpv := Lib.hid (partV_ok HV.out hi)
            have HI := Lib.hid hi
            have ht : (!Lib.itoa v == p.toList) = false := by rw [btl, hi]; simp
            clear hi
            go_wp2_with fail
            refine (atoi_ok p hsz v HV.out _).mono ?_
            rintro e w1 ⟨rfl, hb1⟩
            have hE2 := hE1.below (Nat.le_refl _) hb1
            have hR1 := hR.next hb1
            clear hp0
            go_wp2_with fail
            refine (itoa_any v v0 v1 _ hE2).mono ?_
            rintro e w2 ⟨rfl, hb2⟩
            have hR2 := hR1.next hb2
            have c0 := hR2.c0
            have fc := hR2.fc
            go_wp2
            go_roundw
            case rel => exact ⟨1, v, x1, x2, by omega, rfl, hR2.set0 v, by intro _; exact hpv.out, by omega, by omega⟩
            case measure => simp [intOf]
          · have hpv := Lib.hid (partV_off HV.out hi)
            have HI := Lib.hid hi
            have ht : (!Lib.itoa v == p.toList) = true := by rw [btl]; simpa using hi
            clear hi
            go_wp2_with fail
            refine (atoi_ok p hsz v HV.out _).mono ?_
            rintro e w1 ⟨rfl, hb1⟩
            have hE2 := hE1.below (Nat.le_refl _) hb1
            have hR1 := hR.next hb1
            clear hp0
            go_wp2_with fail
            refine (itoa_any v v0 v1 _ hE2).mono ?_
            rintro e w2 ⟨rfl, hb2⟩
            have hR2 := hR1.next hb2
            have a0 := hR2.a0
            have a1 := hR2.a1
            have a2 := hR2.a2
            have fa := hR2.fa
            go_wp2
            refine bodyPost_ret (v := .tuple #[V 0 0 0, .int .i64 20]) (by simp [results, Tryz.results45, go_sem, a0, a1, a2]) rfl ⟨?_, ?_⟩
            · rw [parseL, HP.out]; simp [parseP, parse3, hpv.out, PV_none]
            · exact hR2.end0
        · have hat' : ∀ v, Lib.atoiAll p.data.toList ≠ .ok v := fun v hv => hat ⟨v, hv⟩
          have hpv := Lib.hid (partV_bad hat')
          have HA := Lib.hid hat'
          clear hat hat'
          go_wp2_with fail
          refine (atoi_bad p hsz HA.out _ hE1).mono ?_
          rintro e w1 ⟨x, N, rfl, hb1⟩
          have hR1 := hR.next hb1
          have a0 := hR1.a0
          have a1 := hR1.a1
          have a2 := hR1.a2
          have fa := hR1.fa
          clear hp0
          go_wp2
          refine bodyPost_ret (v := .tuple #[V 0 0 0, .int .i64 20]) (by simp [results, Tryz.results45, go_sem, a0, a1, a2]) rfl ⟨?_, ?_⟩
          · rw [parseL, HP.out]; simp [parseP, parse3, hpv.out, PV_none]
          · exact hR1.end0
      ·
        have g0 := h0 (by omega)
        clear h0 h1 h2
        have G0 := Lib.hid g0; clear g0
        have hE1 := hE.below (Nat.le_refl _) hR.old
        have hp1 := hR.p1
        have hsz := hsz1.out
        by_cases hat : ∃ v, Lib.atoiAll q.data.toList = .ok v
        · obtain ⟨v, hv⟩ := hat
          obtain ⟨v0, v1⟩ := atoi_bd hv
          have HV := Lib.hid hv
          clear hv
          by_cases hi : Lib.itoa v = q.data.toList
          · have hpv := Lib.hid (partV_ok HV.out hi)
            have HI := Lib.hid hi
            have ht : (!Lib.itoa v == q.toList) = false := by rw [btl, hi]; simp
            clear hi
            go_wp2_with fail
            refine (atoi_ok q hsz v HV.out _).mono ?_
            rintro e w1 ⟨rfl, hb1⟩
            have hE2 := hE1.below (Nat.le_refl _) hb1
            have hR1 := hR.next hb1
            clear hp1
            go_wp2_with fail
            refine (itoa_any v v0 v1 _ hE2).mono ?_
            rintro e w2 ⟨rfl, hb2⟩
            have hR2 := hR1.next hb2
            have c1 := hR2.c1
            have fc := hR2.fc
            go_wp2
            go_roundw
            case rel => exact ⟨2, x0, v, x2, by omega, rfl, hR2.set1 v, by intro _; exact G0.out, by intro _; exact hpv.out, by omega⟩
            case measure => simp [intOf]
          · have hpv := Lib.hid (partV_off HV.out hi)
            have HI := Lib.hid hi
            have ht : (!Lib.itoa v == q.toList) = true := by rw [btl]; simpa using hi
            clear hi
            go_wp2_with fail
            refine (atoi_ok q hsz v HV.out _).mono ?_
            rintro e w1 ⟨rfl, hb1⟩
            have hE2 := hE1.below (Nat.le_refl _) hb1
            have hR1 := hR.next hb1
            clear hp1
            go_wp2_with fail
            refine (itoa_any v v0 v1 _ hE2).mono ?_
            rintro e w2 ⟨rfl, hb2⟩
            have hR2 := hR1.next hb2
            have a0 := hR2.a0
            have a1 := hR2.a1
            have a2 := hR2.a2
            have fa := hR2.fa
            go_wp2
            refine bodyPost_ret (v := .tuple #[V 0 0 0, .int .i64 20]) (by simp [results, Tryz.results45, go_sem, a0, a1, a2]) rfl ⟨?_, ?_⟩
            · rw [parseL, HP.out]; simp [parseP, parse3, hpv.out, PV_none, G0.out]
            · exact hR2.end0
        · have hat' : ∀ v, Lib.atoiAll q.data.toList ≠ .ok v := fun v hv => hat ⟨v, hv⟩
          have hpv := Lib.hid (partV_bad hat')
          have HA := Lib.hid hat'
          clear hat hat'
          go_wp2_with fail
          refine (atoi_bad q hsz HA.out _ hE1).mono ?_
          rintro e w1 ⟨x, N, rfl, hb1⟩
          have hR1 := hR.next hb1
          have a0 := hR1.a0
          have a1 := hR1.a1
          have a2 := hR1.a2
          have fa := hR1.fa
          clear hp1
          go_wp2
          refine bodyPost_ret (v := .tuple #[V 0 0 0, .int .i64 20]) (by simp [results, Tryz.results45, go_sem, a0, a1, a2]) rfl ⟨?_, ?_⟩
          · rw [parseL, HP.out]; simp [parseP, parse3, hpv.out, PV_none, G0.out]
          · exact hR1.end0
      ·
        have g0 := h0 (by omega)
        have g1 := h1 (by omega)
        clear h0 h1 h2
        have G0 := Lib.hid g0; clear g0
        have G1 := Lib.hid g1; clear g1
        have hE1 := hE.below (Nat.le_refl _) hR.old
        have hp2 := hR.p2
        have hsz := hsz2.out
        by_cases hat : ∃ v, Lib.atoiAll r.data.toList = .ok v
        · obtain ⟨v, hv⟩ := hat
          obtain ⟨v0, v1⟩ := atoi_bd hv
          have HV := Lib.hid hv
          clear hv
          by_cases hi : Lib.itoa v = r.data.toList
          · have hpv := Lib.hid (partV_ok HV.out hi)
            have HI := Lib.hid hi
            have ht : (!Lib.itoa v == r.toList) = false := by rw [btl, hi]; simp
            clear hi
            go_wp2_with fail
            refine (atoi_ok r hsz v HV.out _).mono ?_
            rintro e w1 ⟨rfl, hb1⟩
            have hE2 := hE1.below (Nat.le_refl _) hb1
            have hR1 := hR.next hb1
            clear hp2
            go_wp2_with fail
            refine (itoa_any v v0 v1 _ hE2).mono ?_
            rintro e w2 ⟨rfl, hb2⟩
            have hR2 := hR1.next hb2
            have c2 := hR2.c2
            have fc := hR2.fc
            go_wp2
            go_roundw
            case rel => exact ⟨3, x0, x1, v, by omega, rfl, hR2.set2 v, by intro _; exact G0.out, by intro _; exact G1.out, by intro _; exact hpv.out⟩
            case measure => simp [intOf]
          · have hpv := Lib.hid (partV_off HV.out hi)
            have HI := Lib.hid hi
            have ht : (!Lib.itoa v == r.toList) = true := by rw [btl]; simpa using hi
            clear hi
            go_wp2_with fail
            refine (atoi_ok r hsz v HV.out _).mono ?_
            rintro e w1 ⟨rfl, hb1⟩
            have hE2 := hE1.below (Nat.le_refl _) hb1
            have hR1 := hR.next hb1
            clear hp2
            go_wp2_with fail
            refine (itoa_any v v0 v1 _ hE2).mono ?_
            rintro e w2 ⟨rfl, hb2⟩
            have hR2 := hR1.next hb2
            have a0 := hR2.a0
            have a1 := hR2.a1
            have a2 := hR2.a2
            have fa := hR2.fa
            go_wp2
            refine bodyPost_ret (v := .tuple #[V 0 0 0, .int .i64 20]) (by simp [results, Tryz.results45, go_sem, a0, a1, a2]) rfl ⟨?_, ?_⟩
            · rw [parseL, HP.out]; simp [parseP, parse3, hpv.out, PV_none, G0.out, G1.out]
            · exact hR2.end0
        · have hat' : ∀ v, Lib.atoiAll r.data.toList ≠ .ok v := fun v hv => hat ⟨v, hv⟩
          have hpv := Lib.hid (partV_bad hat')
          have HA := Lib.hid hat'
          clear hat hat'
          go_wp2_with fail
          refine (atoi_bad r hsz HA.out _ hE1).mono ?_
          rintro e w1 ⟨x, N, rfl, hb1⟩
          have hR1 := hR.next hb1
          have a0 := hR1.a0
          have a1 := hR1.a1
          have a2 := hR1.a2
          have fa := hR1.fa
          clear hp2
          go_wp2
          refine bodyPost_ret (v := .tuple #[V 0 0 0, .int .i64 20]) (by simp [results, Tryz.results45, go_sem, a0, a1, a2]) rfl ⟨?_, ?_⟩
          · rw [parseL, HP.out]; simp [parseP, parse3, hpv.out, PV_none, G0.out, G1.out]
          · exact hR1.end0
      ·
        have g0 := h0 (by omega)
        have g1 := h1 (by omega)
        have g2 := h2 (by omega)
        clear h0 h1 h2
        have G0 := Lib.hid g0; clear g0
        have G1 := Lib.hid g1; clear g1
        have G2 := Lib.hid g2; clear g2
        have c0 := hR.c0
        have c1 := hR.c1
        have c2 := hR.c2
        cases hg : goodB x0 x1 x2
        · have HG := Lib.hid hg
          go_wp2_with fail
          refine (good_any x0 x1 x2 _).mono ?_
          rintro e w1 ⟨rfl, hb1⟩
          have hR1 := hR.next hb1
          have a0 := hR1.a0
          have a1 := hR1.a1
          have a2 := hR1.a2
          have fa := hR1.fa
          go_wp2
          refine bodyPost_ret (v := .tuple #[V 0 0 0, .int .i64 20]) (by simp [results, Tryz.results45, go_sem, a0, a1, a2]) rfl ⟨?_, ?_⟩
          · rw [parseL, HP.out]; simp [parseP, parse3, G0.out, G1.out, G2.out, HG.out, PV_none]
          · exact hR1.end0
        · have HG := Lib.hid hg
          go_wp2_with fail
          refine (good_any x0 x1 x2 _).mono ?_
          rintro e w1 ⟨rfl, hb1⟩
          have hR1 := hR.next hb1
          have a0 := hR1.a0
          have a1 := hR1.a1
          have a2 := hR1.a2
          have fa := hR1.fa
          have d0 := hR1.c0
          have d1 := hR1.c1
          have d2 := hR1.c2
          clear c0 c1 c2
          go_wp2
          refine bodyPost_ret (v := .tuple #[V x0 x1 x2, .int .i64 0]) (by simp [results, Tryz.results45, go_sem, a0, a1, a2]) rfl ⟨?_, ?_⟩
          · rw [parseL, HP.out]; simp [parseP, parse3, G0.out, G1.out, G2.out, HG.out, PV_some]
          · exact hR1.end1
  · have hx : decide (((n : Int) + 1) = 3) = false := by simp; omega
    have hb : (((n : Int) + 1) != 3) = true := by rw [bne_iff_ne]; omega
    have h3' : ¬ ((n : Int) + 1 = 3) := by omega
    go_wp2_with fail
    refine bodyPost_ret (v := .tuple #[V 0 0 0, .int .i64 20]) (by simp [results, Tryz.results45, go_sem]) rfl ⟨?_, ?_⟩
    · rw [parseL, HP.out]
      have hl := HL.out
      rcases xs with _ | ⟨p, _ | ⟨q, _ | ⟨r, _ | ⟨u, xs⟩⟩⟩⟩ <;> simp_all [parseP, PV_none]
    · exact ((Below.refl _ _).alloc (Nat.le_refl _) _).alloc (by simp) _

end Vs
end Go.Proofs.YtlmmhhkhoaoheaaGreatDoor
