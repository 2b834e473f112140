/-
  Walk: the reference's take.
-/
import Derived.Test.YtbhngjhfeejeiaaGreatDoorSxRG
import Derived.Test.YtbhngjhfeejeiaaGreatDoorSxS
namespace Go.Proofs.YtbhngjhfeejeiaaGreatDoor
open Go.RowKit
namespace Sx

theorem KR.low {W : World} {B h : Nat} {v : Value} {ts : List T} {qs : List Q3} (k : KR W B h v ts qs) (p : Addr) (hp : p.block < B) (u : Value) : KR (W.setCell p u) B h v ts qs :=
  k.same (by simp [World.setCell]) (fun j hj _ => Below.heap_setCell _ _ _ _ (by omega))
theorem lit3' (W : World) (o : Obj) (x y z : Value) (t : TypeId) : ∀ j u, [x, y, z][j]? = some u → ((W.alloc o).alloc (.cells #[x, y, z] t)).cell? ((⟨W.heap.size + 1, 0, none⟩ : Addr).add j) = some u := by
  have h := heap_alloc_new (W.alloc o) (.cells #[x, y, z] t)
  rw [show (W.alloc o).heap.size = W.heap.size + 1 by simp] at h
  exact World.news_of_block h
/-- the state at a round's head -/
structure LT (W wr : World) (s : ByteArray) (h : Nat) (v : Value) (ts : List T) (qs : List Q3) (m f : Nat) : Prop where
  kr : KR wr (W.heap.size + 2) h v ts qs
  nb : NB wr (W.heap.size + 1) v
  old : Below W.heap.size W wr
  bx : wr.heap[W.heap.size]? = some (.cells #[.bool false, .string ⟨#[]⟩, .slice none 0 0] 39 (0, 0))
  lo : 1 ≤ m
  hi : m ≤ s.size
  few : ts.length ≤ m
  fuel : s.size - m + 1 ≤ f
  eq : kidsP (tk h) f (s.data.toList.drop m) ts m = tk (h + 1) s.data.toList
theorem ext_end {s : ByteArray} {m : Nat} : (s.extract m s.size).data.toList = s.data.toList.drop m := by
  rw [ext_take, List.take_of_length_le (by rw [List.length_drop, Lib.size_eq]; exact Nat.le_refl _)]
theorem after_kid2 {W wr w1 w2 : World} {h m : Nat} {s : ByteArray} {f : Nat} {v : Value} {ts : List T} {qs : List Q3} (L : LT W wr s h v ts qs m f) (hb : Below wr.heap.size wr w1) {o o' : Obj} (hgr : ((w1.alloc o).alloc o').grownBy w2 v.ownBlock) :
    NB w2 (W.heap.size + 1) v ∧ Below W.heap.size W w2 ∧ w2.heap[W.heap.size]? = some (.cells #[.bool false, .string ⟨#[]⟩, .slice none 0 0] 39 (0, 0)) ∧ (∀ j, j < w1.heap.size → v.ownBlock ≠ some j → w2.heap[j]? = w1.heap[j]?) ∧ w1.heap.size + 2 ≤ w2.heap.size ∧ W.heap.size + 1 < wr.heap.size := by
  have hv : ∀ j, v.ownBlock = some j → W.heap.size + 2 ≤ j ∧ j < wr.heap.size := fun j hj => L.kr.own.lt j hj
  have hN := L.nb.lt
  have hw1 : wr.heap.size ≤ w1.heap.size := hb.size
  have hsz : w1.heap.size + 2 ≤ w2.heap.size := by have := hgr.size; simp at this; omega
  have hX : Below w1.heap.size w1 ((w1.alloc o).alloc o') := ((Below.refl _ _).alloc (Nat.le_refl _) _).alloc (by simp) _
  have hblk : ∀ j, j < w1.heap.size → v.ownBlock ≠ some j → w2.heap[j]? = w1.heap[j]? := fun j hj hne =>
    (hgr.block j (by simp; omega) (fun e => hne e.symm)).trans (hX.block j hj)
  refine ⟨((L.nb.below hb).below hX).grown hgr (fun e => by have := hv _ e.symm; omega), ?_, ?_, hblk, hsz, hN⟩
  · have h1 := L.old.trans (hb.mono L.old.size)
    have h2 := h1.trans (hX.mono h1.size)
    exact h2.grown hgr h2.size (fun j hj => by have := hv j hj; omega)
  · rw [hblk _ (by omega) (fun e => by have := hv _ e; omega), hb.block _ (by omega)]
    exact L.bx
theorem LT.next {W wr w1 w2 : World} {h m : Nat} {s : ByteArray} {f : Nat} {v x y z : Value} {ts : List T} {qs : List Q3} (L : LT W wr s h v ts qs m f) {k : Nat} {t : T} (hm : m < s.size) (hc : s[m] ≠ 41) (hO : tk h (s.data.toList.drop m) = .ok t k)
    (hrep : RepS w1 (fun j => wr.heap.size ≤ j ∧ j < w1.heap.size) h t (.agg #[x, y, z])) (hb : Below wr.heap.size wr w1) {g cap : Nat} {o o' : Obj}
    (hown : w2.ownsRow (W.heap.size + 2) 39 3 (.slice (some ⟨g, 0, none⟩) (ts.length + 1) cap) (ts.length + 1) (row3 qs ++ [x, y, z]))
    (hgr : ((w1.alloc o).alloc o').grownBy w2 v.ownBlock) (hat : v.ownBlock = some g ∨ g = w1.heap.size + 2) :
    LT W (w2.setCell ⟨W.heap.size + 1, 2, none⟩ (.slice (some ⟨g, 0, none⟩) (ts.length + 1) cap)) s h (.slice (some ⟨g, 0, none⟩) (ts.length + 1) cap) (ts ++ [t]) (qs ++ [(x, y, z)]) (m + k) (f - 1) := by
  obtain ⟨h1, h2, h3, h4, h5, h6⟩ := after_kid2 L hb hgr
  obtain ⟨e1, e2, e3⟩ := tk_enc _ _ _ _ hO
  rw [List.length_drop] at e2
  have hzz := Lib.size_eq s
  have hf := L.fuel
  have hlo := L.lo
  obtain ⟨f', rfl⟩ : ∃ f', f = f' + 1 := ⟨f - 1, by omega⟩
  refine ⟨?_, h1.set _, h2.setCell (Nat.le_succ _) _, (Below.heap_setCell _ _ _ _ (by show W.heap.size ≠ W.heap.size + 1; omega)).trans h3, by omega, by omega, by have := L.few; simp; omega, by omega, ?_⟩
  · refine KR.low ?_ _ (Nat.lt_succ_self _) _
    exact L.kr.snoc (W0 := wr) (q := (x, y, z)) hb.size (fun j hj1 hj2 => hb.block j hj2) (by omega) hrep.one hrep (Nat.le_add_right _ 2) ⟨by omega, h4⟩ hat hown
  · rw [← L.eq]
    have hd := drop_cons hm
    rw [hd] at hO
    rw [hd, kids_ok hc hO, ← hd, List.drop_drop]
    rfl
theorem LT.done {W wr : World} {h m : Nat} {s : ByteArray} {f : Nat} {sl : Option Addr} {cap : Nat} {ts : List T} {qs : List Q3} (L : LT W wr s h (.slice sl ts.length cap) ts qs m f) (hN : tk (h + 1) s.data.toList = .ok (.list ts) (m + 1)) :
    RR W (h + 1) (tk (h + 1) s.data.toList) (.returned (.tuple #[.agg #[.bool false, .string ⟨#[]⟩, .slice sl ts.length cap], .int .i64 ((m + 1 : Nat) : Int), .int .i64 0])) (((wr.setCell ⟨W.heap.size, 0, none⟩ (.bool false)).setCell ⟨W.heap.size, 1, none⟩ (.string ⟨#[]⟩)).setCell ⟨W.heap.size, 2, none⟩ (.slice sl ts.length cap)) := by
  rw [hN]
  refine ⟨⟨_, _, _, _, _, _, _, rfl, rfl, rfl, ?_⟩, ((L.old.setCell (Nat.le_refl _) _).setCell (Nat.le_refl _) _).setCell (Nat.le_refl _) _⟩
  refine (L.kr.list.same (fun j o hj => World.cell?_of_block ?_)).sub (fun j hj => ⟨by omega, by simp [World.setCell]; exact hj.2⟩)
  have hj1 : W.heap.size + 2 ≤ j := hj.1
  have hj2 : j ≠ W.heap.size := by omega
  rw [Below.heap_setCell _ _ _ _ hj2, Below.heap_setCell _ _ _ _ hj2, Below.heap_setCell _ _ _ _ hj2]
theorem own_alloc2 {wr w1 : World} {B h : Nat} {v : Value} {ts : List T} {qs : List Q3} (k : KR wr B h v ts qs) (hb : Below wr.heap.size wr w1) (o o' : Obj) : ((w1.alloc o).alloc o').ownsRow B 39 3 v ts.length (row3 qs) :=
  ((own_block k.own (fun j hj => hb.block j (k.own.lt j hj).2)).alloc o).alloc o'
theorem RR.more {W : World} {o : Out} {e : Ending} {W' : World} (h : RR W 0 o e W') (k : Nat) : RR W k o e W' := by
  obtain ⟨⟨β, σ, sl, n, cap, u, f, he, hm⟩, hb⟩ := h
  refine ⟨⟨β, σ, sl, n, cap, u, f, he, ?_⟩, hb⟩
  cases o with
  | bad g => exact hm
  | ok t n =>
    refine ⟨hm.1, hm.2.1, ?_⟩
    have hr := hm.2.2
    induction k with
    | zero => exact hr
    | succ k ih => exact ih.more

theorem RR.pass {W X w1 : World} {h : Nat} {o : Out} {β : Bool} {σ : ByteArray} {sl : Option Addr} {n cap k : Nat} {f : Int} (hX : Below W.heap.size W X) (hsz : W.heap.size < X.heap.size)
    (hm : match o with
      | .ok t u => f = 0 ∧ k = u ∧ RepS w1 (fun k => X.heap.size ≤ k ∧ k < w1.heap.size) h t (.agg #[.bool β, .string σ, .slice sl n cap])
      | .bad g => f = g ∧ (g = 4 ∨ g = 5)) (hb : Below X.heap.size X w1) :
    RR W h o (.returned (.tuple #[.agg #[.bool β, .string σ, .slice sl n cap], .int .i64 k, .int .i64 f])) (((w1.setCell ⟨W.heap.size, 0, none⟩ (.bool β)).setCell ⟨W.heap.size, 1, none⟩ (.string σ)).setCell ⟨W.heap.size, 2, none⟩ (.slice sl n cap)) := by
  refine ⟨⟨_, _, _, _, _, _, _, rfl, ?_⟩, (((hX.trans (hb.mono hX.size)).setCell (Nat.le_refl _) _).setCell (Nat.le_refl _) _).setCell (Nat.le_refl _) _⟩
  cases o with
  | bad g => exact hm
  | ok t u =>
    refine ⟨hm.1, hm.2.1, (hm.2.2.same (fun j o hj => World.cell?_of_block ?_)).sub (fun j hj => ⟨by omega, by simp [World.setCell]; exact hj.2⟩)⟩
    have hj1 : X.heap.size ≤ j := hj.1
    have hj2 : j ≠ W.heap.size := by omega
    rw [Below.heap_setCell _ _ _ _ hj2, Below.heap_setCell _ _ _ _ hj2, Below.heap_setCell _ _ _ _ hj2]

set_option maxHeartbeats 8000000 in
set_option maxRecDepth 100000 in
theorem rtake_any : ∀ (h : Nat) (W : World) (s : ByteArray) (deep : Nat), s.size ≤ 65536 → deep + h = 32 →
    Calls Tryz.prog 31 #[.string s, .int .i64 deep] W fun e W' => RR W h (tk h s.data.toList) e W' := by
  intro h
  induction h with
  | zero =>
    intro W s deep hs hd
    have hX : Below W.heap.size W (W.alloc (.cells #[.bool false, .string ⟨#[]⟩, .slice none 0 0] 39)) := (Below.refl _ _).alloc (Nat.le_refl _) _
    have hbx : (W.alloc (.cells #[.bool false, .string ⟨#[]⟩, .slice none 0 0] 39)).heap[W.heap.size]? = some (.cells #[.bool false, .string ⟨#[]⟩, .slice none 0 0] 39 (0, 0)) := heap_alloc_new W _
    by_cases ga : s = ⟨#[]⟩
    · have hN := Lib.hid (show tk 0 s.data.toList = .bad 5 by rw [ga]; exact tk_nil _)
      have k1 := emp_tt ga
      clear ga
      go_enter Tryz.func31, Tryz.ntmps31
      go_wp2_with fail
      refine bodyPost_ret (v := .tuple #[.agg #[.bool false, .string ⟨#[]⟩, .slice none 0 0], .int .i64 0, .int .i64 5]) (by simp [results, Tryz.results31, go_sem]) rfl ?_
      rw [hN.out]
      exact ⟨⟨_, _, _, _, _, 0, _, rfl, rfl, .inr rfl⟩, hX⟩
    · have k1 := emp_ff ga
      have ga' : 0 < s.size := by
        rcases Nat.eq_zero_or_pos s.size with h0 | h0
        · exact absurd (ByteArray.size_eq_zero_iff.1 h0) ga
        · exact h0
      have hd0 := drop_cons ga'
      rw [List.drop_zero] at hd0
      clear ga
      by_cases gc : s[0].toNat = 40
      · have k2 : ((s[0].toNat : Int) == 40) = true := by simp [gc]
        have k2' : ((s[0].toNat : Int) != 40) = false := by simp [gc]
        have k3 : ((deep : Int) == 32) = true := by simp; omega
        have hN := Lib.hid (show tk 0 s.data.toList = .bad 4 by
          rw [hd0]
          simp only [tk]
          rw [if_pos (UInt8.toNat_inj.1 gc)])
        clear gc hd0 hd
        go_enter Tryz.func31, Tryz.ntmps31
        go_wp2_with fail
        refine bodyPost_ret (v := .tuple #[.agg #[.bool false, .string ⟨#[]⟩, .slice none 0 0], .int .i64 0, .int .i64 4]) (by simp [results, Tryz.results31, go_sem]) rfl ?_
        rw [hN.out]
        exact ⟨⟨_, _, _, _, _, 0, _, rfl, rfl, .inl rfl⟩, hX⟩
      · have gc' : s[0] ≠ 40 := fun e => gc (by rw [e]; rfl)
        have k2 : ((s[0].toNat : Int) == 40) = false := by simp; omega
        have k2' : ((s[0].toNat : Int) != 40) = true := by simp; omega
        have hN := Lib.hid (tk_leaf 0 hd0 gc')
        clear gc gc' hd0
        go_enter Tryz.func31, Tryz.ntmps31
        go_wp2_with fail
        refine (rtext_any s _ hs).mono ?_
        rintro e w1 hRR
        obtain ⟨⟨β, σ, sl, n, cap, k, f, rfl, hm⟩, hb1⟩ := hRR.more 0
        have hbx1 := (hb1.block W.heap.size (by simp)).trans hbx
        have hfin := RR.pass hX (by simp) hm hb1
        have q0 : w1.cell? ⟨W.heap.size, 0, none⟩ = some (.bool false) := by simp [World.cell?, hbx1]
        have q1 : w1.cell? ⟨W.heap.size, 1, none⟩ = some (.string ⟨#[]⟩) := by simp [World.cell?, hbx1]
        have q2 : w1.cell? ⟨W.heap.size, 2, none⟩ = some (.slice none 0 0) := by simp [World.cell?, hbx1]
        have qf : ∀ j, w1.frozen? ⟨W.heap.size, j, none⟩ = false := fun j => by simp [World.frozen?, hbx1]
        have HF := Lib.hid hfin
        clear hfin hm hb1 hbx1 hRR hX hbx
        go_wp2_with fail
        refine bodyPost_ret (v := .tuple #[.agg #[.bool β, .string σ, .slice sl n cap], .int .i64 k, .int .i64 f]) (by simp [results, Tryz.results31, go_sem, q0, q1, q2]) rfl ?_
        rw [hN.out]
        exact HF.out
  | succ h ih =>
    intro W s deep hs hd
    obtain ⟨i0, hi0, hz0, hz1, hz2⟩ := info_parts info_node
    have hX : Below W.heap.size W (W.alloc (.cells #[.bool false, .string ⟨#[]⟩, .slice none 0 0] 39)) := (Below.refl _ _).alloc (Nat.le_refl _) _
    have hbx : (W.alloc (.cells #[.bool false, .string ⟨#[]⟩, .slice none 0 0] 39)).heap[W.heap.size]? = some (.cells #[.bool false, .string ⟨#[]⟩, .slice none 0 0] 39 (0, 0)) := heap_alloc_new W _
    by_cases ga : s = ⟨#[]⟩
    · have hN := Lib.hid (show tk (h + 1) s.data.toList = .bad 5 by rw [ga]; exact tk_nil _)
      have k1 := emp_tt ga
      clear ga
      go_enter Tryz.func31, Tryz.ntmps31
      go_wp2_with fail
      refine bodyPost_ret (v := .tuple #[.agg #[.bool false, .string ⟨#[]⟩, .slice none 0 0], .int .i64 0, .int .i64 5]) (by simp [results, Tryz.results31, go_sem]) rfl ?_
      rw [hN.out]
      exact ⟨⟨_, _, _, _, _, 0, _, rfl, rfl, .inr rfl⟩, hX⟩
    · have k1 := emp_ff ga
      have ga' : 0 < s.size := by
        rcases Nat.eq_zero_or_pos s.size with h0 | h0
        · exact absurd (ByteArray.size_eq_zero_iff.1 h0) ga
        · exact h0
      have hd0 := drop_cons ga'
      rw [List.drop_zero] at hd0
      clear ga
      by_cases gc : s[0].toNat = 40
      · have k2 : ((s[0].toNat : Int) == 40) = true := by simp [gc]
        have k2' : ((s[0].toNat : Int) != 40) = false := by simp [gc]
        have k3 : ((deep : Int) == 32) = false := by simp; omega
        have hst : kidsP (tk h) (s.size - 1 + 1) (s.data.toList.drop 1) [] 1 = tk (h + 1) s.data.toList := by
          conv => rhs; rw [hd0]
          simp only [tk]
          rw [if_pos (UInt8.toNat_inj.1 gc), Nat.zero_add, List.length_drop, Lib.size_eq]
        have HST := Lib.hid hst
        clear hst gc hd0
        have hX2 : Below W.heap.size W ((W.alloc (.cells #[.bool false, .string ⟨#[]⟩, .slice none 0 0] 39)).alloc (.cells #[.bool false, .string ⟨#[]⟩, .slice none 0 0] 39)) := hX.alloc hX.size _
        have hNB := NB.new (W.alloc (.cells #[.bool false, .string ⟨#[]⟩, .slice none 0 0] 39)) (.slice none 0 0)
        rw [show (W.alloc (.cells #[.bool false, .string ⟨#[]⟩, .slice none 0 0] 39)).heap.size = W.heap.size + 1 by simp] at hNB
        have hL : LT W ((W.alloc (.cells #[.bool false, .string ⟨#[]⟩, .slice none 0 0] 39)).alloc (.cells #[.bool false, .string ⟨#[]⟩, .slice none 0 0] 39)) s h (.slice none 0 0) [] [] 1 (s.size - 1 + 1) :=
          ⟨KR.start _ _ _, hNB, hX2, (heap_alloc_old _ _ (by simp)).trans hbx, Nat.le_refl _, ga', by simp, Nat.le_refl _, HST.out⟩
        go_enter Tryz.func31, Tryz.ntmps31
        go_wp2_with fail
        go_loopw [8] (fun i wr => ∃ (v : Value) (ts : List T) (qs : List Q3) (m f : Nat), i = .int .i64 m ∧ LT W wr s h v ts qs m f) (fun i _ => s.size - (intOf i).toNat)
        case atStart => exact ⟨_, _, _, 1, _, rfl, hL⟩
        case round =>
          obtain ⟨v, ts, qs, m, f, rfl, L⟩ := hrel
          clear hL hNB hX2 hX hbx
          have hmh := L.hi
          have hbx := L.bx
          have q0 : wr.cell? ⟨W.heap.size, 0, none⟩ = some (.bool false) := by simp [World.cell?, hbx]
          have q1 : wr.cell? ⟨W.heap.size, 1, none⟩ = some (.string ⟨#[]⟩) := by simp [World.cell?, hbx]
          have q2 : wr.cell? ⟨W.heap.size, 2, none⟩ = some (.slice none 0 0) := by simp [World.cell?, hbx]
          have qf : ∀ j, wr.frozen? ⟨W.heap.size, j, none⟩ = false := fun j => by simp [World.frozen?, hbx]
          have n0 := L.nb.c0
          have n1 := L.nb.c1
          have n2 := L.nb.c2
          have hfu := L.fuel
          have heq := L.eq
          clear hbx
          by_cases gm : m = s.size
          · have hN := Lib.hid (show tk (h + 1) s.data.toList = .bad 5 by
              rw [← heq, gm, drop_end]
              obtain ⟨f', rfl⟩ : ∃ f', f = f' + 1 := ⟨f - 1, by omega⟩
              rfl)
            have jn : ¬ m < s.size := by omega
            have j2 : ((m : Int) == s.size) = true := by simp; omega
            have HL := Lib.hid L.old
            clear gm heq L
            go_wp2_with fail
            refine bodyPost_ret (v := .tuple #[.agg #[.bool false, .string ⟨#[]⟩, .slice none 0 0], .int .i64 0, .int .i64 5]) (by simp [results, Tryz.results31, go_sem, q0, q1, q2]) rfl ?_
            rw [hN.out]
            exact ⟨⟨_, _, _, _, _, 0, _, rfl, rfl, .inr rfl⟩, ((HL.out.setCell (Nat.le_refl _) _).setCell (Nat.le_refl _) _).setCell (Nat.le_refl _) _⟩
          · have gm' : m < s.size := by omega
            have j2 : ((m : Int) == s.size) = false := by simp; omega
            by_cases gc : s[m].toNat = 41
            · have hN := Lib.hid (show tk (h + 1) s.data.toList = .ok (.list ts) (m + 1) by
                rw [← heq, drop_cons gm', show s[m] = 41 from UInt8.toNat_inj.1 gc]
                obtain ⟨f', rfl⟩ : ∃ f', f = f' + 1 := ⟨f - 1, by omega⟩
                exact kids_close _ _ _ _ _)
              have j3 : ((s[m].toNat : Int) == 41) = true := by simp [gc]
              have j4 : ((s[m].toNat : Int) != 41) = false := by simp [gc]
              have HL := Lib.hid L
              obtain ⟨sl, cap, rfl⟩ := own_form L.kr.own
              clear gm gc heq L
              go_wp2_with fail
              refine bodyPost_ret (v := .tuple #[.agg #[.bool false, .string ⟨#[]⟩, .slice sl ts.length cap], .int .i64 ((m + 1 : Nat) : Int), .int .i64 0]) (by simp [results, Tryz.results31, go_sem, q0, q1, q2]) rfl ?_
              exact HL.out.done hN.out
            · have gc' : s[m] ≠ 41 := fun e => gc (by rw [e]; rfl)
              have j3 : ((s[m].toNat : Int) == 41) = false := by simp; omega
              have j4 : ((s[m].toNat : Int) != 41) = true := by simp; omega
              have hdeep : IntKind.i64.wrap ((deep : Int) + 1) = ((deep + 1 : Nat) : Int) := by rw [IntWalk.i64_in _ (by omega)]; omega
              have hk0 := ih wr (s.extract m s.size) (deep + 1) (by rw [ByteArray.size_extract]; omega) (by omega)
              rw [ext_end] at hk0
              have hfew := L.few
              have hkr := L.kr
              have HL := Lib.hid L
              have nlt := L.nb.lt
              cases hO : tk h (s.data.toList.drop m) with
              | bad fl =>
                rw [hO] at hk0
                have hN := Lib.hid (show tk (h + 1) s.data.toList = .bad fl by
                  rw [← heq]
                  have hd := drop_cons gm'
                  rw [hd] at hO ⊢
                  obtain ⟨f', rfl⟩ : ∃ f', f = f' + 1 := ⟨f - 1, by omega⟩
                  exact kids_bad gc' hO)
                clear gm gc heq L hO
                go_wp2_with fail
                refine hk0.mono ?_
                rintro e w1 ⟨⟨β, σ, sl, n, cap, k, f', rfl, rfl, hf5⟩, hb1⟩
                have hbx := HL.out.bx
                have hbx1 := (hb1.block W.heap.size (by omega)).trans hbx
                have HO := Lib.hid (HL.out.old.trans (hb1.mono HL.out.old.size))
                have l0 : W.heap.size < w1.heap.size := by have := hb1.size; omega
                have r0 : w1.cell? ⟨W.heap.size, 0, none⟩ = some (.bool false) := by simp [World.cell?, hbx1]
                have r1 : w1.cell? ⟨W.heap.size, 1, none⟩ = some (.string ⟨#[]⟩) := by simp [World.cell?, hbx1]
                have r2 : w1.cell? ⟨W.heap.size, 2, none⟩ = some (.slice none 0 0) := by simp [World.cell?, hbx1]
                have rf : ∀ j, w1.frozen? ⟨W.heap.size, j, none⟩ = false := fun j => by simp [World.frozen?, hbx1]
                clear hbx hbx1 hb1 hkr hk0 q0 q1 q2 qf n0 n1 n2
                rcases hf5 with rfl | rfl
                · go_wp2_with fail
                  refine bodyPost_ret (v := .tuple #[.agg #[.bool false, .string ⟨#[]⟩, .slice none 0 0], .int .i64 0, .int .i64 4]) (by simp [results, Tryz.results31, go_sem, r0, r1, r2, l0]) rfl ?_
                  rw [hN.out]
                  exact ⟨⟨_, _, _, _, _, 0, _, rfl, rfl, by simp⟩, B3 HO.out _ _ _ _⟩
                · go_wp2_with fail
                  refine bodyPost_ret (v := .tuple #[.agg #[.bool false, .string ⟨#[]⟩, .slice none 0 0], .int .i64 0, .int .i64 5]) (by simp [results, Tryz.results31, go_sem, r0, r1, r2, l0]) rfl ?_
                  rw [hN.out]
                  exact ⟨⟨_, _, _, _, _, 0, _, rfl, rfl, by simp⟩, B3 HO.out _ _ _ _⟩
              | ok t k =>
                rw [hO] at hk0
                have hO2 := Lib.hid hO
                have gc2 := Lib.hid gc'
                have gm2 := gm'
                have hkk := tk_enc _ _ _ _ hO
                rw [List.length_drop, ← Lib.size_eq] at hkk
                obtain ⟨hk1, hk2, -⟩ := hkk
                clear gm gc heq L hO
                go_wp2_with fail
                refine hk0.mono ?_
                rintro e w1 ⟨⟨β, σ, sl, n, cap, k', f', rfl, rfl, rfl, hrep⟩, hb1⟩
                have hNB := HL.out.nb.below hb1
                have e0 := hNB.c0
                have e1 := hNB.c1
                have e2 := hNB.c2
                have ef := hNB.fz
                have l1 := hNB.lt
                clear hk0 q0 q1 q2 qf n0 n1 n2 hNB
                go_wp2_with (first
                  | (at_builtin; refine wpList_append_lies _ rfl _ _ 37 rfl (W.heap.size + 2) 39 i0 _ 3 48 Tryz.underlying37 hi0 hz0 hz1 hz2 rfl (by decide) v ts.length _ rfl (own_alloc2 hkr hb1 _ _) ⟨w1.heap.size + 1, 0, none⟩ 1 1 [.bool β, .string σ, .slice sl n cap] rfl rfl (lit3' _ _ _ _ _ _) (one3 hrep.one) (by decide) ?c3 ?c4 ?c5 (w1.heap.size + 2) (by simp) ?_))
                case c3 => unfold maxLen; omega
                case c4 => omega
                case c5 => simp; omega
                intro g cap2 w2 hown2 hgr hat hlt2
                obtain ⟨h1, h2, h3, h4, h5, h6⟩ := after_kid2 HL.out hb1 hgr
                have e0 := h1.c0
                have e1 := h1.c1
                have e2 := h1.c2
                have ef := h1.fz
                have hLN := HL.out.next gm2 gc2.out hO2.out hrep hb1 hown2 hgr hat
                have HLN := Lib.hid hLN
                have l2 := h1.lt
                clear hLN h1 h2 h3 h4 h5 h6 hown2 hgr hat hlt2 hkr hb1
                go_wp2_with fail
                go_roundw
                case rel => exact ⟨_, _, _, m + k', _, by go_num, HLN.out⟩
                case measure => simp [intOf]; omega
      · have gc' : s[0] ≠ 40 := fun e => gc (by rw [e]; rfl)
        have k2 : ((s[0].toNat : Int) == 40) = false := by simp; omega
        have k2' : ((s[0].toNat : Int) != 40) = true := by simp; omega
        have hN := Lib.hid (tk_leaf (h + 1) hd0 gc')
        clear gc gc' hd0
        go_enter Tryz.func31, Tryz.ntmps31
        go_wp2_with fail
        refine (rtext_any s _ hs).mono ?_
        rintro e w1 hRR
        obtain ⟨⟨β, σ, sl, n, cap, k, f, rfl, hm⟩, hb1⟩ := hRR.more (h + 1)
        have hbx1 := (hb1.block W.heap.size (by simp)).trans hbx
        have hfin := RR.pass hX (by simp) hm hb1
        have q0 : w1.cell? ⟨W.heap.size, 0, none⟩ = some (.bool false) := by simp [World.cell?, hbx1]
        have q1 : w1.cell? ⟨W.heap.size, 1, none⟩ = some (.string ⟨#[]⟩) := by simp [World.cell?, hbx1]
        have q2 : w1.cell? ⟨W.heap.size, 2, none⟩ = some (.slice none 0 0) := by simp [World.cell?, hbx1]
        have qf : ∀ j, w1.frozen? ⟨W.heap.size, j, none⟩ = false := fun j => by simp [World.frozen?, hbx1]
        have HF := Lib.hid hfin
        clear hfin hm hb1 hbx1 hRR hX hbx
        go_wp2_with fail
        refine bodyPost_ret (v := .tuple #[.agg #[.bool β, .string σ, .slice sl n cap], .int .i64 k, .int .i64 f]) (by simp [results, Tryz.results31, go_sem, q0, q1, q2]) rfl ?_
        rw [hN.out]
        exact HF.out
end Sx
end Go.Proofs.YtbhngjhfeejeiaaGreatDoor
