/-
  Walk: the reader's node.
-/
import Derived.Test.YtbhngjhfeejeiaaGreatDoorSxRC
namespace Go.Proofs.YtbhngjhfeejeiaaGreatDoor
open Go.RowKit
namespace Sx

/-- the state at a round's head -/
structure LN (W wr : World) (b : Nat) (s : ByteArray) (a h : Nat) (v : Value) (ts : List T) (qs : List Q3) (m f : Nat) : Prop where
  kr : KR wr (W.heap.size + 1) h v ts qs
  rs : RS wr b s m 0
  fq : Fq W wr b
  lo : a + 1 ≤ m
  hi : m ≤ s.size
  few : ts.length ≤ m
  fuel : s.size - m + 1 ≤ f
  eq : kidsP (tk h) f (s.data.toList.drop m) ts (m - a) = tk (h + 1) (s.data.toList.drop a)
  bx : wr.heap[W.heap.size]? = some (.cells #[.bool false, .string ⟨#[]⟩, .slice none 0 0] 39 (0, 0))
theorem fin_bad {W X X2 : World} {b : Nat} {s : ByteArray} {a h m : Nat} {o : Out} {f : Int} {e : Ending} (hF : Fq W X b) (hS : RS X b s m f) (hlt : b < W.heap.size) (ho : o = .bad f) (hf : f = 4 ∨ f = 5) (he : e = .returned (.agg #[.bool false, .string ⟨#[]⟩, .slice none 0 0]))
    (h2 : X2 = ((X.setCell ⟨W.heap.size, 0, none⟩ (.bool false)).setCell ⟨W.heap.size, 1, none⟩ (.string ⟨#[]⟩)).setCell ⟨W.heap.size, 2, none⟩ (.slice none 0 0)) : RN W b s a h o e X2 := by
  have hf3 := fin3 hF hS hlt (.bool false) (.string ⟨#[]⟩) (.slice none 0 0)
  subst h2 ho he
  exact ⟨⟨_, _, _, rfl, rfl, rfl, rfl, hf, m, hf3.2⟩, hf3.1⟩

theorem lit3 (W : World) (x y z : Value) (t : TypeId) : ∀ j u, [x, y, z][j]? = some u → (W.alloc (.cells #[x, y, z] t)).cell? ((⟨W.heap.size, 0, none⟩ : Addr).add j) = some u :=
  World.news_of_block (heap_alloc_new W _)
theorem one3 {x y z : Value} (h : x.oneCell' = true ∧ y.oneCell' = true ∧ z.oneCell' = true) : ∀ u ∈ [x, y, z], u.oneCell' = true := by
  intro u hu
  simp only [List.mem_cons, List.not_mem_nil, or_false] at hu
  rcases hu with rfl | rfl | rfl
  · exact h.1
  · exact h.2.1
  · exact h.2.2
/-- behind a kid's call and its append: what stands -/
theorem after_kid {W wr w1 w2 : World} {b h m : Nat} {s : ByteArray} {a f : Nat} {v x y z : Value} {ts : List T} {qs : List Q3} (L : LN W wr b s a h v ts qs m f) (hlt : b < W.heap.size) {n c : Nat} {fl : Int} (hrs : RS w1 b s c fl) (hfq : Fq (wr.drewN n) w1 b)
    (hgr : (w1.alloc (.cells #[x, y, z] 39)).grownBy w2 v.ownBlock) :
    RS w2 b s c fl ∧ Fq W w2 b ∧ w2.heap[W.heap.size]? = some (.cells #[.bool false, .string ⟨#[]⟩, .slice none 0 0] 39 (0, 0)) ∧ (∀ j, j < w1.heap.size → v.ownBlock ≠ some j → w2.heap[j]? = w1.heap[j]?) ∧ w1.heap.size ≤ w2.heap.size ∧ W.heap.size < wr.heap.size ∧ wr.heap.size ≤ w1.heap.size := by
  have hv : ∀ j, v.ownBlock = some j → W.heap.size + 1 ≤ j ∧ j < wr.heap.size := fun j hj => L.kr.own.lt j hj
  have hW : W.heap.size < wr.heap.size := by
    rcases Nat.lt_or_ge W.heap.size wr.heap.size with h' | h'
    · exact h'
    · have hb := L.bx
      rw [Array.getElem?_eq_none h'] at hb; cases hb
  have hw1 : wr.heap.size ≤ w1.heap.size := hfq.below.size
  have hsz : w1.heap.size + 1 ≤ w2.heap.size := by have := hgr.size; simpa using this
  have hblk : ∀ j, j < w1.heap.size → v.ownBlock ≠ some j → w2.heap[j]? = w1.heap[j]? := fun j hj hne =>
    (hgr.block j (by simp; omega) (fun e => hne e.symm)).trans (heap_alloc_old w1 _ hj)
  have hb1 : v.ownBlock ≠ some b := fun e => by have := hv b e; omega
  have hb2 : v.ownBlock ≠ some W.heap.size := fun e => by have := hv _ e; omega
  refine ⟨hrs.same (by omega) (hblk b hrs.lt hb1), ?_, ?_, hblk, by omega, hW, hw1⟩
  · have h1 : Fq W w1 b := (L.fq.drew n).trans hfq
    have hX : Below w1.heap.size w1 (w1.alloc (.cells #[x, y, z] 39)) := (Below.refl _ _).alloc (Nat.le_refl _) _
    have h2 := h1.step hlt hX
    refine ⟨h2.below.grown hgr (by simp; omega) (fun j hj => by have := hv j hj; omega), fun k hk hne => ?_⟩
    rw [hblk k (by omega) (fun e => by have := hv k e; omega)]
    exact h1.block k hk hne
  · rw [hblk _ (by omega) hb2, hfq.block _ hW (by omega)]
    exact L.bx
theorem LN.next {W wr w1 w2 : World} {b h m : Nat} {s : ByteArray} {a f : Nat} {v x y z : Value} {ts : List T} {qs : List Q3} (L : LN W wr b s a h v ts qs m f) (hlt : b < W.heap.size) {n k : Nat} {t : T} (hm : m < s.size) (hc : s[m] ≠ 41) (hO : tk h (s.data.toList.drop m) = .ok t k)
    (hrep : RepS w1 (fun j => (wr.drewN n).heap.size ≤ j ∧ j < w1.heap.size) h t (.agg #[x, y, z])) (hrs : RS w1 b s (m + k) 0) (hfq : Fq (wr.drewN n) w1 b) {g cap : Nat}
    (hown : w2.ownsRow (W.heap.size + 1) 39 3 (.slice (some ⟨g, 0, none⟩) (ts.length + 1) cap) (ts.length + 1) (row3 qs ++ [x, y, z]))
    (hgr : (w1.alloc (.cells #[x, y, z] 39)).grownBy w2 v.ownBlock) (hat : v.ownBlock = some g ∨ g = w1.heap.size + 1) :
    LN W w2 b s a h (.slice (some ⟨g, 0, none⟩) (ts.length + 1) cap) (ts ++ [t]) (qs ++ [(x, y, z)]) (m + k) (f - 1) := by
  obtain ⟨h1, h2, h3, h4, h5, h6, h7⟩ := after_kid L hlt hrs hfq hgr
  obtain ⟨e1, e2, e3⟩ := tk_enc _ _ _ _ hO
  rw [List.length_drop] at e2
  have hzz := Lib.size_eq s
  have hf := L.fuel
  have hlo := L.lo
  obtain ⟨f', rfl⟩ : ∃ f', f = f' + 1 := ⟨f - 1, by omega⟩
  refine ⟨?_, h1, h2, by omega, by omega, by have := L.few; simp; omega, by omega, ?_, h3⟩
  · exact L.kr.snoc (W0 := wr) (q := (x, y, z)) h7 (fun j hj1 hj2 => hfq.block j hj2 (by omega)) (by omega) hrep.one hrep (Nat.le_succ _) ⟨h5, h4⟩ hat hown
  · rw [← L.eq]
    have hd := drop_cons hm
    rw [hd] at hO
    rw [hd, kids_ok hc hO, ← hd, List.drop_drop, show m + k - a = m - a + k by omega]
    rfl
theorem LN.done {W wr : World} {b h m : Nat} {s : ByteArray} {a f : Nat} {v : Value} {ts : List T} {qs : List Q3} (L : LN W wr b s a h v ts qs m f) (hlt : b < W.heap.size) (n : Nat) (hN : tk (h + 1) (s.data.toList.drop a) = .ok (.list ts) (m - a + 1)) {z : Int} (hz : z = ((m + 1 : Nat) : Int)) :
    RN W b s a (h + 1) (tk (h + 1) (s.data.toList.drop a)) (.returned (.agg #[.bool false, .string ⟨#[]⟩, v])) (((((wr.drewN n).setCell ⟨b, 1, none⟩ (.int .i64 z)).setCell ⟨W.heap.size, 0, none⟩ (.bool false)).setCell ⟨W.heap.size, 1, none⟩ (.string ⟨#[]⟩)).setCell ⟨W.heap.size, 2, none⟩ v) := by
  have hlo := L.lo
  have hfin := fin3 ((L.fq.drew n).set 1 (.int .i64 z)) ((L.rs.drewN n).move' (m + 1) hz) hlt (.bool false) (.string ⟨#[]⟩) v
  rw [hN]
  refine ⟨⟨_, _, _, rfl, ?_, ?_⟩, hfin.1⟩
  · refine (L.kr.list.same (fun j o hj => World.cell?_of_block ?_)).sub (fun j hj => ⟨by omega, by simp [World.setCell]; exact hj.2⟩)
    have hj1 : W.heap.size + 1 ≤ j := hj.1
    have hj2 : j ≠ W.heap.size := by omega
    have hj3 : j ≠ b := by omega
    rw [Below.heap_setCell _ _ _ _ hj2, Below.heap_setCell _ _ _ _ hj2, Below.heap_setCell _ _ _ _ hj2, Below.heap_setCell _ _ _ _ hj3]
    rfl
  · rw [show a + (m - a + 1) = m + 1 by omega]
    exact hfin.2
theorem own_alloc {wr w1 : World} {B h n b : Nat} {v : Value} {ts : List T} {qs : List Q3} (k : KR wr B h v ts qs) (hb : b < B) (hfq : Fq (wr.drewN n) w1 b) (o : Obj) : (w1.alloc o).ownsRow B 39 3 v ts.length (row3 qs) :=
  (own_block k.own (fun j hj => hfq.block j (k.own.lt j hj).2 (by have := (k.own.lt j hj).1; omega))).alloc o
theorem RepS.vals {W : World} {S : Nat → Prop} {h : Nat} {t : T} {x y z : Value} (hr : RepS W S h t (.agg #[x, y, z])) : ∃ (β : Bool) (σ : ByteArray) (sl : Option Addr) (n cap : Nat), x = .bool β ∧ y = .string σ ∧ z = .slice sl n cap := by
  cases hr with
  | leaf _ s => exact ⟨_, _, _, _, _, rfl, rfl, rfl⟩
  | list _ ks sl cap x y z hcap hc hr => exact ⟨_, _, _, _, _, rfl, rfl, rfl⟩
theorem fin_pass {W X w1 : World} {b a k : Nat} {s : ByteArray} {o : Out} {e : Ending} (hFX : Fq W X b) (hlt : b < W.heap.size) (hsz : W.heap.size < X.heap.size) (h : RN X b s a k o e w1) :
    ∃ (β : Bool) (σ : ByteArray) (sl : Option Addr) (n cap : Nat), e = .returned (.agg #[.bool β, .string σ, .slice sl n cap]) ∧ RN W b s a k o e (((w1.setCell ⟨W.heap.size, 0, none⟩ (.bool β)).setCell ⟨W.heap.size, 1, none⟩ (.string σ)).setCell ⟨W.heap.size, 2, none⟩ (.slice sl n cap)) ∧ w1.heap[W.heap.size]? = X.heap[W.heap.size]? := by
  obtain ⟨⟨x, y, z, he, hm⟩, hf⟩ := h
  have hblk := hf.block W.heap.size hsz (by omega)
  have hle := hf.below.size
  cases o with
  | bad f =>
    obtain ⟨rfl, rfl, rfl, hf5, c, hrs⟩ := hm
    have hfin := fin3 (hFX.trans hf) hrs hlt (.bool false) (.string ⟨#[]⟩) (.slice none 0 0)
    exact ⟨_, _, _, _, _, he, ⟨⟨_, _, _, he, rfl, rfl, rfl, hf5, c, hfin.2⟩, hfin.1⟩, hblk⟩
  | ok t n =>
    obtain ⟨hrep, hrs⟩ := hm
    obtain ⟨β, σ, sl, n', cap, rfl, rfl, rfl⟩ := hrep.vals
    have hfin := fin3 (hFX.trans hf) hrs hlt (.bool β) (.string σ) (.slice sl n' cap)
    refine ⟨_, _, _, _, _, he, ⟨⟨_, _, _, he, ?_, hfin.2⟩, hfin.1⟩, hblk⟩
    refine (hrep.same (fun j o hj => ?_)).sub (fun j hj => ⟨by omega, by simp [World.setCell]; omega⟩)
    refine World.cell?_of_block ?_
    have hj1 : X.heap.size ≤ j := hj.1
    have hj2 : j ≠ W.heap.size := by omega
    rw [Below.heap_setCell _ _ _ _ hj2, Below.heap_setCell _ _ _ _ hj2, Below.heap_setCell _ _ _ _ hj2]
set_option maxHeartbeats 8000000 in
set_option maxRecDepth 100000 in
theorem rnode_any : ∀ (h : Nat) (W : World) (b a : Nat) (s : ByteArray) (deep : Nat), RS W b s a 0 → a ≤ s.size → s.size ≤ 65536 → Env W → 3 + 1 ≤ b → deep + h = 32 →
    Calls Tryz.prog 22 #[.pointer (some ⟨b, 0, none⟩), .int .i64 deep] W fun e W' => RN W b s a h (tk h (s.data.toList.drop a)) e W' := by
  intro h
  induction h with
  | zero =>
    intro W b a s deep hS0 ha hs hE hb6 hd
    have hX : Below W.heap.size W (W.alloc (.cells #[.bool false, .string ⟨#[]⟩, .slice none 0 0] 39)) := (Below.refl _ _).alloc (Nat.le_refl _) _
    have hR := hS0.keep hX
    have hF0 : Fq W (W.alloc (.cells #[.bool false, .string ⟨#[]⟩, .slice none 0 0] 39)) b := Fq.of_below hX (Nat.le_of_lt hS0.lt)
    have hlt := hS0.lt
    have hc0 := hR.c0
    have hc1 := hR.c1
    have hc2 := hR.c2
    have hfz := hR.fz
    have hne : b ≠ W.heap.size := by omega
    have hbx : (W.alloc (.cells #[.bool false, .string ⟨#[]⟩, .slice none 0 0] 39)).heap[W.heap.size]? = some (.cells #[.bool false, .string ⟨#[]⟩, .slice none 0 0] 39 (0, 0)) := heap_alloc_new W _
    by_cases ga : a = s.size
    · have hN := Lib.hid (show tk 0 (s.data.toList.drop a) = .bad 5 by rw [ga, drop_end, tk_nil])
      have k1 : ((a : Int) == s.size) = true := by simp; omega
      clear ga
      go_enter Tryz.func22, Tryz.ntmps22
      go_wp2_with fail
      go_quiet (fail)
      go_wp2_with fail
      refine bodyPost_ret (v := .agg #[.bool false, .string ⟨#[]⟩, .slice none 0 0]) (by simp [results, Tryz.results22, go_sem]) rfl ?_
      exact fin_bad (m := a) ((hF0.drew _).set 2 (.int .i64 5)) ((hR.drewN _).fault 5) hlt hN.out (.inr rfl) rfl rfl
    · have ga' : a < s.size := by omega
      have k1 : ((a : Int) == s.size) = false := by simp; omega
      by_cases gc : s[a].toNat = 40
      · have k2 : ((s[a].toNat : Int) == 40) = true := by simp [gc]
        have k2' : ((s[a].toNat : Int) != 40) = false := by simp [gc]
        have k3 : decide ((32 : Int) ≤ deep) = true := by simp; omega
        have hN := Lib.hid (show tk 0 (s.data.toList.drop a) = .bad 4 by
          rw [drop_cons ga']
          simp only [tk]
          rw [if_pos (UInt8.toNat_inj.1 gc)])
        clear gc ga
        go_enter Tryz.func22, Tryz.ntmps22
        go_wp2_with fail
        go_quiet (fail)
        go_wp2_with fail
        go_quiet (fail)
        go_wp2_with fail
        refine bodyPost_ret (v := .agg #[.bool false, .string ⟨#[]⟩, .slice none 0 0]) (by simp [results, Tryz.results22, go_sem]) rfl ?_
        exact fin_bad (m := a) ((hF0.drew _).set 2 (.int .i64 4)) ((hR.drewN _).fault 4) hlt hN.out (.inl rfl) rfl rfl
      · have gc' : s[a] ≠ 40 := fun e => gc (by rw [e]; rfl)
        have k2 : ((s[a].toNat : Int) == 40) = false := by simp; omega
        have k2' : ((s[a].toNat : Int) != 40) = true := by simp; omega
        have hN := Lib.hid (tk_leaf 0 (drop_cons ga') gc')
        clear gc gc' ga
        go_enter Tryz.func22, Tryz.ntmps22
        go_wp2_with fail
        go_quiet (fail)
        go_wp2_with fail
        go_quiet (fail)
        go_wp2_with fail
        refine (ratom_any _ b a s (hR.drewN _) ha hs (hE.low hb6 (hF0.drew _).below) hb6).mono ?_
        rintro e w1 hRN
        obtain ⟨β, σ, sl, n, cap, rfl, hfin, hblk⟩ := fin_pass (hF0.drew _) hlt (by show W.heap.size < (W.alloc _).heap.size; simp) hRN
        have hbx1 := hblk.trans hbx
        have q0 : w1.cell? ⟨W.heap.size, 0, none⟩ = some (.bool false) := by simp [World.cell?, hbx1]
        have q1 : w1.cell? ⟨W.heap.size, 1, none⟩ = some (.string ⟨#[]⟩) := by simp [World.cell?, hbx1]
        have q2 : w1.cell? ⟨W.heap.size, 2, none⟩ = some (.slice none 0 0) := by simp [World.cell?, hbx1]
        have qf : ∀ j, w1.frozen? ⟨W.heap.size, j, none⟩ = false := fun j => by simp [World.frozen?, hbx1]
        clear hblk hbx1 hRN
        go_wp2_with fail
        refine bodyPost_ret (v := .agg #[.bool β, .string σ, .slice sl n cap]) (by simp [results, Tryz.results22, go_sem, q0, q1, q2]) rfl ?_
        rw [hN.out]
        exact hfin.more _
  | succ h ih =>
    intro W b a s deep hS0 ha hs hE hb6 hd
    obtain ⟨i0, hi0, hz0, hz1, hz2⟩ := info_parts info_node
    have hX : Below W.heap.size W (W.alloc (.cells #[.bool false, .string ⟨#[]⟩, .slice none 0 0] 39)) := (Below.refl _ _).alloc (Nat.le_refl _) _
    have hR := hS0.keep hX
    have hF0 : Fq W (W.alloc (.cells #[.bool false, .string ⟨#[]⟩, .slice none 0 0] 39)) b := Fq.of_below hX (Nat.le_of_lt hS0.lt)
    have hlt := hS0.lt
    have hc0 := hR.c0
    have hc1 := hR.c1
    have hc2 := hR.c2
    have hfz := hR.fz
    have hne : b ≠ W.heap.size := by omega
    have hbx : (W.alloc (.cells #[.bool false, .string ⟨#[]⟩, .slice none 0 0] 39)).heap[W.heap.size]? = some (.cells #[.bool false, .string ⟨#[]⟩, .slice none 0 0] 39 (0, 0)) := heap_alloc_new W _
    by_cases ga : a = s.size
    · have hN := Lib.hid (show tk (h + 1) (s.data.toList.drop a) = .bad 5 by rw [ga, drop_end, tk_nil])
      have k1 : ((a : Int) == s.size) = true := by simp; omega
      clear ga
      go_enter Tryz.func22, Tryz.ntmps22
      go_wp2_with fail
      go_quiet (fail)
      go_wp2_with fail
      refine bodyPost_ret (v := .agg #[.bool false, .string ⟨#[]⟩, .slice none 0 0]) (by simp [results, Tryz.results22, go_sem]) rfl ?_
      exact fin_bad (m := a) ((hF0.drew _).set 2 (.int .i64 5)) ((hR.drewN _).fault 5) hlt hN.out (.inr rfl) rfl rfl
    · have ga' : a < s.size := by omega
      have k1 : ((a : Int) == s.size) = false := by simp; omega
      by_cases gc : s[a].toNat = 40
      · have k2 : ((s[a].toNat : Int) == 40) = true := by simp [gc]
        have k2' : ((s[a].toNat : Int) != 40) = false := by simp [gc]
        have k3 : decide ((32 : Int) ≤ deep) = false := by simp; omega
        have hst : kidsP (tk h) (s.size - (a + 1) + 1) (s.data.toList.drop (a + 1)) [] (a + 1 - a) = tk (h + 1) (s.data.toList.drop a) := by
          rw [drop_cons ga']
          simp only [tk]
          rw [if_pos (UInt8.toNat_inj.1 gc), List.length_drop, Lib.size_eq, show a + 1 - a = 1 by omega]
        have HST := Lib.hid hst
        clear hst gc ga
        go_enter Tryz.func22, Tryz.ntmps22
        go_wp2_with fail
        go_quiet (fail)
        go_wp2_with fail
        go_quiet (fail)
        have hL : LN W (((W.alloc (.cells #[.bool false, .string ⟨#[]⟩, .slice none 0 0] 39)).drewN 0).setCell ⟨b, 1, none⟩ (.int .i64 ((a : Int) + 1))) b s a h (.slice none 0 0) [] [] (a + 1) (s.size - (a + 1) + 1) :=
          ⟨KR.start _ _ _, (hR.drewN 0).move' (a + 1) (by omega), (hF0.drew 0).set _ _, Nat.le_refl _, ga', by simp, Nat.le_refl _, HST.out, (Below.heap_setCell _ _ _ _ (Ne.symm hne)).trans hbx⟩
        go_wp2_with fail
        go_loopw [5] (fun kv wr => ∃ (v : Value) (ts : List T) (qs : List Q3) (m f : Nat), v = kv ∧ LN W wr b s a h v ts qs m f) (fun _ wr => mz s b wr)
        case atStart => exact ⟨_, _, _, _, _, rfl, ⟨hL.kr.same (Nat.le_refl _) (fun _ _ _ => rfl), (hR.drewN _).move' (a + 1) (by omega), (hF0.drew _).set _ _, Nat.le_refl _, ga', by simp, Nat.le_refl _, HST.out, (Below.heap_setCell _ _ _ _ (Ne.symm hne)).trans hbx⟩⟩
        case round =>
          obtain ⟨v, ts, qs, m, f, rfl, L⟩ := hrel
          clear hc0 hc1 hc2 hfz hbx hF0 hR hX hL
          have c0 := L.rs.c0
          have c1 := L.rs.c1
          have c2 := L.rs.c2
          have fz := L.rs.fz
          have hmh := L.hi
          have hbx := L.bx
          have q0 : wr.cell? ⟨W.heap.size, 0, none⟩ = some (.bool false) := by simp [World.cell?, hbx]
          have q1 : wr.cell? ⟨W.heap.size, 1, none⟩ = some (.string ⟨#[]⟩) := by simp [World.cell?, hbx]
          have q2 : wr.cell? ⟨W.heap.size, 2, none⟩ = some (.slice none 0 0) := by simp [World.cell?, hbx]
          have qf : ∀ j, wr.frozen? ⟨W.heap.size, j, none⟩ = false := fun j => by simp [World.frozen?, hbx]
          have hfu := L.fuel
          have heq := L.eq
          clear hbx
          by_cases gm : m = s.size
          · have hN := Lib.hid (show tk (h + 1) (s.data.toList.drop a) = .bad 5 by
              rw [← heq, gm, drop_end]
              obtain ⟨f', rfl⟩ : ∃ f', f = f' + 1 := ⟨f - 1, by omega⟩
              rfl)
            have j1 : decide ((m : Int) < s.size) = false := by simp; omega
            have jn : ¬ m < s.size := by omega
            have j2 : ((m : Int) == s.size) = true := by simp; omega
            have HL := Lib.hid L
            have J2 := Lib.hid j2
            clear gm heq L j2
            go_wp2_with fail
            go_quiet (fail)
            have j2 := J2.out
            go_wp2_with fail
            go_quiet (fail)
            go_wp2_with fail
            refine bodyPost_ret (v := .agg #[.bool false, .string ⟨#[]⟩, .slice none 0 0]) (by simp [results, Tryz.results22, go_sem, q0, q1, q2]) rfl ?_
            exact fin_bad (m := m) ((HL.out.fq.drew _).set 2 (.int .i64 5)) ((HL.out.rs.drewN _).fault 5) hlt hN.out (.inr rfl) rfl rfl
          · have gm' : m < s.size := by omega
            have j1 : decide ((m : Int) < s.size) = true := by simp; omega
            have j2 : ((m : Int) == s.size) = false := by simp; omega
            by_cases gc : s[m].toNat = 41
            · have hN := Lib.hid (show tk (h + 1) (s.data.toList.drop a) = .ok (.list ts) (m - a + 1) by
                rw [← heq, drop_cons gm', show s[m] = 41 from UInt8.toNat_inj.1 gc]
                obtain ⟨f', rfl⟩ : ∃ f', f = f' + 1 := ⟨f - 1, by omega⟩
                exact kids_close _ _ _ _ _)
              have j3 : ((s[m].toNat : Int) == 41) = true := by simp [gc]
              have j4 : ((s[m].toNat : Int) != 41) = false := by simp [gc]
              have HL := Lib.hid L
              obtain ⟨sl, cap, rfl⟩ := own_form L.kr.own
              clear gm gc heq L
              go_wp2_with fail
              go_quiet (fail)
              go_wp2_with fail
              go_quiet (fail)
              go_wp2_with fail
              refine bodyPost_ret (v := .agg #[.bool false, .string ⟨#[]⟩, .slice sl ts.length cap]) (by simp [results, Tryz.results22, go_sem, q0, q1, q2]) rfl ?_
              exact HL.out.done hlt _ hN.out rfl
            · have gc' : s[m] ≠ 41 := fun e => gc (by rw [e]; rfl)
              have j3 : ((s[m].toNat : Int) == 41) = false := by simp; omega
              have j4 : ((s[m].toNat : Int) != 41) = true := by simp; omega
              have hdeep : IntKind.i64.wrap ((deep : Int) + 1) = ((deep + 1 : Nat) : Int) := by rw [IntWalk.i64_in _ (by omega)]; omega
              have hk0 := fun (w : World) (h1 : RS w b s m 0) (h2 : Env w) => ih w b m s (deep + 1) h1 hmh hs h2 hb6 (by omega)
              have hfew := L.few
              have hkr := L.kr
              have HL := Lib.hid L
              have HW := Lib.hid (World.block_lt_of_cell? wr _ q0)
              cases hO : tk h (s.data.toList.drop m) with
              | bad fl =>
                rw [hO] at hk0
                have hN := Lib.hid (show tk (h + 1) (s.data.toList.drop a) = .bad fl by
                  rw [← heq]
                  have hd := drop_cons gm'
                  rw [hd] at hO ⊢
                  obtain ⟨f', rfl⟩ : ∃ f', f = f' + 1 := ⟨f - 1, by omega⟩
                  exact kids_bad gc' hO)
                clear gm gc heq L hO
                go_wp2_with fail
                go_quiet (fail)
                go_wp2_with fail
                refine (hk0 _ (HL.out.rs.drewN _) (hE.low hb6 (HL.out.fq.drew _).below)).mono ?_
                rintro e w1 ⟨⟨x, y, z, rfl, rfl, rfl, rfl, hf5, c, hrs⟩, hfq⟩
                go_wp2_with (first
                  | (at_builtin; refine wpList_append_lies _ rfl _ _ 37 rfl (W.heap.size + 1) 39 i0 _ 3 48 Tryz.underlying37 hi0 hz0 hz1 hz2 rfl (by decide) v ts.length _ rfl (own_alloc hkr (by omega) hfq _) ⟨w1.heap.size, 0, none⟩ 1 1 [.bool false, .string ⟨#[]⟩, .slice none 0 0] rfl rfl (lit3 _ _ _ _ _) (one3 ⟨rfl, rfl, rfl⟩) (by decide) ?c3 ?c4 ?c5 (w1.heap.size + 1) (by simp) ?_))
                case c3 => unfold maxLen; omega
                case c4 => omega
                case c5 =>
                  have g1 : wr.heap.size ≤ w1.heap.size := hfq.below.size
                  have g2 := HW.out
                  simp
                  omega
                intro g cap w2 hown2 hgr hat hlt2
                obtain ⟨h1, h2, h3, h4, h5, h6, h7⟩ := after_kid HL.out hlt hrs hfq hgr
                have e2 := h1.c2
                have r0 : w2.cell? ⟨W.heap.size, 0, none⟩ = some (.bool false) := by simp [World.cell?, h3]
                have r1 : w2.cell? ⟨W.heap.size, 1, none⟩ = some (.string ⟨#[]⟩) := by simp [World.cell?, h3]
                have r2 : w2.cell? ⟨W.heap.size, 2, none⟩ = some (.slice none 0 0) := by simp [World.cell?, h3]
                have rf : ∀ j, w2.frozen? ⟨W.heap.size, j, none⟩ = false := fun j => by simp [World.frozen?, h3]
                have H1 := Lib.hid h1
                have H2 := Lib.hid h2
                clear h1 h2 h3 h4 h5 h6 h7 hown2 hgr hat hlt2 q0 q1 q2 qf hkr hk0
                rcases hf5 with rfl | rfl
                all_goals
                  go_wp2_with fail
                  refine bodyPost_ret (v := .agg #[.bool false, .string ⟨#[]⟩, .slice none 0 0]) (by simp [results, Tryz.results22, go_sem, r0, r1, r2]) rfl ?_
                  exact fin_bad (m := c) H2.out H1.out hlt hN.out (by simp) rfl rfl
              | ok t k =>
                rw [hO] at hk0
                have hO2 := Lib.hid hO
                have gc2 := Lib.hid gc'
                have gm2 := gm'
                clear gm gc heq L hO
                go_wp2_with fail
                go_quiet (fail)
                go_wp2_with fail
                refine (hk0 _ (HL.out.rs.drewN _) (hE.low hb6 (HL.out.fq.drew _).below)).mono ?_
                rintro e w1 ⟨⟨x, y, z, rfl, hrep, hrs⟩, hfq⟩
                obtain ⟨β, σ, sl, n, cap', rfl, rfl, rfl⟩ := hrep.vals
                go_wp2_with (first
                  | (at_builtin; refine wpList_append_lies _ rfl _ _ 37 rfl (W.heap.size + 1) 39 i0 _ 3 48 Tryz.underlying37 hi0 hz0 hz1 hz2 rfl (by decide) v ts.length _ rfl (own_alloc hkr (by omega) hfq _) ⟨w1.heap.size, 0, none⟩ 1 1 [.bool β, .string σ, .slice sl n cap'] rfl rfl (lit3 _ _ _ _ _) (one3 hrep.one) (by decide) ?c3 ?c4 ?c5 (w1.heap.size + 1) (by simp) ?_))
                case c3 => unfold maxLen; omega
                case c4 => omega
                case c5 =>
                  have g1 : wr.heap.size ≤ w1.heap.size := hfq.below.size
                  have g2 := HW.out
                  simp
                  omega
                intro g cap w2 hown2 hgr hat hlt2
                obtain ⟨h1, h2, h3, h4, h5, h6, h7⟩ := after_kid HL.out hlt hrs hfq hgr
                have e2 := h1.c2
                have r0 : w2.cell? ⟨W.heap.size, 0, none⟩ = some (.bool false) := by simp [World.cell?, h3]
                have r1 : w2.cell? ⟨W.heap.size, 1, none⟩ = some (.string ⟨#[]⟩) := by simp [World.cell?, h3]
                have r2 : w2.cell? ⟨W.heap.size, 2, none⟩ = some (.slice none 0 0) := by simp [World.cell?, h3]
                have rf : ∀ j, w2.frozen? ⟨W.heap.size, j, none⟩ = false := fun j => by simp [World.frozen?, h3]
                have hLN := HL.out.next hlt gm2 gc2.out hO2.out hrep hrs hfq hown2 hgr hat
                have HLN := Lib.hid hLN
                have hmz := mz_of hLN.rs
                have hmo := mz_of HL.out.rs
                have hk1 := (tk_enc _ _ _ _ hO2.out).1
                have HMZ := Lib.hid hmz
                have HMO := Lib.hid hmo
                have HK := Lib.hid hk1
                clear hLN hmz hmo hk1 h1 h2 h3 h4 h5 h6 h7 hown2 hgr hat hlt2 q0 q1 q2 qf hkr hk0 r0 r1 r2 rf
                go_wp2_with fail
                go_roundw
                case rel => exact ⟨_, _, _, _, _, rfl, HLN.out⟩
                case measure =>
                  show mz s b _ < mz s b _
                  rw [HMZ.out, HMO.out]
                  have := HK.out
                  omega
      · have gc' : s[a] ≠ 40 := fun e => gc (by rw [e]; rfl)
        have k2 : ((s[a].toNat : Int) == 40) = false := by simp; omega
        have k2' : ((s[a].toNat : Int) != 40) = true := by simp; omega
        have hN := Lib.hid (tk_leaf (h + 1) (drop_cons ga') gc')
        clear gc gc' ga
        go_enter Tryz.func22, Tryz.ntmps22
        go_wp2_with fail
        go_quiet (fail)
        go_wp2_with fail
        go_quiet (fail)
        go_wp2_with fail
        refine (ratom_any _ b a s (hR.drewN _) ha hs (hE.low hb6 (hF0.drew _).below) hb6).mono ?_
        rintro e w1 hRN
        obtain ⟨β, σ, sl, n, cap, rfl, hfin, hblk⟩ := fin_pass (hF0.drew _) hlt (by show W.heap.size < (W.alloc _).heap.size; simp) hRN
        have hbx1 := hblk.trans hbx
        have q0 : w1.cell? ⟨W.heap.size, 0, none⟩ = some (.bool false) := by simp [World.cell?, hbx1]
        have q1 : w1.cell? ⟨W.heap.size, 1, none⟩ = some (.string ⟨#[]⟩) := by simp [World.cell?, hbx1]
        have q2 : w1.cell? ⟨W.heap.size, 2, none⟩ = some (.slice none 0 0) := by simp [World.cell?, hbx1]
        have qf : ∀ j, w1.frozen? ⟨W.heap.size, j, none⟩ = false := fun j => by simp [World.frozen?, hbx1]
        clear hblk hbx1 hRN
        go_wp2_with fail
        refine bodyPost_ret (v := .agg #[.bool β, .string σ, .slice sl n cap]) (by simp [results, Tryz.results22, go_sem, q0, q1, q2]) rfl ?_
        rw [hN.out]
        exact hfin.more _
end Sx
end Go.Proofs.YtbhngjhfeejeiaaGreatDoor
