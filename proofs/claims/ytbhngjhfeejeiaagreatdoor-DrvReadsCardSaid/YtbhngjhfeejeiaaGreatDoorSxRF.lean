/-
  Walk: sexp.Decode, for every text.
-/
import Derived.Test.YtbhngjhfeejeiaaGreatDoorSxRE
namespace Go.Proofs.YtbhngjhfeejeiaaGreatDoor
open Go.RowKit
namespace Sx

/-- the tree that bytes are, or the fault -/
def parse (l : List UInt8) : Out := if 65536 < l.length then .bad 3 else match tk 32 l with
  | .bad f => .bad f
  | .ok t n => if n < l.length then .bad 5 else .ok t n
theorem parse_long {l : List UInt8} (h : 65536 < l.length) : parse l = .bad 3 := by unfold parse; rw [if_pos h]
theorem parse_bad {l : List UInt8} (h : ¬ 65536 < l.length) {f : Int} (ht : tk 32 l = .bad f) : parse l = .bad f := by unfold parse; rw [if_neg h, ht]
theorem parse_more {l : List UInt8} (h : ¬ 65536 < l.length) {t : T} {n : Nat} (ht : tk 32 l = .ok t n) (hn : n < l.length) : parse l = .bad 5 := by unfold parse; rw [if_neg h, ht]; simp only; rw [if_pos hn]
theorem parse_ok {l : List UInt8} (h : ¬ 65536 < l.length) {t : T} {n : Nat} (ht : tk 32 l = .ok t n) (hn : ¬ n < l.length) : parse l = .ok t n := by unfold parse; rw [if_neg h, ht]; simp only; rw [if_neg hn]
theorem parse_enc {l : List UInt8} {t : T} {n : Nat} (h : parse l = .ok t n) : enc t = l ∧ l.length ≤ 65536 := by
  unfold parse at h
  split at h
  · cases h
  · rename_i hl
    cases ht : tk 32 l with
    | bad f => rw [ht] at h; cases h
    | ok t' n' =>
      rw [ht] at h
      simp only at h
      split at h
      · cases h
      · rename_i hn
        cases h
        obtain ⟨h1, h2, h3⟩ := tk_enc _ _ _ _ ht
        rw [List.take_of_length_le (by omega)] at h3
        exact ⟨h3.symm, by omega⟩
theorem parse_back {t : T} (hd : dp t ≤ 32) (hl : (enc t).length ≤ 65536) : parse (enc t) = .ok t (enc t).length := by
  have h := tk_back 32 t [] hd (by omega)
  rw [List.append_nil] at h
  exact parse_ok (by omega) h (by omega)
/-- what Decode hands back -/
def DP (W : World) (o : Out) (e : Ending) (W' : World) : Prop :=
  (∃ (β : Bool) (σ : ByteArray) (sl : Option Addr) (n cap : Nat) (f : Int), e = .returned (.tuple #[.agg #[.bool β, .string σ, .slice sl n cap], .int .i64 f]) ∧ match o with
    | .ok t _ => f = 0 ∧ RepS W' (fun k => W.heap.size ≤ k ∧ k < W'.heap.size) 32 t (.agg #[.bool β, .string σ, .slice sl n cap])
    | .bad g => f = g ∧ g ≠ 0) ∧ Below W.heap.size W W'

theorem B3 {W w1 : World} (hB : Below W.heap.size W w1) (u v z : Value) (o : Obj) : Below W.heap.size W ((((w1.setCell ⟨W.heap.size, 0, none⟩ u).setCell ⟨W.heap.size, 1, none⟩ v).setCell ⟨W.heap.size, 2, none⟩ z).alloc o) := by
  have h := ((hB.setCell (p := ⟨W.heap.size, 0, none⟩) (Nat.le_refl _) u).setCell (p := ⟨W.heap.size, 1, none⟩) (Nat.le_refl _) v).setCell (p := ⟨W.heap.size, 2, none⟩) (Nat.le_refl _) z
  exact h.alloc h.size o
theorem R3 {W w1 : World} {h : Nat} {t : T} {r : Value} (hr : RepS w1 (fun k => W.heap.size + 2 ≤ k ∧ k < w1.heap.size) h t r) (u v z : Value) (o : Obj) :
    RepS ((((w1.setCell ⟨W.heap.size, 0, none⟩ u).setCell ⟨W.heap.size, 1, none⟩ v).setCell ⟨W.heap.size, 2, none⟩ z).alloc o) (fun k => W.heap.size ≤ k ∧ k < ((((w1.setCell ⟨W.heap.size, 0, none⟩ u).setCell ⟨W.heap.size, 1, none⟩ v).setCell ⟨W.heap.size, 2, none⟩ z).alloc o).heap.size) h t r := by
  have hs : ((((w1.setCell ⟨W.heap.size, 0, none⟩ u).setCell ⟨W.heap.size, 1, none⟩ v).setCell ⟨W.heap.size, 2, none⟩ z).alloc o).heap.size = w1.heap.size + 1 := by simp [World.setCell]
  refine (hr.same (fun j o' hj => World.cell?_of_block ?_)).sub (fun j hj => ⟨by omega, by omega⟩)
  have hj2 : j ≠ W.heap.size := by have h1 : W.heap.size + 2 ≤ j := hj.1; omega
  rw [heap_alloc_old _ _ (by simp [World.setCell]; exact hj.2), Below.heap_setCell _ _ _ _ hj2, Below.heap_setCell _ _ _ _ hj2, Below.heap_setCell _ _ _ _ hj2]

set_option maxHeartbeats 4000000 in
set_option maxRecDepth 100000 in
theorem decode_any (s : ByteArray) (W : World) (hE : Env W) :
    Calls Tryz.prog 9 #[.string s] W fun e W' => DP W (parse s.data.toList) e W' := by
  have hsz := Lib.size_eq s
  have hbig := hE.big
  have hX : Below W.heap.size W (W.alloc (.cells #[.bool false, .string ⟨#[]⟩, .slice none 0 0] 39)) := (Below.refl _ _).alloc (Nat.le_refl _) _
  by_cases hl : 65536 < s.size
  · have hN := Lib.hid (parse_long (l := s.data.toList) (by omega))
    have k1 : decide ((65536 : Int) < s.size) = true := by simp; omega
    clear hsz
    go_enter Tryz.func9, Tryz.ntmps9
    go_wp2_with fail
    refine bodyPost_ret (v := .tuple #[.agg #[.bool false, .string ⟨#[]⟩, .slice none 0 0], .int .i64 3]) (by simp [results, Tryz.results9, go_sem]) rfl ?_
    rw [hN.out]
    exact ⟨⟨_, _, _, _, _, _, rfl, rfl, by decide⟩, hX⟩
  · have k1 : decide ((65536 : Int) < s.size) = false := by simp; omega
    have hX2 : Below W.heap.size W ((W.alloc (.cells #[.bool false, .string ⟨#[]⟩, .slice none 0 0] 39)).alloc (.cells #[.string s, .int .i64 0, .int .i64 0] 58)) := hX.alloc hX.size _
    have hR : RS ((W.alloc (.cells #[.bool false, .string ⟨#[]⟩, .slice none 0 0] 39)).alloc (.cells #[.string s, .int .i64 0, .int .i64 0] 58)) (W.heap.size + 1) s 0 0 := by
      refine ⟨by simp, ?_, ?_, ?_, ?_⟩
      all_goals first | go_simp | (intro j; go_simp)
    have hcall : Calls Tryz.prog 22 #[.pointer (some ⟨W.heap.size + 1, 0, none⟩), .int .i64 0] ((W.alloc (.cells #[.bool false, .string ⟨#[]⟩, .slice none 0 0] 39)).alloc (.cells #[.string s, .int .i64 0, .int .i64 0] 58)) fun e W' => RN ((W.alloc (.cells #[.bool false, .string ⟨#[]⟩, .slice none 0 0] 39)).alloc (.cells #[.string s, .int .i64 0, .int .i64 0] 58)) (W.heap.size + 1) s 0 32 (tk 32 s.data.toList) e W' :=
      rnode_any 32 _ (W.heap.size + 1) 0 s 0 hR (Nat.zero_le _) (by omega) (hE.below hX2) (by omega) (by omega)
    have hbx : ((W.alloc (.cells #[.bool false, .string ⟨#[]⟩, .slice none 0 0] 39)).alloc (.cells #[.string s, .int .i64 0, .int .i64 0] 58)).heap[W.heap.size]? = some (.cells #[.bool false, .string ⟨#[]⟩, .slice none 0 0] 39 (0, 0)) :=
      (heap_alloc_old _ _ (by simp)).trans (heap_alloc_new W _)
    have hsz2 : ((W.alloc (.cells #[.bool false, .string ⟨#[]⟩, .slice none 0 0] 39)).alloc (.cells #[.string s, .int .i64 0, .int .i64 0] 58)).heap.size = W.heap.size + 2 := by simp
    cases hO : tk 32 s.data.toList with
    | bad f =>
      have hN := Lib.hid (parse_bad (by omega) hO)
      rw [hO] at hcall
      clear hO hl hsz
      go_enter Tryz.func9, Tryz.ntmps9
      go_wp2_with fail
      refine hcall.mono ?_
      rintro e w1 ⟨⟨x, y, z, rfl, rfl, rfl, rfl, hf5, c, hrs⟩, hfq⟩
      have hbx1 := (hfq.block W.heap.size (by rw [hsz2]; omega) (by omega)).trans hbx
      have hB := hX2.trans (hfq.below.mono (Nat.le_succ _))
      clear hbx hsz2 hX hX2 hcall hR
      have q0 : w1.cell? ⟨W.heap.size, 0, none⟩ = some (.bool false) := by simp [World.cell?, hbx1]
      have q1 : w1.cell? ⟨W.heap.size, 1, none⟩ = some (.string ⟨#[]⟩) := by simp [World.cell?, hbx1]
      have q2 : w1.cell? ⟨W.heap.size, 2, none⟩ = some (.slice none 0 0) := by simp [World.cell?, hbx1]
      have qf : ∀ j, w1.frozen? ⟨W.heap.size, j, none⟩ = false := fun j => by simp [World.frozen?, hbx1]
      have c0 := hrs.c0
      have c1 := hrs.c1
      have c2 := hrs.c2
      have l1 := hrs.lt
      have l0 : W.heap.size < w1.heap.size := by omega
      clear hbx1 hrs hfq
      rcases hf5 with rfl | rfl
      · go_wp2_with fail
        go_region
        go_wp2_with fail
        refine bodyPost_ret (v := .tuple #[.agg #[.bool false, .string ⟨#[]⟩, .slice none 0 0], .int .i64 4]) (by simp [results, Tryz.results9, go_sem, q0, q1, q2, l0]) rfl ?_
        rw [hN.out]
        exact ⟨⟨_, _, _, _, _, _, rfl, rfl, by decide⟩, (B3 hB _ _ _ _).drew⟩
      · go_wp2_with fail
        go_region
        go_wp2_with fail
        refine bodyPost_ret (v := .tuple #[.agg #[.bool false, .string ⟨#[]⟩, .slice none 0 0], .int .i64 5]) (by simp [results, Tryz.results9, go_sem, q0, q1, q2, l0]) rfl ?_
        rw [hN.out]
        exact ⟨⟨_, _, _, _, _, _, rfl, rfl, by decide⟩, (B3 hB _ _ _ _).drew⟩
    | ok t n =>
      obtain ⟨tk1, tk2, -⟩ := tk_enc _ _ _ _ hO
      rw [hO] at hcall
      by_cases hn : n < s.data.toList.length
      · have hN := Lib.hid (parse_more (by omega) hO hn)
        have k2 : decide ((n : Int) < s.size) = true := by simp; omega
        have k3 : n < s.size := by omega
        clear hO hl hsz hn tk2
        go_enter Tryz.func9, Tryz.ntmps9
        go_wp2_with fail
        refine hcall.mono ?_
        rintro e w1 ⟨⟨x, y, z, rfl, hrep, hrs⟩, hfq⟩
        obtain ⟨β, σ, sl, n', cap, rfl, rfl, rfl⟩ := hrep.vals
        rw [Nat.zero_add] at hrs
        have hbx1 := (hfq.block W.heap.size (by rw [hsz2]; omega) (by omega)).trans hbx
        have hB := hX2.trans (hfq.below.mono (Nat.le_succ _))
        clear hbx hsz2 hX hX2 hcall hR
        have q0 : w1.cell? ⟨W.heap.size, 0, none⟩ = some (.bool false) := by simp [World.cell?, hbx1]
        have q1 : w1.cell? ⟨W.heap.size, 1, none⟩ = some (.string ⟨#[]⟩) := by simp [World.cell?, hbx1]
        have q2 : w1.cell? ⟨W.heap.size, 2, none⟩ = some (.slice none 0 0) := by simp [World.cell?, hbx1]
        have qf : ∀ j, w1.frozen? ⟨W.heap.size, j, none⟩ = false := fun j => by simp [World.frozen?, hbx1]
        have c0 := hrs.c0
        have c1 := hrs.c1
        have c2 := hrs.c2
        have fz := hrs.fz
        have l1 := hrs.lt
        have l0 : W.heap.size < w1.heap.size := by omega
        clear hbx1 hrs hfq hrep
        go_wp2_with fail
        go_region
        go_wp2_with fail
        refine bodyPost_ret (v := .tuple #[.agg #[.bool false, .string ⟨#[]⟩, .slice none 0 0], .int .i64 5]) (by simp [results, Tryz.results9, go_sem, q0, q1, q2, l0]) rfl ?_
        rw [hN.out]
        exact ⟨⟨_, _, _, _, _, _, rfl, rfl, by decide⟩, (B3 (hB.setCell (p := ⟨W.heap.size + 1, 2, none⟩) (Nat.le_succ _) _) _ _ _ _).drew⟩
      · have hN := Lib.hid (parse_ok (by omega) hO hn)
        have k2 : decide ((n : Int) < s.size) = false := by simp; omega
        have k3 : ¬ n < s.size := by omega
        clear hO hl hsz hn tk2
        go_enter Tryz.func9, Tryz.ntmps9
        go_wp2_with fail
        refine hcall.mono ?_
        rintro e w1 ⟨⟨x, y, z, rfl, hrep, hrs⟩, hfq⟩
        obtain ⟨β, σ, sl, n', cap, rfl, rfl, rfl⟩ := hrep.vals
        rw [Nat.zero_add] at hrs
        have hbx1 := (hfq.block W.heap.size (by rw [hsz2]; omega) (by omega)).trans hbx
        have hB := hX2.trans (hfq.below.mono (Nat.le_succ _))
        rw [hsz2] at hrep
        clear hbx hsz2 hX hX2 hcall hR
        have q0 : w1.cell? ⟨W.heap.size, 0, none⟩ = some (.bool false) := by simp [World.cell?, hbx1]
        have q1 : w1.cell? ⟨W.heap.size, 1, none⟩ = some (.string ⟨#[]⟩) := by simp [World.cell?, hbx1]
        have q2 : w1.cell? ⟨W.heap.size, 2, none⟩ = some (.slice none 0 0) := by simp [World.cell?, hbx1]
        have qf : ∀ j, w1.frozen? ⟨W.heap.size, j, none⟩ = false := fun j => by simp [World.frozen?, hbx1]
        have c0 := hrs.c0
        have c1 := hrs.c1
        have c2 := hrs.c2
        have fz := hrs.fz
        have l1 := hrs.lt
        have l0 : W.heap.size < w1.heap.size := by omega
        have HR := Lib.hid hrep
        clear hbx1 hrs hfq hrep
        go_wp2_with fail
        refine bodyPost_ret (v := .tuple #[.agg #[.bool β, .string σ, .slice sl n' cap], .int .i64 0]) (by simp [results, Tryz.results9, go_sem, q0, q1, q2, l0]) rfl ?_
        rw [hN.out]
        exact ⟨⟨_, _, _, _, _, _, rfl, rfl, R3 HR.out _ _ _ _⟩, B3 hB _ _ _ _⟩
end Sx
end Go.Proofs.YtbhngjhfeejeiaaGreatDoor
