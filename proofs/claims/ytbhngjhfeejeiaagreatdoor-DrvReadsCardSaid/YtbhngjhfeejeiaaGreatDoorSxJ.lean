/-
  Walks: sexp.Atom, sexp.List.
-/
import Derived.Test.YtbhngjhfeejeiaaGreatDoorSxI
import Derived.StillTailTactics
namespace Go.Proofs.YtbhngjhfeejeiaaGreatDoor
open Go.RowKit
namespace Sx

theorem info_node : (Tryz.prog.info? 39).map (fun i => (i.zero, i.size, i.bytes)) = some (some (.agg #[.bool false, .string ⟨#[]⟩, .slice none 0 0]), 3, 48) := by kernel_rfl
theorem own_mono {W : World} {B B' e size n : Nat} {v : Value} {xs : List Value} (hB : B ≤ B') (h : W.ownsRow B' e size v n xs) : W.ownsRow B e size v n xs := by
  refine ⟨h.1, ?_⟩
  rcases h.2 with hn | ⟨g, cap, cur, rfl, hg, rest⟩
  · exact .inl hn
  · exact .inr ⟨g, cap, cur, rfl, Nat.le_trans hB hg, rest⟩
abbrev AV (s : ByteArray) : Value := .agg #[.bool true, .string s, .slice none 0 0]

set_option maxHeartbeats 400000 in
theorem atom_any (s : ByteArray) (W : World) : Calls Tryz.prog 19 #[.string s] W fun e W' => e = .returned (AV s) ∧ Below W.heap.size W W' := by
  go_enter Tryz.func19, Tryz.ntmps19
  go_wp2
  refine bodyPost_ret (v := AV s) (by simp [results, Tryz.results19, go_sem]) rfl ⟨rfl, ?_⟩
  exact (Below.refl _ _).alloc (Nat.le_refl _) _

set_option maxHeartbeats 400000 in
set_option maxRecDepth 100000 in
theorem list_any (n : Nat) (a : Addr) (cap : Nat) (news : List Value) (W : World) (hn : n ≤ 1048576) (hl : news.length = n * 3) (ha : a.block < W.heap.size) (hc : ∀ j u, news[j]? = some u → W.cell? (a.add j) = some u) (h1 : ∀ u ∈ news, u.oneCell' = true) :
    Calls Tryz.prog 18 #[.slice (some a) n cap] W fun e W' => ∃ v, e = .returned (.agg #[.bool false, .string ⟨#[]⟩, v]) ∧ W'.ownsRow W.heap.size 39 3 v n news ∧ Below W.heap.size W W' := by
  obtain ⟨i0, hi0, hz0, hz1, hz2⟩ := info_parts info_node
  have hX : Below W.heap.size W ((W.alloc (.cells #[.bool false, .string ⟨#[]⟩, .slice none 0 0] 39)).alloc (.cells #[] 39)) := ((Below.refl _ _).alloc (Nat.le_refl _) _).alloc (by simp) _
  have hadd : ∀ n, (a.add n).block = a.block := fun n => by unfold Addr.add; split <;> rfl
  have hcX : ∀ j u, news[j]? = some u → ((W.alloc (.cells #[.bool false, .string ⟨#[]⟩, .slice none 0 0] 39)).alloc (.cells #[] 39)).cell? (a.add j) = some u := fun j u hu => (hX.cell (by rw [hadd]; exact ha)).trans (hc j u hu)
  have hown : ((W.alloc (.cells #[.bool false, .string ⟨#[]⟩, .slice none 0 0] 39)).alloc (.cells #[] 39)).ownsRow (W.heap.size + 1) 39 3 (.slice (some ⟨W.heap.size + 1, 0, none⟩) 0 0) 0 [] := by
    have := World.ownsRow_lit (W.alloc (.cells #[.bool false, .string ⟨#[]⟩, .slice none 0 0] 39)) (e := 39) (base := W.heap.size + 1) (size := 3) #[] 0 (by simp) (by decide) rfl
    simpa using this
  go_enter Tryz.func18, Tryz.ntmps18
  go_wp2_with (first
    | (at_builtin; refine wpList_append_own _ rfl _ _ 37 rfl (W.heap.size + 1) 39 i0 _ 3 48 Tryz.underlying37 hi0 hz0 hz1 hz2 rfl (by decide) _ _ _ rfl hown a n cap news rfl hl hcX h1 ?c3 ?c4 ?c5 ?_))
  case c3 => unfold maxLen; omega
  case c4 => omega
  case c5 => simp
  intro v w1 hown1 hg _
  have hr0 : some W.heap.size ≠ (Value.slice (some ⟨W.heap.size + 1, 0, none⟩) 0 0).ownBlock := by simp [Value.ownBlock]
  have hblk := hg.block W.heap.size (by simp; omega) hr0
  have hq : ∀ o, w1.cell? ⟨W.heap.size, o, none⟩ = _ := fun o => World.cell?_of_block hblk
  have q0 : w1.cell? ⟨W.heap.size, 0, none⟩ = some (.bool false) := (hq 0).trans (by go_simp)
  have q1 : w1.cell? ⟨W.heap.size, 1, none⟩ = some (.string ⟨#[]⟩) := (hq 1).trans (by go_simp)
  have q2 : w1.cell? ⟨W.heap.size, 2, none⟩ = some (.slice none 0 0) := (hq 2).trans (by go_simp)
  have qf : ∀ o, w1.frozen? ⟨W.heap.size, o, none⟩ = false := fun o => (World.frozen?_of_block hblk).trans (by go_simp)
  have hB1 : Below W.heap.size W w1 := hX.grown hg hX.size (fun k hk => by simp [Value.ownBlock] at hk; omega)
  have hlt := Nat.lt_of_lt_of_le (show W.heap.size < W.heap.size + 1 + 1 by omega) (by simpa using hg.size)
  have hownF : ∀ x y z, (((w1.setCell ⟨W.heap.size, 0, none⟩ x).setCell ⟨W.heap.size, 1, none⟩ y).setCell ⟨W.heap.size, 2, none⟩ z).ownsRow W.heap.size 39 3 v n news := fun x y z => by
    have h := own_mono (Nat.le_succ W.heap.size) hown1
    exact own_block h (fun k hk => by
      have hk' := (hown1.lt k hk).1
      rw [Below.heap_setCell _ _ _ _ (by show k ≠ W.heap.size; omega), Below.heap_setCell _ _ _ _ (by show k ≠ W.heap.size; omega), Below.heap_setCell _ _ _ _ (by show k ≠ W.heap.size; omega)])
  have HO := Lib.hid hownF
  clear hownF
  obtain ⟨sl, c2, rfl⟩ := own_form hown1
  clear hown1 hg hblk hq hown hcX hX hc h1
  go_wp2
  refine bodyPost_ret (v := .agg #[.bool false, .string ⟨#[]⟩, .slice sl n c2]) (by simp [results, Tryz.results18, go_sem, q0, q1, q2]) rfl ⟨_, rfl, HO.out _ _ _, ?_⟩
  exact ((hB1.setCell (Nat.le_refl _) _).setCell (Nat.le_refl _) _).setCell (Nat.le_refl _) _
end Sx
end Go.Proofs.YtbhngjhfeejeiaaGreatDoor
