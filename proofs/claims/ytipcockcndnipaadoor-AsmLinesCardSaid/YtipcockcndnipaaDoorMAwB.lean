/-
  Walk: strings.Builder's WriteString (this cut refuses one site of copyCheck, so the shelf's own does not fit).
-/
import Derived.Test.YtipcockcndnipaaDoorMAwA
import Derived.Lib.Builder
import Derived.Lib.AppendStr
import Derived.Shelf.Strings.Builder1
namespace Go.Proofs.YtipcockcndnipaaDoor
open Go.RowKit
namespace Aw

/-- nothing but block b turns -/
structure Only (W W' : World) (b : Nat) : Prop where
  os : W'.os = W.os
  tape : W'.tape = W.tape
  output : W'.output = W.output
  size : W.heap.size ≤ W'.heap.size
  block : ∀ k, k < W.heap.size → k ≠ b → W'.heap[k]? = W.heap[k]?
set_option maxHeartbeats 1000000 in
set_option maxRecDepth 100000 in
theorem cc_any (b : Nat) (p v : Value) (w : World) (hb : w.heap[b]? = some (.cells #[p, v] 37 (0, 0))) (hp : p = .pointer none ∨ p = .pointer (some ⟨b, 0, none⟩)) :
    Calls Tryd.prog 26 #[.pointer (some ⟨b, 0, none⟩)] w fun e w' => e = .returned (.tuple #[]) ∧ w'.heap[b]? = some (.cells #[.pointer (some ⟨b, 0, none⟩), v] 37 (0, 0)) ∧ Only w w' b := by
  have c0 : w.cell? ⟨b, 0, none⟩ = some p := by simp [World.cell?, hb]
  have z0 : w.frozen? ⟨b, 0, none⟩ = false := by simp [World.frozen?, hb]
  have hsh : w.shape? b = some (37, 2) := by simp [World.shape?, hb]
  have HB := Lib.hid hb
  clear hb
  obtain ⟨j, hj, hjs⟩ := Option.map_eq_some_iff.1 (show (Tryd.prog.info? 37).map (fun i => i.size) = some 2 by kernel_rfl)
  rcases hp with rfl | rfl
  · go_enter Tryd.func26, Tryd.ntmps26
    go_wp2
    rw [Lib.run_to_unsafe w ⟨b, 0, none⟩ Tryd.underlying34 Tryd.underlying90 hj (by rw [hjs]; decide) hsh (Nat.zero_lt_succ 1)]
    simp only [Result.andThen]
    rw [Oper.upon_value]
    go_wp2
    rw [run_callFunc_extern Tryd.func38 (by kernel_rfl) (by kernel_rfl) (by kernel_rfl) (e := Extern.AbiNoEscape.same) (by kernel_rfl)]
    rw [Lib.run_noEscape]
    simp only [Result.andThen]
    rw [Oper.upon_value]
    go_wp2
    rw [Lib.run_from_unsafe w ⟨b, 0, none⟩ Tryd.underlying90 Tryd.underlying34 hj hsh (by kernel_rfl)]
    simp only [Result.andThen]
    rw [Oper.upon_value]
    go_wp2
    go_end0
    exact ⟨rfl, heap_setCell_same w b 0 _ _ _ HB.out, rfl, rfl, rfl, by simp [World.setCell], fun k _ hk => Below.heap_setCell _ _ _ _ hk⟩
  · go_enter Tryd.func26, Tryd.ntmps26
    go_wp2
    rw [Lib.run_neq_ptr_same w _ Tryd.underlying34 hj]
    go_wp2
    go_end0
    exact ⟨rfl, HB.out, rfl, rfl, rfl, Nat.le_refl _, fun _ _ _ => rfl⟩
/-- a builder in block b, holding l; its bytes lie at or beyond B -/
def BS (W : World) (B b : Nat) (l : List UInt8) : Prop := ∃ p v, (p = .pointer none ∨ p = .pointer (some ⟨b, 0, none⟩)) ∧ W.heap[b]? = some (.cells #[p, v] 37 (0, 0)) ∧ W.ownsRow B 5 1 v l.length (u8s l)
/-- nothing turns but block b and rows of bytes at or beyond B -/
structure Fb (W W' : World) (B b : Nat) : Prop where
  os : W'.os = W.os
  tape : W'.tape = W.tape
  output : W'.output = W.output
  size : W.heap.size ≤ W'.heap.size
  block : ∀ k, k < W.heap.size → k ≠ b → (k < B ∨ ∀ cs, W.heap[k]? ≠ some (.cells cs 5 (0, 0))) → W'.heap[k]? = W.heap[k]?
theorem Fb.of_below {W W' : World} {B b : Nat} (h : Below W.heap.size W W') : Fb W W' B b := ⟨h.os, h.tape, h.output, h.size, fun k hk _ _ => h.block k hk⟩
theorem Fb.trans {W W' W'' : World} {B b : Nat} (h : Fb W W' B b) (g : Fb W' W'' B b) : Fb W W'' B b :=
  ⟨g.os.trans h.os, g.tape.trans h.tape, g.output.trans h.output, Nat.le_trans h.size g.size, fun k hk hkb ho => by
    have h1 := h.block k hk hkb ho
    refine (g.block k (Nat.lt_of_lt_of_le hk h.size) hkb ?_).trans h1
    rcases ho with ho | ho
    · exact .inl ho
    · exact .inr fun cs e => ho cs (h1.symm.trans e)⟩
theorem Fb.below {W W' : World} {B b B0 : Nat} (h : Fb W W' B b) (h0 : B0 ≤ b) (h1 : B0 ≤ B) (h2 : B0 ≤ W.heap.size) : Below B0 W W' := ⟨h.os, h.tape, h.output, h.size, fun k hk => h.block k (by omega) (by omega) (.inl (by omega))⟩
theorem BS.below {W W' : World} {B b : Nat} {l : List UInt8} (h : BS W B b l) (hb : Below W.heap.size W W') : BS W' B b l := by
  obtain ⟨p, v, h1, h2, h3⟩ := h
  exact ⟨p, v, h1, (hb.block b (Array.getElem?_eq_some_iff.1 h2).1).trans h2, own_block h3 fun k hk => hb.block k (h3.lt k hk).2⟩
theorem info_by : (Tryd.prog.info? 5).map (fun i => (i.zero, i.size, i.bytes)) = some (some (.int .u8 0), 1, 1) := by kernel_rfl
set_option maxHeartbeats 1000000 in
set_option maxRecDepth 100000 in
theorem ws_any (s : ByteArray) (B b : Nat) (l : List UInt8) (w : World) (h : BS w B b l) (hl : l.length + s.size ≤ 100000000) (hB : B ≤ w.heap.size) :
    Calls Tryd.prog 12 #[.pointer (some ⟨b, 0, none⟩), .string s] w fun e w' => e = .returned (.tuple #[.int .i64 (s.size : Int), .nilIface]) ∧ BS w' B b (l ++ s.data.toList) ∧ Fb w w' B b := by
  obtain ⟨i0, hi0, hz0, hz1, hz2⟩ := info_parts info_by
  obtain ⟨p, v, hp, hbk, hown⟩ := h
  have hcc := cc_any b p v w hbk hp
  have hvb : v.ownBlock ≠ some b := fun e => by
    rcases hown.2 with ⟨rfl, _⟩ | ⟨g, cap, cur, rfl, _, hg, _⟩
    · cases e
    · cases e
      rw [hbk] at hg
      cases hg
  have HO := Lib.hid (And.intro hbk (And.intro hown hvb))
  clear hbk hown hvb
  go_enter Tryd.func12, Tryd.ntmps12
  go_wp2_with (first
    | (go_at_call 26; refine hcc.mono ?_; rintro e w1 ⟨rfl, hb1, hF1⟩; clear hcc; obtain ⟨hbk, hown, hvb⟩ := HO.out; have c1 : w1.cell? ⟨b, 1, none⟩ = some v := (by simp [World.cell?, hb1]); have hown1 : w1.ownsRow B 5 1 v l.length (u8s l) := own_block hown (fun k hk => hF1.block k (hown.lt k hk).2 (fun e => hvb (by rw [hk, e]))); have HO1 := Lib.hid (And.intro hb1 (And.intro hF1 hown1)); clear hbk hown hvb hb1 hF1 hown1)
    | (at_builtin; refine Lib.wpList_append_own_string _ rfl _ _ 35 9 rfl B 5 i0 Tryd.underlying35 Tryd.underlying9 hi0 hz0 hz1 hz2 v l.length _ rfl HO1.out.2.2 s rfl ?d1 ?d2 ?d3 ?_))
  case d1 => unfold maxLen; omega
  case d2 => omega
  case d3 => have := HO1.out.2.1.size; omega
  intro v' w2 hown2 hg2 _
  obtain ⟨hbk, hown, hvb⟩ := HO.out
  obtain ⟨hb1, hF1, hown1⟩ := HO1.out
  have hlt : b < w1.heap.size := (Array.getElem?_eq_some_iff.1 hb1).1
  have hb2 : w2.heap[b]? = some (.cells #[.pointer (some ⟨b, 0, none⟩), v] 37 (0, 0)) := (hg2.block b hlt (fun e => hvb e.symm)).trans hb1
  have c2 : w2.cell? ⟨b, 1, none⟩ = some v := by simp [World.cell?, hb2]
  have z2 : w2.frozen? ⟨b, 1, none⟩ = false := by simp [World.frozen?, hb2]
  obtain ⟨sl2, cp2, rfl⟩ := own_form hown2
  have hcell : Lib.strCells s = u8s s.data.toList := rfl
  have hsz : s.size = s.data.toList.length := Lib.size_eq s
  have HE := Lib.hid (show BS (w2.setCell ⟨b, 1, none⟩ (.slice sl2 (l.length + s.size) cp2)) B b (l ++ s.data.toList) ∧ Fb w (w2.setCell ⟨b, 1, none⟩ (.slice sl2 (l.length + s.size) cp2)) B b from ⟨⟨_, _, .inr rfl, heap_setCell_same w2 b 1 _ _ _ hb2, by
      rw [List.length_append, ← hsz, u8s_app, ← hcell]
      exact own_block hown2 fun k hk => Below.heap_setCell _ _ _ _ (fun e => by
        rcases hown2.2 with ⟨e0, _⟩ | ⟨g, cap, cur, e0, _, hg, _⟩
        · rw [e0] at hk; cases hk
        · rw [e0] at hk
          cases hk
          rw [show g = b from e, hb2] at hg
          cases hg)⟩, ⟨hg2.os.trans hF1.os, hg2.tape.trans hF1.tape, hg2.output.trans hF1.output, by have := hg2.size; have := hF1.size; simp [World.setCell]; omega, fun k hk hkb ho => (Below.heap_setCell _ _ _ _ hkb).trans ((hg2.block k (by have := hF1.size; omega) (fun e => by
          rcases hown.2 with ⟨e0, _⟩ | ⟨g, cap, cur, e0, hBg, hg, _⟩
          · rw [e0] at e; cases e
          · rw [e0] at e
            have e' : k = g := by first | exact Option.some.inj e | exact (Option.some.inj e).symm
            rcases ho with ho | ho
            · omega
            · rw [← e'] at hg
              exact ho _ hg)).trans (hF1.block k hk hkb))⟩⟩)
  clear hsz hcell hbk hown hvb hb1 hF1 hown1 hb2 hown2 hg2
  go_wp2_with fail
  go_ret2
  exact ⟨rfl, HE.out.1, HE.out.2⟩
end Aw
end Go.Proofs.YtipcockcndnipaaDoor
