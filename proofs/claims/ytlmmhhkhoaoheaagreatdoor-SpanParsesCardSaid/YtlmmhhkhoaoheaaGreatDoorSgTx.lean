/-
  Walks: word; Text at the empty range and at the range that the laws' guard tells; alive.
-/
import Derived.Test.YtlmmhhkhoaoheaaGreatDoorSgZ
import Derived.Test.YtlmmhhkhoaoheaaGreatDoorSgW
import Derived.Test.YtlmmhhkhoaoheaaGreatDoorSxExt
import Derived.Test.YtlmmhhkhoaoheaaGreatDoorVersionT
namespace Go.Proofs.YtlmmhhkhoaoheaaGreatDoor
open Go.RowKit Go.Shelf Go.Lib
namespace Sg

theorem info_string : (Tryz.prog.info? 9).map (fun i => (i.zero, i.size, i.bytes)) = some (some (.string ⟨#[]⟩), 1, 16) := by kernel_rfl
/-- a slice of texts that is its holder's own -/
def SO (W : World) (B : Nat) (v : Value) (l : List ByteArray) : Prop := W.ownsRow B 9 1 v l.length (l.map Value.string)
theorem so_nil (W : World) (B : Nat) : SO W B (.slice none 0 0) [] := World.ownsRow_nil W B _ 1
theorem SO.isl {W : World} {B : Nat} {v : Value} {l : List ByteArray} (h : SO W B v l) : ∃ sl cap, v = .slice sl l.length cap := by
  rcases h.2 with ⟨rfl, hn⟩ | ⟨g, cap, cur, rfl, _⟩
  · exact ⟨none, 0, by rw [hn]⟩
  · exact ⟨_, _, rfl⟩
theorem SO.at {W : World} {B : Nat} {sl : Option Addr} {n cap : Nat} {l : List ByteArray} (h : SO W B (.slice sl n cap) l) (hn : l ≠ []) :
    ∃ g, sl = some ⟨g, 0, none⟩ ∧ g < W.heap.size ∧ n = l.length ∧ n ≤ cap ∧ ∀ (k : Nat) x, l[k]? = some x → W.cell? ⟨g, 0 + k, none⟩ = some (.string x) := by
  have h0 := h
  rcases h.2 with ⟨_, hz⟩ | ⟨g, cap', cur, e, hb, hg, hc, _⟩
  · exact absurd (List.length_eq_zero_iff.1 hz) hn
  · cases e
    refine ⟨g, rfl, (Array.getElem?_eq_some_iff.1 hg).1, rfl, by omega, fun k x hk => ?_⟩
    have h1 := World.ownsRow.cells h0 (g := g) rfl k (.string x) (by rw [List.getElem?_map, hk]; rfl)
    rw [add_at] at h1
    exact h1
theorem SO.below {W W' : World} {B : Nat} {v : Value} {l : List ByteArray} (h : SO W B v l) (hb : Below W.heap.size W W') : SO W' B v l :=
  World.ownsRow.kept h (row := none) ⟨hb.os, hb.tape, hb.output, hb.size, fun k hk _ => hb.block k hk⟩ (by cases v.ownBlock <;> simp)
theorem SO.push {w : World} {B : Nat} {v : Value} {l : List ByteArray} (h : SO w B v l) (x : ByteArray) (hn : l.length ≤ 1000000) (hBw : B ≤ w.heap.size) {ops : Array Oper} {rest : List Oper} {o : Oper} {a : Act} {Q : Exit → Act → World → Prop} (hgd : o.guard = none) (sl xo : Operand)
    (ho : o.op = .call { callee := .builtin .append, args := #[sl, xo], argTypes := #[53, 53] }) (hv : a.eval sl = v) {A : Nat} (hx : a.eval xo = .slice (some ⟨A, 0, none⟩) 1 1) (hA : A = w.heap.size)
    (hK : ∀ v' w', SO w' B v' (l ++ [x]) → (∀ w0, Below B w0 w → Below B w0 w') → wpList Tryz.prog ops Q rest (a.put o.dst v') w') : wpList Tryz.prog ops Q (o :: rest) a (w.alloc (.cells #[.string x] 9)) := by
  subst hA
  obtain ⟨i0, hi0, hz⟩ := Option.map_eq_some_iff.1 info_string
  obtain ⟨z1, z2⟩ := Prod.mk.inj hz
  obtain ⟨z2, z3⟩ := Prod.mk.inj z2
  have h1 : SO (w.alloc (.cells #[.string x] 9)) B v l := h.below ((Below.refl _ _).alloc (Nat.le_refl _) _)
  refine wpList_append_own _ hgd sl xo 53 ho B 9 i0 _ 1 16 Tryz.underlying53 hi0 z1 z2 z3 rfl (by decide) v l.length _ hv h1 ⟨w.heap.size, 0, none⟩ 1 1 [.string x] hx rfl (World.news_of_block (cs := #[.string x]) (heap_alloc_new w _)) ?_ (by unfold maxLen; omega) (by omega) (by simp; omega) ?_
  · intro q hq
    simp only [List.mem_cons, List.not_mem_nil, or_false] at hq
    subst hq
    rfl
  intro v' w2 hown2 hg2 _
  refine hK v' w2 ?_ (fun w0 h0 => (h0.alloc hBw _).grown hg2 (by simp; omega) (fun k hk => (h.lt k hk).1))
  unfold SO
  rw [List.length_append, List.map_append]
  exact hown2
def numT (n : Int) : List UInt8 := Vs.textL (n / 1000000) (n / 1000 % 1000) (n % 1000)
theorem of9 (n : Int) (w : World) (h0 : 0 ≤ n) (h1 : n < 1000000000) : Calls Tryz.prog 55 #[.int .i64 n] w fun e w' => e = .returned (.tuple #[Vs.V (n / 1000000) (n / 1000 % 1000) (n % 1000), .bool true]) ∧ Below w.heap.size w w' := by
  have h := Vs.of_any n w
  rw [Vs.of_tt h0 h1] at h
  exact h
theorem text_len9 (a b c : Int) : (Vs.textL a b c).length ≤ 1000 := by
  unfold Vs.textL
  split
  · rename_i h
    obtain ⟨a0, a1, b0, b1, c0, c1⟩ := Vs.of_good h
    have l0 := Lib.itoa_length_le a (by omega) (by omega)
    have l1 := Lib.itoa_length_le b (by omega) (by omega)
    have l2 := Lib.itoa_length_le c (by omega) (by omega)
    simp
    omega
  · simp
set_option maxHeartbeats 1000000 in
theorem word_any (sg : ByteArray) (n : Int) (h0 : 0 ≤ n) (h1 : n < 1000000000) (hsg : sg.size ≤ 1000) (W : World) (hE : Vs.Env W) :
    Calls Tryz.prog 41 #[.string sg, .int .i64 n] W fun e W' => e = .returned (.string (sg ++ ⟨(numT n).toArray⟩)) ∧ Below W.heap.size W W' := by
  have hof := of9 n W h0 h1
  unfold numT
  generalize n / 1000000 = a at hof ⊢
  generalize n / 1000 % 1000 = b at hof ⊢
  generalize n % 1000 = c at hof ⊢
  have hte := fun w (hb : Below W.heap.size W w) => Vs.text_any a b c w (hE.below (Nat.le_refl _) hb)
  have hadd : ∀ w : World, (Op.stringOp .add sg ⟨(Vs.textL a b c).toArray⟩).run Tryz.prog w = .ok (.string (sg ++ ⟨(Vs.textL a b c).toArray⟩)) w := fun w => run_string_add_sum _ _ _ (by
    rw [Lib.size_eq ⟨(Vs.textL a b c).toArray⟩]
    have := text_len9 a b c
    show sg.size + (Vs.textL a b c).length ≤ _
    omega)
  go_enter Tryz.func41, Tryz.ntmps41
  go_wp2_with (first
    | (go_at_call 55; refine hof.mono ?_; rintro e W1 ⟨rfl, hB1⟩; have hB2 := hB1.alloc hB1.size (.cells #[.int .i64 a, .int .i64 b, .int .i64 c] 31))
    | (go_at_call 56; refine (hte _ hB2).mono ?_; rintro e W3 ⟨rfl, hB3⟩; have hB4 := hB2.trans (hB3.mono hB2.size); unfold Vs.T))
  go_ret
  exact ⟨rfl, hB4⟩
abbrev rA : List G := [(1002000, 2000000), (3000000, 3000001)]
abbrev tA1 : ByteArray := ⟨#[62, 61, 49, 46, 50, 46, 48, 32, 60, 50, 46, 48, 46, 48]⟩
abbrev tA2 : ByteArray := ⟨#[61, 51, 46, 48, 46, 48]⟩
abbrev tA : ByteArray := ⟨#[62, 61, 49, 46, 50, 46, 48, 32, 60, 50, 46, 48, 46, 48, 32, 124, 32, 61, 51, 46, 48, 46, 48]⟩
theorem w1_eq : ((⟨#[62, 61]⟩ : ByteArray) ++ ⟨(numT 1002000).toArray⟩) = ⟨#[62, 61, 49, 46, 50, 46, 48]⟩ := by decide +kernel
theorem w2_eq : ((⟨#[60]⟩ : ByteArray) ++ ⟨(numT 2000000).toArray⟩) = ⟨#[60, 50, 46, 48, 46, 48]⟩ := by decide +kernel
theorem w3_eq : ((⟨#[61]⟩ : ByteArray) ++ ⟨(numT 3000000).toArray⟩) = tA2 := by decide +kernel
theorem j_eq : (⟨(Lib.join ([tA1, tA2].map (·.data.toList)) (ByteArray.data ⟨#[32, 124, 32]⟩).toList).toArray⟩ : ByteArray) = tA := by decide +kernel
theorem text_none (v : Value) (W : World) (hP : GS W v []) : Calls Tryz.prog 23 #[v] W fun e W' => e = .returned (.string ⟨#[110, 111, 110, 101]⟩) ∧ Below W.heap.size W W' := by
  have hg := good_any [] v W hP
  rw [show goodB [] = true by decide] at hg
  obtain ⟨sl, cap, rfl, -, -⟩ := hP.form
  clear hP
  go_enter Tryz.func23, Tryz.ntmps23
  go_wp2_with (go_at_call 12; refine hg.mono ?_; rintro e W1 ⟨rfl, hB1⟩)
  go_ret
  exact ⟨rfl, hB1⟩
set_option maxHeartbeats 4000000 in
set_option maxRecDepth 100000 in
theorem text_two (v : Value) (W : World) (hP : GS W v rA) (hE : Vs.Env W) : Calls Tryz.prog 23 #[v] W fun e W' => e = .returned (.string tA) ∧ Below W.heap.size W W' := by
  have hg := good_any rA v W hP
  rw [show goodB rA = true by decide] at hg
  obtain ⟨sl, cap, rfl, -, hf⟩ := hP.form
  have HF := Lib.hid hf
  clear hf hP
  go_enter Tryz.func23, Tryz.ntmps23
  go_wp2_with (go_at_call 12; refine hg.mono ?_; rintro e W1 ⟨rfl, hB1⟩)
  clear hg
  go_loopw [3, 14] (fun o i wr => ∃ k : Nat, k ≤ 2 ∧ i = .int .i64 (k : Int) ∧ SO wr W.heap.size o ([tA1, tA2].take k) ∧ Below W.heap.size W wr) (fun _ i _ => 2 - (intOf i).toNat)
  case atStart => exact ⟨0, by omega, rfl, so_nil _ _, hB1⟩
  case round =>
    obtain ⟨k, hk, rfl, ho, hb⟩ := hrel
    rcases (show k = 0 ∨ k = 1 ∨ k = 2 by omega) with rfl | rfl | rfl
    · obtain ⟨b, o, rfl, ha, h3⟩ := HF.out 0 _ rfl
      obtain ⟨c0, c1⟩ := h3.below ha hb
      simp only [Nat.zero_mul, Nat.add_zero] at c0 c1
      have hB := hb.alloc hb.size (.cells #[.int .i64 1002000, .int .i64 2000000] 42)
      have HO := Lib.hid (ho.below ((Below.refl _ _).alloc (Nat.le_refl _) (.cells #[.int .i64 1002000, .int .i64 2000000] 42)))
      obtain ⟨z0, z1, -, -⟩ := obj_two (heap_alloc_new wr (.cells #[.int .i64 1002000, .int .i64 2000000] 42))
      have e0 := Sx.ext_cell z0
      have e1 := Sx.ext_cell z1
      have H1 := Lib.hid (fun w' (hw : Below (wr.alloc (.cells #[.int .i64 1002000, .int .i64 2000000] 42)).heap.size (wr.alloc (.cells #[.int .i64 1002000, .int .i64 2000000] 42)) w') => word_any ⟨#[62, 61]⟩ 1002000 (by omega) (by omega) (by decide) w' (hE.below (Nat.le_refl _) (hB.trans (hw.mono hB.size))))
      have H2 := Lib.hid (fun w' (hw : Below (wr.alloc (.cells #[.int .i64 1002000, .int .i64 2000000] 42)).heap.size (wr.alloc (.cells #[.int .i64 1002000, .int .i64 2000000] 42)) w') => word_any ⟨#[60]⟩ 2000000 (by omega) (by omega) (by decide) w' (hE.below (Nat.le_refl _) (hB.trans (hw.mono hB.size))))
      rw [w1_eq] at H1
      rw [w2_eq] at H2
      clear h3
      obtain ⟨so, co, rfl⟩ := ho.isl
      go_wp2_with fail
      have hadd1 : ∀ w : World, (Op.stringOp .add ⟨#[62, 61, 49, 46, 50, 46, 48]⟩ ⟨#[32]⟩).run Tryz.prog w = .ok (.string ⟨#[62, 61, 49, 46, 50, 46, 48, 32]⟩) w := fun w => run_string_add_sum _ _ _ (by decide)
      have hadd2 : ∀ w : World, (Op.stringOp .add ⟨#[62, 61, 49, 46, 50, 46, 48, 32]⟩ ⟨#[60, 50, 46, 48, 46, 48]⟩).run Tryz.prog w = .ok (.string tA1) w := fun w => run_string_add_sum _ _ _ (by decide)
      refine Mix.region (fun w' => ∃ Y, w' = Sx.ext (wr.alloc (.cells #[.int .i64 1002000, .int .i64 2000000] 42)) Y) 10 [0, 0, 0, 1, 2, 0, 0, 3, 4, 5, 9, 9] [true, false, true, false, true, false] (by kernel_rfl) (fun _ _ d _ _ h => by cases d <;> exact h) (by rfl) (by kernel_rfl) ⟨_, Sx.ext_of (Below.refl _ _).drew⟩ ?_
      simp only [Mix.selP_cons, Mix.selP_nil, Mix.sel_cons, Mix.sel_nil, Nat.reduceBEq, Nat.reduceAdd, cond_true, cond_false, List.drop_succ_cons, List.drop_zero]
      refine Mix.parts_q ?_
      repeat (go_big_quiet_step (fail))
      refine wpQuiet_nil ?_
      refine Mix.parts_e ?_
      refine Mix.eff_step (fun K hK => ?_)
      go_simp
      refine (H1.out _ (Below.refl _ _).drew).mono ?_
      rintro e w2 ⟨rfl, hB2⟩
      have hB3 : Below (wr.alloc (.cells #[.int .i64 1002000, .int .i64 2000000] 42)).heap.size (wr.alloc (.cells #[.int .i64 1002000, .int .i64 2000000] 42)) w2 := (Below.refl _ _).drew.trans hB2
      refine hK _ _ ⟨_, Sx.ext_of hB3⟩ ?_
      clear hK K
      refine Mix.eff_nil (Mix.parts_q ?_)
      repeat (go_big_quiet_step (fail))
      refine wpQuiet_nil ?_
      refine Mix.parts_e ?_
      refine Mix.eff_step (fun K hK => ?_)
      go_simp
      refine (H2.out _ hB3).mono ?_
      rintro e w4 ⟨rfl, hB4⟩
      have hB5 : Below (wr.alloc (.cells #[.int .i64 1002000, .int .i64 2000000] 42)).heap.size (wr.alloc (.cells #[.int .i64 1002000, .int .i64 2000000] 42)) w4 := hB3.trans (hB4.mono hB3.size)
      refine hK _ _ ⟨_, Sx.ext_of hB5⟩ ?_
      clear hK K
      refine Mix.eff_nil (Mix.parts_q ?_)
      repeat (go_big_quiet_step (fail))
      refine wpQuiet_nil ?_
      refine Mix.parts_e ?_
      refine Mix.eff_step (fun K hK => ?_)
      go_simp
      refine hK _ _ ⟨_, Sx.ext_of (hB5.alloc hB5.size _)⟩ ?_
      clear hK K e0 e1
      refine Mix.eff_nil (Mix.parts_n ?_)
      have HO5 := Lib.hid (HO.out.below hB5)
      have hB6 := hB.trans (hB5.mono hB.size)
      go_wp2_with (first
        | (at_builtin; refine SO.push (l := []) (B := W.heap.size) ?hh tA1 ?hl ?hk rfl _ _ rfl rfl rfl ?he ?_; (case hh => exact HO5.out); (case hl => exact Nat.zero_le _); (case hk => exact hB6.size); (case he => first | rfl | simp); intro v9 w9 hO9 hB9))
      have HO9 := Lib.hid hO9
      have hB8 := hB9 _ hB6
      clear hO9 hB9
      go_wp2_with fail
      go_roundw
      case rel => exact ⟨1, by omega, rfl, HO9.out, hB8⟩
      case measure => simp [intOf]
    · obtain ⟨b, o, rfl, ha, h3⟩ := HF.out 1 _ rfl
      obtain ⟨c0, c1⟩ := h3.below ha hb
      simp only [Nat.one_mul] at c0 c1
      have hB := hb.alloc hb.size (.cells #[.int .i64 3000000, .int .i64 3000001] 42)
      have HO := Lib.hid (ho.below ((Below.refl _ _).alloc (Nat.le_refl _) (.cells #[.int .i64 3000000, .int .i64 3000001] 42)))
      have h1 := word_any ⟨#[61]⟩ 3000000 (by omega) (by omega) (by decide) _ (hE.below (Nat.le_refl _) hB)
      rw [w3_eq] at h1
      clear h3
      obtain ⟨so, co, rfl⟩ := ho.isl
      go_wp2_with (first
        | (go_at_call 41; refine h1.mono ?_; rintro e w4 ⟨rfl, hB4⟩; have hB6 := hB.trans (hB4.mono hB.size); have HO5 := Lib.hid (HO.out.below hB4))
        | (at_builtin; refine SO.push (l := [tA1]) (B := W.heap.size) ?hh tA2 ?hl ?hk rfl _ _ rfl rfl rfl ?he ?_; (case hh => exact HO5.out); (case hl => simp); (case hk => exact hB6.size); (case he => first | rfl | simp); intro v9 w9 hO9 hB9))
      have HO9 := Lib.hid hO9
      have hB8 := hB9 _ hB6
      clear hO9 hB9
      go_wp2_with fail
      go_roundw
      case rel => exact ⟨2, by omega, rfl, HO9.out, hB8⟩
      case measure => simp [intOf]
    · have ho2 : SO wr W.heap.size _ [tA1, tA2] := ho
      obtain ⟨so, co, rfl⟩ := ho.isl
      obtain ⟨g, rfl, hg, -, hc, hcell⟩ := ho2.at (by simp)
      have hj := Tryz.strings_Join g 0 co [tA1, tA2] ⟨#[32, 124, 32]⟩ wr hcell hg (by simp) hc (by decide +kernel)
      rw [j_eq] at hj
      clear ho ho2 hcell
      go_wp2_with (go_at_call 42; refine hj.mono ?_; rintro e w5 ⟨rfl, hB5⟩)
      go_ret
      exact ⟨rfl, hb.trans (hB5.mono hb.size)⟩
end Sg
end Go.Proofs.YtlmmhhkhoaoheaaGreatDoor
