/-
  eval's helpers: unless, text, name; the reference's word.
-/
import Derived.Test.YtflhmoelenmomaaGreatDoorMEvY
import Derived.Test.YtflhmoelenmomaaGreatDoorMNmP
import Derived.WalkSmall
namespace Go.Proofs.YtflhmoelenmomaaGreatDoor
open Go.RowKit Go.Lib
namespace Ev
open Rc

/-- what Recipe gives up with -/
abbrev stopV (e : Int) : List PanicEntry := [{ v := .iface 68 (.agg #[.int .i64 e]), recovered := false }]
def textP (x : E) : Except Int ByteArray := if (evalP x).2.2 = 0 then .ok (evalP x).1 else .error (evalP x).2.2
def nameP (x : E) : Except Int ByteArray := match textP x with
  | .error e => .error e
  | .ok s => if Nm.nameL s.data.toList = true then .ok s else .error 51
set_option maxHeartbeats 400000 in
theorem unless_tt (e : Int) (w : World) : Calls Tryz.prog 26 #[.bool true, .int .i64 e] w fun r w' => r = .returned (.tuple #[]) ∧ w' = w := by
  go_enter Tryz.func26, Tryz.ntmps26
  go_wp2
  go_end0
  exact ⟨rfl, rfl⟩
set_option maxHeartbeats 400000 in
theorem unless_ff (e : Int) (w : World) : Calls Tryz.prog 26 #[.bool false, .int .i64 e] w fun r w' => r = .panicked (stopV e) ∧ w' = w := by
  go_enter Tryz.func26, Tryz.ntmps26
  go_wp2
  exact ⟨rfl, rfl, rfl⟩
/-- how text and name end -/
def endT : Except Int ByteArray → Ending
  | .ok s => .returned (.string s)
  | .error k => .panicked (stopV k)
theorem textP_ok {x : E} {s : ByteArray} {n : Nat} (h : evalP x = (s, n, 0)) : textP x = .ok s := by
  unfold textP
  rw [h]
  rfl
theorem textP_bad {x : E} {s : ByteArray} {n : Nat} {k : Int} (h : evalP x = (s, n, k)) (hk : k ≠ 0) : textP x = .error k := by
  unfold textP
  rw [h]
  exact if_neg hk
set_option maxHeartbeats 1000000 in
set_option maxRecDepth 100000 in
theorem text_any {x : E} (hx : Sml x) (hw : sizeW x ≤ 20000) (W : World) (S : Nat → Prop) (v : Value) (hS : ∀ b, S b → b < W.heap.size) (hr : RepX W S x v) :
    Calls Tryz.prog 29 #[v] W fun e W' => e = endT (textP x) ∧ Below W.heap.size W W' := by
  obtain ⟨kd, s, sl, n, cap, rfl⟩ := hr.vals
  have hA := (Below.refl W.heap.size W).alloc (Nat.le_refl _) (.cells #[.int .i64 kd, .string s, .slice sl n cap] 24)
  obtain ⟨c0, c1, c2, f0, f1, f2⟩ := obj3 (heap_alloc_new W (.cells #[.int .i64 kd, .string s, .slice sl n cap] 24))
  have hg := eval_any hx hw (W.alloc (.cells #[.int .i64 kd, .string s, .slice sl n cap] 24)) S _ (fun b hb => Nat.lt_of_lt_of_le (hS b hb) hA.size) (hr.move fun b hb => ⟨hb, hA.block b (hS b hb)⟩)
  unfold evalV at hg
  have HA := Lib.hid hA
  have ht1 := @textP_ok x
  have ht2 := @textP_bad x
  generalize evalP x = p at *
  obtain ⟨t, j, k⟩ := p
  clear hA hS hr
  by_cases hk : k = 0
  · subst hk
    have HT := Lib.hid (ht1 rfl)
    clear ht1 ht2
    go_enter Tryz.func29, Tryz.ntmps29
    go_wp2_with (first
      | (go_at_call 12; with_reducible refine hg.mono ?_; rintro e W1 ⟨rfl, hB1⟩; have hB2 := HA.out.trans (hB1.mono HA.out.size); clear hg)
      | (go_at_call 26; with_reducible refine (unless_tt _ _).mono ?_; rintro e W2 ⟨rfl, rfl⟩))
    go_ret
    rw [HT.out]
    exact ⟨rfl, hB2⟩
  · have HT := Lib.hid (ht2 rfl hk)
    have i1 : (k == 0) = false := beq_eq_false_iff_ne.2 hk
    clear ht1 ht2 hk
    go_enter Tryz.func29, Tryz.ntmps29
    go_wp2_with (first
      | (go_at_call 12; with_reducible refine hg.mono ?_; rintro e W1 ⟨rfl, hB1⟩; have hB2 := HA.out.trans (hB1.mono HA.out.size); clear hg)
      | (go_at_call 26; with_reducible refine (unless_ff _ _).mono ?_; rintro e W2 ⟨rfl, rfl⟩))
    rw [HT.out]
    exact ⟨rfl, rfl, hB2⟩
end Ev
end Go.Proofs.YtflhmoelenmomaaGreatDoor

/-
  eval's name; the reference's word.
-/
namespace Go.Proofs.YtflhmoelenmomaaGreatDoor
open Go.RowKit Go.Lib
namespace Ev
open Rc

set_option maxHeartbeats 1000000 in
set_option maxRecDepth 100000 in
theorem name_any {x : E} (hx : Sml x) (hw : sizeW x ≤ 20000) (W : World) (S : Nat → Prop) (v : Value) (hS : ∀ b, S b → b < W.heap.size) (hr : RepX W S x v) :
    Calls Tryz.prog 27 #[v] W fun e W' => e = endT (nameP x) ∧ Below W.heap.size W W' := by
  obtain ⟨kd, s, sl, n, cap, rfl⟩ := hr.vals
  have hA := (Below.refl W.heap.size W).alloc (Nat.le_refl _) (.cells #[.int .i64 kd, .string s, .slice sl n cap] 24)
  obtain ⟨c0, c1, c2, f0, f1, f2⟩ := obj3 (heap_alloc_new W (.cells #[.int .i64 kd, .string s, .slice sl n cap] 24))
  have hg := text_any hx hw (W.alloc (.cells #[.int .i64 kd, .string s, .slice sl n cap] 24)) S _ (fun b hb => Nat.lt_of_lt_of_le (hS b hb) hA.size) (hr.move fun b hb => ⟨hb, hA.block b (hS b hb)⟩)
  have HA := Lib.hid hA
  have hP : nameP x = match textP x with | .error e => .error e | .ok s => if Nm.nameL s.data.toList = true then .ok s else .error 51 := rfl
  generalize textP x = q at *
  clear hA hS hr
  cases q with
  | error k =>
    have HT := Lib.hid (show nameP x = .error k from hP)
    simp only [endT] at hg
    clear hP
    go_enter Tryz.func27, Tryz.ntmps27
    go_wp2_with (first
      | (go_at_call 29; with_reducible refine hg.mono ?_; rintro e W1 ⟨rfl, hB1⟩; have hB2 := HA.out.trans (hB1.mono HA.out.size); clear hg))
    rw [HT.out]
    exact ⟨rfl, rfl, hB2⟩
  | ok t =>
    simp only [endT] at hg
    have hn := fun w => Nm.name_any t w
    cases hb : Nm.nameL t.data.toList with
    | true =>
      have HT := Lib.hid (show nameP x = .ok t by rw [hP]; exact if_pos hb)
      simp only [hb] at hn
      clear hP hb
      go_enter Tryz.func27, Tryz.ntmps27
      go_wp2_with (first
        | (go_at_call 29; with_reducible refine hg.mono ?_; rintro e W1 ⟨rfl, hB1⟩; have hB2 := HA.out.trans (hB1.mono HA.out.size); clear hg)
        | (go_at_call 43; with_reducible refine (hn _).mono ?_; rintro e W2 ⟨rfl, hB3⟩; have hB4 := hB2.trans (hB3.mono hB2.size))
        | (go_at_call 26; with_reducible refine (unless_tt _ _).mono ?_; rintro e W3 ⟨rfl, rfl⟩))
      go_ret
      rw [HT.out]
      exact ⟨rfl, hB4⟩
    | false =>
      have HT := Lib.hid (show nameP x = .error 51 by rw [hP]; exact if_neg (by rw [hb]; decide))
      simp only [hb] at hn
      clear hP hb
      go_enter Tryz.func27, Tryz.ntmps27
      go_wp2_with (first
        | (go_at_call 29; with_reducible refine hg.mono ?_; rintro e W1 ⟨rfl, hB1⟩; have hB2 := HA.out.trans (hB1.mono HA.out.size); clear hg)
        | (go_at_call 43; with_reducible refine (hn _).mono ?_; rintro e W2 ⟨rfl, hB3⟩; have hB4 := hB2.trans (hB3.mono hB2.size))
        | (go_at_call 26; with_reducible refine (unless_ff _ _).mono ?_; rintro e W3 ⟨rfl, rfl⟩))
      rw [HT.out]
      exact ⟨rfl, rfl, hB4⟩
theorem word_results {tmps : Array Value} {X : World} {x : ByteArray} {e : Int} (t2 : tmps[2]? = some (.string x)) (t3 : tmps[3]? = some (.int .i64 e)) :
    (results Tryz.f32 tmps).run Tryz.prog X = .ok (.tuple #[.string x, .int .i64 e]) X := by
  simp [results, Tryz.results32, go_sem, t2, t3]
/-- what word answers -/
def wordV : Except Int ByteArray → Value
  | .ok s => .tuple #[.string s, .int .i64 0]
  | .error k => .tuple #[.string ⟨#[]⟩, .int .i64 k]
set_option maxHeartbeats 1000000 in
set_option maxRecDepth 100000 in
theorem word_any {x : E} (hx : Sml x) (hw : sizeW x ≤ 20000) (W : World) (S : Nat → Prop) (v : Value) (hS : ∀ b, S b → b < W.heap.size) (hr : RepX W S x v) :
    Calls Tryz.prog 32 #[v] W fun e W' => e = .returned (wordV (nameP x)) ∧ Below W.heap.size W W' := by
  obtain ⟨kd, s, sl, n, cap, rfl⟩ := hr.vals
  have hA := (Below.refl W.heap.size W).alloc (Nat.le_refl _) (.cells #[.int .i64 kd, .string s, .slice sl n cap] 24)
  obtain ⟨c0, c1, c2, f0, f1, f2⟩ := obj3 (heap_alloc_new W (.cells #[.int .i64 kd, .string s, .slice sl n cap] 24))
  have hg := reval_any hx hw (W.alloc (.cells #[.int .i64 kd, .string s, .slice sl n cap] 24)) S _ (fun b hb => Nat.lt_of_lt_of_le (hS b hb) hA.size) (hr.move fun b hb => ⟨hb, hA.block b (hS b hb)⟩)
  unfold evalV at hg
  have HA := Lib.hid hA
  have hbd := (eval_bounds x).2
  have hP : nameP x = match (if (evalP x).2.2 = 0 then Except.ok (evalP x).1 else Except.error (evalP x).2.2) with | .error e => .error e | .ok s => if Nm.nameL s.data.toList = true then .ok s else .error 51 := rfl
  generalize evalP x = p at *
  obtain ⟨t, j, k⟩ := p
  clear hA hS hr
  by_cases hk : k = 0
  · subst hk
    have hn := fun w => Nm.namer_any t w (by simp only at hbd; omega)
    cases hb : Nm.nameL t.data.toList with
    | true =>
      have HT := Lib.hid (show nameP x = .ok t by rw [hP]; simp [hb])
      simp only [hb] at hn
      clear hP hb hbd
      go_enter Tryz.func32, Tryz.ntmps32
      go_wp2_with (first
        | (go_at_call 13; with_reducible refine hg.mono ?_; rintro e W1 ⟨rfl, hB1⟩; have hB2 := HA.out.trans (hB1.mono HA.out.size); clear hg)
        | (go_at_call 54; with_reducible refine (hn _).mono ?_; rintro e W2 ⟨rfl, rfl⟩))
      refine bodyPost_ret (word_results rfl rfl) rfl ?_
      rw [HT.out]
      exact ⟨rfl, hB2⟩
    | false =>
      have HT := Lib.hid (show nameP x = .error 51 by rw [hP]; simp [hb])
      simp only [hb] at hn
      clear hP hb hbd
      go_enter Tryz.func32, Tryz.ntmps32
      go_wp2_with (first
        | (go_at_call 13; with_reducible refine hg.mono ?_; rintro e W1 ⟨rfl, hB1⟩; have hB2 := HA.out.trans (hB1.mono HA.out.size); clear hg)
        | (go_at_call 54; with_reducible refine (hn _).mono ?_; rintro e W2 ⟨rfl, rfl⟩))
      refine bodyPost_ret (word_results rfl rfl) rfl ?_
      rw [HT.out]
      exact ⟨rfl, hB2⟩
  · have HT := Lib.hid (show nameP x = .error k by rw [hP]; simp [hk])
    have i1 : (k == 0) = false := beq_eq_false_iff_ne.2 hk
    clear hP hbd
    go_enter Tryz.func32, Tryz.ntmps32
    go_wp2_with (first
      | (go_at_call 13; with_reducible refine hg.mono ?_; rintro e W1 ⟨rfl, hB1⟩; have hB2 := HA.out.trans (hB1.mono HA.out.size); clear hg))
    refine bodyPost_ret (word_results rfl rfl) rfl ?_
    rw [HT.out]
    exact ⟨rfl, hB2⟩
end Ev
end Go.Proofs.YtflhmoelenmomaaGreatDoor
