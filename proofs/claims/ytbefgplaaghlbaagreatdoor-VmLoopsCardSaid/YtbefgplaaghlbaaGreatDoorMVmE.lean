/-
  The machine: what is done to values. (printed by gen_VmE.py)
-/
import Derived.Test.YtbefgplaaghlbaaGreatDoorMVmM
import Derived.Test.YtbefgplaaghlbaaGreatDoorTpE
namespace Go.Proofs.YtbefgplaaghlbaaGreatDoor
open Go.RowKit Go.Shelf Go.Lib
namespace Vm
open Tr

theorem need_ok {st : List V} {k : Nat} (h : ¬ st.length < k) : need st k = .ok (st.take (st.length - k), st.drop (st.length - k)) := by unfold need; rw [if_neg h]
theorem need_no {st : List V} {k : Nat} (h : st.length < k) : need st k = .error 40 := by unfold need; rw [if_pos h]
theorem split1 {st : List V} (h : ¬ st.length < 1) : ∃ rest a, st = rest ++ [a] := by
  rcases List.eq_nil_or_concat st with rfl | ⟨r, a, rfl⟩
  · simp at h
  · exact ⟨r, a, by simp⟩
theorem split2 {st : List V} (h : ¬ st.length < 2) : ∃ rest a c, st = rest ++ [a, c] := by
  obtain ⟨r, c, rfl⟩ := split1 (st := st) (by omega)
  obtain ⟨r', a, rfl⟩ := split1 (st := r) (by simp at h; omega)
  exact ⟨r', a, c, by simp⟩
theorem need_one {rest : List V} {a : V} : need (rest ++ [a]) 1 = .ok (rest, [a]) := by
  unfold need
  simp
theorem need_two {rest : List V} {a c : V} : need (rest ++ [a, c]) 2 = .ok (rest, [a, c]) := by
  unfold need
  simp
/-- what kinds answers, of any stack -/
def KO (w : World) (b : Nat) (m : Mc) (S : Nat → Prop) : Except Int (List V × List V) → Ending → World → Prop
  | .ok q, e, w' => ∃ g cap S' x', e = .returned (.slice (some ⟨g, 0, none⟩) q.2.length cap) ∧ MR w' b { m with stack := q.1 } S' x' ∧ Fr w w' S S' ∧ w.heap.size ≤ g ∧ ¬ S' g ∧ VC w' g q.2
  | .error c, e, w' => e = .panicked (stopV c) ∧ ∃ x', MR w' b m S x' ∧ Fr w w' S S
theorem kinds_out {w : World} {b : Nat} {m : Mc} {S : Nat → Prop} {x : MV} (h : MR w b m S x) {sg : List Bool} {σ : ByteArray} (hσ : σ.data.toList = sgB sg) (h0 : 0 < sg.length) (hL : m.stack.length ≤ 1000) :
    Calls Tryz.prog 87 #[.pointer (some ⟨b, 0, none⟩), .string σ] w (KO w b m S (kinds m.stack sg)) := by
  by_cases hl : m.stack.length < sg.length
  · refine (kinds_few h hσ hl).mono ?_
    rintro e w' ⟨rfl, rfl⟩
    have : kinds m.stack sg = .error 40 := by unfold kinds; rw [if_pos hl]
    rw [this]
    exact ⟨rfl, x, h, Fr.refl _ _⟩
  · have hst := (List.take_append_drop (m.stack.length - sg.length) m.stack).symm
    refine (kinds_any h hst hσ (by rw [List.length_drop]; omega) h0 hL).mono ?_
    intro e w' hk
    unfold KindsOut at hk
    by_cases he : ((m.stack.drop (m.stack.length - sg.length)).map V.isT) = sg
    · rw [if_pos he] at hk
      have : kinds m.stack sg = .ok (m.stack.take (m.stack.length - sg.length), m.stack.drop (m.stack.length - sg.length)) := by unfold kinds; rw [if_neg hl, if_pos he]
      rw [this]
      exact hk
    · rw [if_neg he] at hk
      have : kinds m.stack sg = .error 41 := by unfold kinds; rw [if_neg hl, if_neg he]
      rw [this]
      exact ⟨hk.1, x, hk.2⟩
/-- how many values kinds answers, and of which sorts -/
theorem kinds_shape {st : List V} {sg : List Bool} {q : List V × List V} (h : kinds st sg = .ok q) : q.2.map V.isT = sg ∧ st = q.1 ++ q.2 := by
  unfold kinds at h
  split at h
  · cases h
  · split at h
    · rename_i h1
      cases h
      exact ⟨h1, (List.take_append_drop _ _).symm⟩
    · cases h
theorem shape1 {l : List V} {d : Bool} (h : l.map V.isT = [d]) : ∃ a, l = [a] ∧ a.isT = d := by
  match l, h with
  | [a], h => exact ⟨a, rfl, by simpa using h⟩
theorem shape2 {l : List V} {d e : Bool} (h : l.map V.isT = [d, e]) : ∃ a c, l = [a, c] ∧ a.isT = d ∧ c.isT = e := by
  match l, h with
  | [a, c], h => exact ⟨a, c, rfl, by simpa using h⟩
theorem shape3 {l : List V} {d e f : Bool} (h : l.map V.isT = [d, e, f]) : ∃ a c g, l = [a, c, g] ∧ a.isT = d ∧ c.isT = e ∧ g.isT = f := by
  match l, h with
  | [a, c, g], h => exact ⟨a, c, g, rfl, by simpa using h⟩
theorem VC.c0 {w : World} {g : Nat} {l : List V} {a : V} (h : VC w g l) (ha : l[0]? = some a) : w.cell? ⟨g, 0, none⟩ = some (.bool a.isT) ∧ w.cell? ⟨g, 1, none⟩ = some (.int .i64 a.n) ∧ w.cell? ⟨g, 2, none⟩ = some (.string a.s) := by simpa using h.2 0 a ha
theorem VC.c1 {w : World} {g : Nat} {l : List V} {a : V} (h : VC w g l) (ha : l[1]? = some a) : w.cell? ⟨g, 3, none⟩ = some (.bool a.isT) ∧ w.cell? ⟨g, 4, none⟩ = some (.int .i64 a.n) ∧ w.cell? ⟨g, 5, none⟩ = some (.string a.s) := by simpa using h.2 1 a ha
theorem VC.c2 {w : World} {g : Nat} {l : List V} {a : V} (h : VC w g l) (ha : l[2]? = some a) : w.cell? ⟨g, 6, none⟩ = some (.bool a.isT) ∧ w.cell? ⟨g, 7, none⟩ = some (.int .i64 a.n) ∧ w.cell? ⟨g, 8, none⟩ = some (.string a.s) := by simpa using h.2 2 a ha
abbrev insC (x : Cd.I) : Array Value := #[.int .i64 x.op, .int .i64 x.n, .string x.s]
/-- the instruction in its block -/
theorem ins_start (w : World) (op n : Int) (s : ByteArray) : Below w.heap.size w (w.alloc (.cells #[.int .i64 op, .int .i64 n, .string s] 38)) ∧ (w.alloc (.cells #[.int .i64 op, .int .i64 n, .string s] 38)).heap[w.heap.size]? = some (.cells #[.int .i64 op, .int .i64 n, .string s] 38 (0, 0)) ∧ w.heap.size < (w.alloc (.cells #[.int .i64 op, .int .i64 n, .string s] 38)).heap.size :=
  ⟨(Below.refl _ _).alloc (Nat.le_refl _) _, heap_alloc_new _ _, by simp⟩
set_option maxHeartbeats 4000000 in
set_option maxRecDepth 100000 in
theorem values_push {w : World} {b : Nat} {m : Mc} {S : Nat → Prop} {x : MV} (h : MR w b m S x) (n : Int) (s : ByteArray) {r : Except Int Mc} (hr : r = m.st (push m.stack (.num n))) :
    Calls Tryz.prog 72 #[.pointer (some ⟨b, 0, none⟩), .agg #[.int .i64 2, .int .i64 n, .string s]] w (Out w b m S r) := by
  have HR := Lib.hid hr
  obtain ⟨hA, hn, hlt⟩ := ins_start w 2 n s
  have HA := Lib.hid hA
  have HN := Lib.hid hn
  have HL := Lib.hid hlt
  have H1 := Lib.hid (h.keep hA)
  have H0 := Lib.hid h
  clear hA hn hlt h hr
  go_enter Tryz.func72, Tryz.ntmps72
  go_wp2_with (go_at_call 91; refine (num_any _ _).mono ?_; rintro e w1 ⟨he, hb1⟩; subst he)
  have hF := Fr.of (S := S) (HA.out.trans (hb1.mono HA.out.size))
  refine (push_out (H1.out.keep hb1) (.num n)).mono ?_
  intro e w2 ho
  replace ho := ho.from hF (m := m) rfl
  rw [← HR.out] at ho
  clear hF hb1
  cases r with
  | error c =>
    obtain ⟨rfl, hx⟩ := ho
    exact ⟨rfl, rfl, hx⟩
  | ok m' =>
    obtain ⟨rfl, hx⟩ := ho
    have HX := Lib.hid hx
    clear hx
    go_wp2_with fail
    go_end0
    exact ⟨rfl, HX.out⟩
set_option maxHeartbeats 4000000 in
set_option maxRecDepth 100000 in
theorem values_pop {w : World} {b : Nat} {m : Mc} {S : Nat → Prop} {x : MV} (h : MR w b m S x) (n : Int) (s : ByteArray) (hL : m.stack.length ≤ 1000) {r : Except Int Mc} (hr : r = m.st ((need m.stack 1).bind fun q => .ok q.1)) :
    Calls Tryz.prog 72 #[.pointer (some ⟨b, 0, none⟩), .agg #[.int .i64 4, .int .i64 n, .string s]] w (Out w b m S r) := by
  have HR := Lib.hid hr
  obtain ⟨hA, hn, hlt⟩ := ins_start w 4 n s
  have HA := Lib.hid hA
  have HN := Lib.hid hn
  have HL := Lib.hid hlt
  have H1 := Lib.hid (h.keep hA)
  have H0 := Lib.hid h
  clear hA hn hlt h hr
  go_enter Tryz.func72, Tryz.ntmps72
  by_cases hk : m.stack.length < 1
  · have hnd := need_any H1.out 1
    rw [if_pos hk] at hnd
    have HQ := Lib.hid (show r = .error 40 by rw [HR.out, need_no hk]; rfl)
    clear hk
    go_wp2_with (go_at_call 95; refine hnd.mono ?_; clear hnd; rintro e w1 ⟨he, hw⟩; subst he; subst hw)
    exact ⟨rfl, Out.bad HQ.out H1.out (Fr.of HA.out) rfl⟩
  · have hnd := need_any H1.out 1
    rw [if_neg hk] at hnd
    obtain ⟨rest, a, hst⟩ := split1 hk
    have HQ := Lib.hid (show r = .ok { m with stack := rest } by rw [HR.out, hst, need_one]; rfl)
    have hpop := pop_any H1.out hst (by rw [hst, List.length_append] at hL; omega)
    clear hk hst
    go_wp2_with (first
      | (go_at_call 95; refine hnd.mono ?_; clear hnd; rintro e w1 ⟨he, hw⟩; subst he; subst hw)
      | (go_at_call 96; refine hpop.mono ?_; clear hpop; rintro e w2 ⟨he, S', x', h2, hF2⟩; subst he; have HM := Lib.hid (And.intro h2 ((Fr.of HA.out).trans hF2)); clear h2 hF2))
    go_end0
    exact Out.ok HQ.out HM.out.1 HM.out.2
set_option maxHeartbeats 4000000 in
set_option maxRecDepth 100000 in
theorem values_dup {w : World} {b : Nat} {m : Mc} {S : Nat → Prop} {x : MV} (h : MR w b m S x) (n : Int) (s : ByteArray) (hL : m.stack.length ≤ 1000) {r : Except Int Mc} (hr : r = m.st ((need m.stack 1).bind fun q => push m.stack (q.2.getD 0 (.num 0)))) :
    Calls Tryz.prog 72 #[.pointer (some ⟨b, 0, none⟩), .agg #[.int .i64 5, .int .i64 n, .string s]] w (Out w b m S r) := by
  have HR := Lib.hid hr
  obtain ⟨hA, hn, hlt⟩ := ins_start w 5 n s
  have HA := Lib.hid hA
  have HN := Lib.hid hn
  have HL := Lib.hid hlt
  have H1 := Lib.hid (h.keep hA)
  have H0 := Lib.hid h
  clear hA hn hlt h hr
  go_enter Tryz.func72, Tryz.ntmps72
  by_cases hk : m.stack.length < 1
  · have hnd := need_any H1.out 1
    rw [if_pos hk] at hnd
    have HQ := Lib.hid (show r = .error 40 by rw [HR.out, need_no hk]; rfl)
    clear hk
    go_wp2_with (go_at_call 95; refine hnd.mono ?_; clear hnd; rintro e w1 ⟨he, hw⟩; subst he; subst hw)
    exact ⟨rfl, Out.bad HQ.out H1.out (Fr.of HA.out) rfl⟩
  · have hnd := need_any H1.out 1
    rw [if_neg hk] at hnd
    obtain ⟨rest, a, hst⟩ := split1 hk
    have HQ := Lib.hid (show r = m.st (push m.stack a) by rw [HR.out, hst, need_one]; rfl)
    obtain ⟨g, cap, hsv, hSg, hcap, htop, -⟩ := H1.out.top hst (by simp)
    change x.sv = .slice (some ⟨g, 0, none⟩) (rest.length + 1) cap at hsv
    have c0 := htop 0 _ rfl
    rw [Nat.add_zero] at c0
    have c1 := htop 1 _ rfl
    have c2 := htop 2 _ rfl
    have c3 := H1.out.cells5.2.2.2.1
    rw [hsv] at c3
    have hrl : rest.length ≤ 1000 := by rw [hst, List.length_append] at hL; omega
    have hwr : IntKind.i64.wrap (rest.length : Int) = (rest.length : Int) := IntWalk.i64_in _ (by omega)
    clear hk hst hsv hSg hcap htop hL
    go_wp2_with (first
      | (go_at_call 95; refine hnd.mono ?_; clear hnd; rintro e w1 ⟨he, hw⟩; subst he; subst hw))
    generalize w.alloc (.cells #[.int .i64 5, .int .i64 n, .string s] 38) = W at *
    have hD := (Below.refl W.heap.size W).drew
    have e0 := Sx.ext_cell c0
    have e1 := Sx.ext_cell c1
    have e2 := Sx.ext_cell c2
    have e3 := Sx.ext_cell c3
    refine Mix.region (fun w' => ∃ Y, w' = Sx.ext W Y) 13 [0, 0, 0, 0, 0, 0, 0, 0, 0, 0, 0, 0, 0, 9] [true] (by kernel_rfl) (fun _ _ d _ _ h => by cases d <;> exact h) (by rfl) (by kernel_rfl) ⟨W.drew, Sx.ext_of hD⟩ ?_
    simp only [Mix.selP_cons, Mix.selP_nil, Mix.sel_cons, Mix.sel_nil, Nat.reduceBEq, cond_true, cond_false, List.drop_succ_cons, List.drop_zero]
    refine Mix.parts_q ?_
    repeat (go_big_quiet_step (fail))
    refine wpQuiet_nil ?_
    refine Mix.parts_n ?_
    clear e0 e1 e2 e3
    have hB := hD
    have hp := push_out (H1.out.keep hB) a
    have HF := Lib.hid (Fr.of (S := S) (HA.out.trans (hB.mono HA.out.size)))
    clear hB hD c0 c1 c2 c3
    go_wp2_with fail
    refine hp.mono ?_
    intro e w2 ho
    replace ho := ho.from HF.out (m := m) rfl
    rw [← HQ.out] at ho
    clear hp
    cases r with
    | error c =>
      obtain ⟨rfl, hx⟩ := ho
      exact ⟨rfl, rfl, hx⟩
    | ok m' =>
      obtain ⟨rfl, hx⟩ := ho
      have HX := Lib.hid hx
      clear hx
      go_wp2_with fail
      go_end0
      exact ⟨rfl, HX.out⟩

set_option maxHeartbeats 4000000 in
set_option maxRecDepth 100000 in
theorem values_load {w : World} {b : Nat} {m : Mc} {S : Nat → Prop} {x : MV} (h : MR w b m S x) (s : ByteArray) {i : Nat} {v : V} (hi : m.cells[i]? = some v) {r : Except Int Mc} (hr : r = m.st (push m.stack v)) :
    Calls Tryz.prog 72 #[.pointer (some ⟨b, 0, none⟩), .agg #[.int .i64 7, .int .i64 (i : Int), .string s]] w (Out w b m S r) := by
  have HR := Lib.hid hr
  obtain ⟨hA, hn, hlt⟩ := ins_start w 7 i s
  have HA := Lib.hid hA
  have HN := Lib.hid hn
  have HL := Lib.hid hlt
  have H1 := Lib.hid (h.keep hA)
  have H0 := Lib.hid h
  clear hA hn hlt h hr
  obtain ⟨c0, c1, c2⟩ := H1.out.loc hi
  have k1 := (val_cells HN.out).2.1
  have hi16 : i < 16 := by have := (List.getElem?_eq_some_iff.1 hi).1; have := H0.out.c16; omega
  clear hi
  go_enter Tryz.func72, Tryz.ntmps72
  have hi17 : (i : Int) < 16 := by omega
  go_wp2_with fail
  generalize w.alloc (.cells #[.int .i64 7, .int .i64 (i : Int), .string s] 38) = W at *
  go_still_tail 8, (by kernel_rfl)
  change wpList _ _ _ _ _ (World.drewN W 1)
  have hB := Sx.below_drewN (Below.refl W.heap.size W) 1
  have hp := push_out (H1.out.keep hB) v
  have HF := Lib.hid (Fr.of (S := S) (HA.out.trans (hB.mono HA.out.size)))
  clear hB c0 c1 c2 k1
  go_wp2_with fail
  refine hp.mono ?_
  intro e w2 ho
  replace ho := ho.from HF.out (m := m) rfl
  rw [← HR.out] at ho
  clear hp
  cases r with
  | error c =>
    obtain ⟨rfl, hx⟩ := ho
    exact ⟨rfl, rfl, hx⟩
  | ok m' =>
    obtain ⟨rfl, hx⟩ := ho
    have HX := Lib.hid hx
    clear hx
    go_wp2_with fail
    go_end0
    exact ⟨rfl, HX.out⟩
set_option maxHeartbeats 4000000 in
set_option maxRecDepth 100000 in
theorem values_add {w : World} {b : Nat} {m : Mc} {S : Nat → Prop} {x : MV} (h : MR w b m S x) (n : Int) (s : ByteArray) (hL : m.stack.length ≤ 1000) {r : Except Int Mc} (hr : r = m.st ((kinds m.stack [false, false]).bind fun q => (reckon 9 (q.2.getD 0 (.num 0)).n (q.2.getD 1 (.num 0)).n).bind fun n => push q.1 (.num n))) :
    Calls Tryz.prog 72 #[.pointer (some ⟨b, 0, none⟩), .agg #[.int .i64 9, .int .i64 n, .string s]] w (Out w b m S r) := by
  have HR := Lib.hid hr
  obtain ⟨hA, hn, hlt⟩ := ins_start w 9 n s
  have HA := Lib.hid hA
  have HN := Lib.hid hn
  have HL := Lib.hid hlt
  have H1 := Lib.hid (h.keep hA)
  have H0 := Lib.hid h
  clear hA hn hlt h hr
  go_enter Tryz.func72, Tryz.ntmps72
  have hk := kinds_out H1.out (sg := [false, false]) (σ := ⟨#[110, 110]⟩) rfl (by decide) hL
  have hsh := fun q h => @kinds_shape m.stack [false, false] q h
  generalize hkk : kinds m.stack [false, false] = kd at *
  clear hkk
  go_wp2_with fail
  refine hk.mono ?_
  clear hk
  intro e w1 hk
  cases kd with
  | error c =>
    obtain ⟨rfl, x', h2, hF⟩ := hk
    exact ⟨rfl, Out.bad HR.out h2 ((Fr.of HA.out).trans hF) rfl⟩
  | ok q =>
    obtain ⟨g, cap, S', x', rfl, h2, hF, hg, hnS, hvc⟩ := hk
    obtain ⟨a, c, hq2, -, -⟩ := shape2 (hsh q rfl).1
    obtain ⟨q1, q2⟩ := q
    obtain rfl : q2 = [a, c] := hq2
    obtain ⟨-, d1, -⟩ := hvc.c0 rfl
    obtain ⟨-, d4, -⟩ := hvc.c1 rfl
    have k0 := (val_cells ((hF.block _ HL.out (fun h => absurd (H0.out.hS _ h) (by omega))).trans HN.out)).1
    have H2 := Lib.hid h2
    have HF2 := Lib.hid ((Fr.of HA.out).trans hF)
    have hrk := fun W => reckon_add a.n c.n W
    have HQ := Lib.hid (show r = m.st ((reckon 9 a.n c.n).bind fun n => push q1 (.num n)) from HR.out)
    generalize reckon 9 a.n c.n = rk at *
    clear hsh hvc h2 hF hg hnS
    go_wp2_with fail
    have hD := (Below.refl w1.heap.size w1).drew
    have e0 := Sx.ext_cell k0
    have e1 := Sx.ext_cell d1
    have e4 := Sx.ext_cell d4
    refine Mix.region (fun w' => ∃ Y, w' = Sx.ext w1 Y) 13 [0, 0, 0, 0, 0, 0, 0, 0, 0, 0, 0, 1, 1, 9] [true, false] (by kernel_rfl) (fun _ _ d _ _ h => by cases d <;> exact h) (by rfl) (by kernel_rfl) ⟨w1.drew, Sx.ext_of hD⟩ ?_
    simp only [Mix.selP_cons, Mix.selP_nil, Mix.sel_cons, Mix.sel_nil, Nat.reduceBEq, Nat.reduceAdd, cond_true, cond_false, List.drop_succ_cons, List.drop_zero]
    refine Mix.parts_q ?_
    repeat (go_big_quiet_step (fail))
    refine wpQuiet_nil ?_
    have H3 := Lib.hid (H2.out.keep hD)
    have HF3 := Lib.hid (HF2.out.trans (Fr.of hD))
    have HD := Lib.hid hD
    clear d1 d4 k0 e0 e1 e4 hD
    refine Mix.parts_e ?_
    refine Mix.eff_step (fun K hK => ?_)
    go_simp
    refine (hrk _).mono ?_
    clear hrk
    intro e w4 hrk
    cases rk with
    | error c =>
      obtain ⟨rfl, rfl⟩ := hrk
      exact ⟨rfl, Out.bad HQ.out H3.out HF3.out rfl⟩
    | ok z =>
      obtain ⟨rfl, rfl⟩ := hrk
      refine hK _ _ ⟨_, Sx.ext_of HD.out⟩ ?_
      clear hK K
      refine Mix.eff_step (fun K hK => ?_)
      go_simp
      refine (num_any _ _).mono ?_
      rintro e w5 ⟨rfl, hb5⟩
      refine hK _ _ ⟨_, Sx.ext_of (HD.out.trans (hb5.mono HD.out.size))⟩ ?_
      clear hK K
      have HB5 := Lib.hid hb5
      clear hb5
      refine Mix.eff_nil ?_
      refine Mix.parts_n ?_
      go_wp2_with fail
      have hp := push_out (H3.out.keep HB5.out) (.num z)
      refine hp.mono ?_
      clear hp
      intro e w6 ho
      replace ho := ho.from (HF3.out.trans (Fr.of HB5.out)) (m := m) rfl
      have HQ2 := Lib.hid (show r = Mc.st { m with stack := q1 } (push q1 (.num z)) by
        rw [HQ.out]
        show m.st (push q1 (.num z)) = _
        cases push q1 (.num z) <;> rfl)
      rw [← HQ2.out] at ho
      cases r with
      | error c =>
        obtain ⟨rfl, hx⟩ := ho
        exact ⟨rfl, rfl, hx⟩
      | ok m' =>
        obtain ⟨rfl, hx⟩ := ho
        have HX := Lib.hid hx
        clear hx
        go_wp2_with fail
        go_end0
        exact ⟨rfl, HX.out⟩

set_option maxHeartbeats 4000000 in
set_option maxRecDepth 100000 in
theorem values_sub {w : World} {b : Nat} {m : Mc} {S : Nat → Prop} {x : MV} (h : MR w b m S x) (n : Int) (s : ByteArray) (hL : m.stack.length ≤ 1000) {r : Except Int Mc} (hr : r = m.st ((kinds m.stack [false, false]).bind fun q => (reckon 10 (q.2.getD 0 (.num 0)).n (q.2.getD 1 (.num 0)).n).bind fun n => push q.1 (.num n))) :
    Calls Tryz.prog 72 #[.pointer (some ⟨b, 0, none⟩), .agg #[.int .i64 10, .int .i64 n, .string s]] w (Out w b m S r) := by
  have HR := Lib.hid hr
  obtain ⟨hA, hn, hlt⟩ := ins_start w 10 n s
  have HA := Lib.hid hA
  have HN := Lib.hid hn
  have HL := Lib.hid hlt
  have H1 := Lib.hid (h.keep hA)
  have H0 := Lib.hid h
  clear hA hn hlt h hr
  go_enter Tryz.func72, Tryz.ntmps72
  have hk := kinds_out H1.out (sg := [false, false]) (σ := ⟨#[110, 110]⟩) rfl (by decide) hL
  have hsh := fun q h => @kinds_shape m.stack [false, false] q h
  generalize hkk : kinds m.stack [false, false] = kd at *
  clear hkk
  go_wp2_with fail
  refine hk.mono ?_
  clear hk
  intro e w1 hk
  cases kd with
  | error c =>
    obtain ⟨rfl, x', h2, hF⟩ := hk
    exact ⟨rfl, Out.bad HR.out h2 ((Fr.of HA.out).trans hF) rfl⟩
  | ok q =>
    obtain ⟨g, cap, S', x', rfl, h2, hF, hg, hnS, hvc⟩ := hk
    obtain ⟨a, c, hq2, -, -⟩ := shape2 (hsh q rfl).1
    obtain ⟨q1, q2⟩ := q
    obtain rfl : q2 = [a, c] := hq2
    obtain ⟨-, d1, -⟩ := hvc.c0 rfl
    obtain ⟨-, d4, -⟩ := hvc.c1 rfl
    have k0 := (val_cells ((hF.block _ HL.out (fun h => absurd (H0.out.hS _ h) (by omega))).trans HN.out)).1
    have H2 := Lib.hid h2
    have HF2 := Lib.hid ((Fr.of HA.out).trans hF)
    have hrk := fun W => reckon_sub a.n c.n W
    have HQ := Lib.hid (show r = m.st ((reckon 10 a.n c.n).bind fun n => push q1 (.num n)) from HR.out)
    generalize reckon 10 a.n c.n = rk at *
    clear hsh hvc h2 hF hg hnS
    go_wp2_with fail
    have hD := (Below.refl w1.heap.size w1).drew
    have e0 := Sx.ext_cell k0
    have e1 := Sx.ext_cell d1
    have e4 := Sx.ext_cell d4
    refine Mix.region (fun w' => ∃ Y, w' = Sx.ext w1 Y) 13 [0, 0, 0, 0, 0, 0, 0, 0, 0, 0, 0, 1, 1, 9] [true, false] (by kernel_rfl) (fun _ _ d _ _ h => by cases d <;> exact h) (by rfl) (by kernel_rfl) ⟨w1.drew, Sx.ext_of hD⟩ ?_
    simp only [Mix.selP_cons, Mix.selP_nil, Mix.sel_cons, Mix.sel_nil, Nat.reduceBEq, Nat.reduceAdd, cond_true, cond_false, List.drop_succ_cons, List.drop_zero]
    refine Mix.parts_q ?_
    repeat (go_big_quiet_step (fail))
    refine wpQuiet_nil ?_
    have H3 := Lib.hid (H2.out.keep hD)
    have HF3 := Lib.hid (HF2.out.trans (Fr.of hD))
    have HD := Lib.hid hD
    clear d1 d4 k0 e0 e1 e4 hD
    refine Mix.parts_e ?_
    refine Mix.eff_step (fun K hK => ?_)
    go_simp
    refine (hrk _).mono ?_
    clear hrk
    intro e w4 hrk
    cases rk with
    | error c =>
      obtain ⟨rfl, rfl⟩ := hrk
      exact ⟨rfl, Out.bad HQ.out H3.out HF3.out rfl⟩
    | ok z =>
      obtain ⟨rfl, rfl⟩ := hrk
      refine hK _ _ ⟨_, Sx.ext_of HD.out⟩ ?_
      clear hK K
      refine Mix.eff_step (fun K hK => ?_)
      go_simp
      refine (num_any _ _).mono ?_
      rintro e w5 ⟨rfl, hb5⟩
      refine hK _ _ ⟨_, Sx.ext_of (HD.out.trans (hb5.mono HD.out.size))⟩ ?_
      clear hK K
      have HB5 := Lib.hid hb5
      clear hb5
      refine Mix.eff_nil ?_
      refine Mix.parts_n ?_
      go_wp2_with fail
      have hp := push_out (H3.out.keep HB5.out) (.num z)
      refine hp.mono ?_
      clear hp
      intro e w6 ho
      replace ho := ho.from (HF3.out.trans (Fr.of HB5.out)) (m := m) rfl
      have HQ2 := Lib.hid (show r = Mc.st { m with stack := q1 } (push q1 (.num z)) by
        rw [HQ.out]
        show m.st (push q1 (.num z)) = _
        cases push q1 (.num z) <;> rfl)
      rw [← HQ2.out] at ho
      cases r with
      | error c =>
        obtain ⟨rfl, hx⟩ := ho
        exact ⟨rfl, rfl, hx⟩
      | ok m' =>
        obtain ⟨rfl, hx⟩ := ho
        have HX := Lib.hid hx
        clear hx
        go_wp2_with fail
        go_end0
        exact ⟨rfl, HX.out⟩

set_option maxHeartbeats 4000000 in
set_option maxRecDepth 100000 in
theorem values_mul {w : World} {b : Nat} {m : Mc} {S : Nat → Prop} {x : MV} (h : MR w b m S x) (n : Int) (s : ByteArray) (hL : m.stack.length ≤ 1000) {r : Except Int Mc} (hr : r = m.st ((kinds m.stack [false, false]).bind fun q => (reckon 11 (q.2.getD 0 (.num 0)).n (q.2.getD 1 (.num 0)).n).bind fun n => push q.1 (.num n))) :
    Calls Tryz.prog 72 #[.pointer (some ⟨b, 0, none⟩), .agg #[.int .i64 11, .int .i64 n, .string s]] w (Out w b m S r) := by
  have HR := Lib.hid hr
  obtain ⟨hA, hn, hlt⟩ := ins_start w 11 n s
  have HA := Lib.hid hA
  have HN := Lib.hid hn
  have HL := Lib.hid hlt
  have H1 := Lib.hid (h.keep hA)
  have H0 := Lib.hid h
  clear hA hn hlt h hr
  go_enter Tryz.func72, Tryz.ntmps72
  have hk := kinds_out H1.out (sg := [false, false]) (σ := ⟨#[110, 110]⟩) rfl (by decide) hL
  have hsh := fun q h => @kinds_shape m.stack [false, false] q h
  generalize hkk : kinds m.stack [false, false] = kd at *
  clear hkk
  go_wp2_with fail
  refine hk.mono ?_
  clear hk
  intro e w1 hk
  cases kd with
  | error c =>
    obtain ⟨rfl, x', h2, hF⟩ := hk
    exact ⟨rfl, Out.bad HR.out h2 ((Fr.of HA.out).trans hF) rfl⟩
  | ok q =>
    obtain ⟨g, cap, S', x', rfl, h2, hF, hg, hnS, hvc⟩ := hk
    obtain ⟨a, c, hq2, -, -⟩ := shape2 (hsh q rfl).1
    obtain ⟨q1, q2⟩ := q
    obtain rfl : q2 = [a, c] := hq2
    obtain ⟨-, d1, -⟩ := hvc.c0 rfl
    obtain ⟨-, d4, -⟩ := hvc.c1 rfl
    have k0 := (val_cells ((hF.block _ HL.out (fun h => absurd (H0.out.hS _ h) (by omega))).trans HN.out)).1
    have H2 := Lib.hid h2
    have HF2 := Lib.hid ((Fr.of HA.out).trans hF)
    have hrk := fun W => reckon_mul a.n c.n W
    have HQ := Lib.hid (show r = m.st ((reckon 11 a.n c.n).bind fun n => push q1 (.num n)) from HR.out)
    generalize reckon 11 a.n c.n = rk at *
    clear hsh hvc h2 hF hg hnS
    go_wp2_with fail
    have hD := (Below.refl w1.heap.size w1).drew
    have e0 := Sx.ext_cell k0
    have e1 := Sx.ext_cell d1
    have e4 := Sx.ext_cell d4
    refine Mix.region (fun w' => ∃ Y, w' = Sx.ext w1 Y) 13 [0, 0, 0, 0, 0, 0, 0, 0, 0, 0, 0, 1, 1, 9] [true, false] (by kernel_rfl) (fun _ _ d _ _ h => by cases d <;> exact h) (by rfl) (by kernel_rfl) ⟨w1.drew, Sx.ext_of hD⟩ ?_
    simp only [Mix.selP_cons, Mix.selP_nil, Mix.sel_cons, Mix.sel_nil, Nat.reduceBEq, Nat.reduceAdd, cond_true, cond_false, List.drop_succ_cons, List.drop_zero]
    refine Mix.parts_q ?_
    repeat (go_big_quiet_step (fail))
    refine wpQuiet_nil ?_
    have H3 := Lib.hid (H2.out.keep hD)
    have HF3 := Lib.hid (HF2.out.trans (Fr.of hD))
    have HD := Lib.hid hD
    clear d1 d4 k0 e0 e1 e4 hD
    refine Mix.parts_e ?_
    refine Mix.eff_step (fun K hK => ?_)
    go_simp
    refine (hrk _).mono ?_
    clear hrk
    intro e w4 hrk
    cases rk with
    | error c =>
      obtain ⟨rfl, rfl⟩ := hrk
      exact ⟨rfl, Out.bad HQ.out H3.out HF3.out rfl⟩
    | ok z =>
      obtain ⟨rfl, rfl⟩ := hrk
      refine hK _ _ ⟨_, Sx.ext_of HD.out⟩ ?_
      clear hK K
      refine Mix.eff_step (fun K hK => ?_)
      go_simp
      refine (num_any _ _).mono ?_
      rintro e w5 ⟨rfl, hb5⟩
      refine hK _ _ ⟨_, Sx.ext_of (HD.out.trans (hb5.mono HD.out.size))⟩ ?_
      clear hK K
      have HB5 := Lib.hid hb5
      clear hb5
      refine Mix.eff_nil ?_
      refine Mix.parts_n ?_
      go_wp2_with fail
      have hp := push_out (H3.out.keep HB5.out) (.num z)
      refine hp.mono ?_
      clear hp
      intro e w6 ho
      replace ho := ho.from (HF3.out.trans (Fr.of HB5.out)) (m := m) rfl
      have HQ2 := Lib.hid (show r = Mc.st { m with stack := q1 } (push q1 (.num z)) by
        rw [HQ.out]
        show m.st (push q1 (.num z)) = _
        cases push q1 (.num z) <;> rfl)
      rw [← HQ2.out] at ho
      cases r with
      | error c =>
        obtain ⟨rfl, hx⟩ := ho
        exact ⟨rfl, rfl, hx⟩
      | ok m' =>
        obtain ⟨rfl, hx⟩ := ho
        have HX := Lib.hid hx
        clear hx
        go_wp2_with fail
        go_end0
        exact ⟨rfl, HX.out⟩

set_option maxHeartbeats 4000000 in
set_option maxRecDepth 100000 in
theorem values_div {w : World} {b : Nat} {m : Mc} {S : Nat → Prop} {x : MV} (h : MR w b m S x) (n : Int) (s : ByteArray) (hL : m.stack.length ≤ 1000) {r : Except Int Mc} (hr : r = m.st ((kinds m.stack [false, false]).bind fun q => (reckon 12 (q.2.getD 0 (.num 0)).n (q.2.getD 1 (.num 0)).n).bind fun n => push q.1 (.num n))) :
    Calls Tryz.prog 72 #[.pointer (some ⟨b, 0, none⟩), .agg #[.int .i64 12, .int .i64 n, .string s]] w (Out w b m S r) := by
  have HR := Lib.hid hr
  obtain ⟨hA, hn, hlt⟩ := ins_start w 12 n s
  have HA := Lib.hid hA
  have HN := Lib.hid hn
  have HL := Lib.hid hlt
  have H1 := Lib.hid (h.keep hA)
  have H0 := Lib.hid h
  clear hA hn hlt h hr
  go_enter Tryz.func72, Tryz.ntmps72
  have hk := kinds_out H1.out (sg := [false, false]) (σ := ⟨#[110, 110]⟩) rfl (by decide) hL
  have hsh := fun q h => @kinds_shape m.stack [false, false] q h
  generalize hkk : kinds m.stack [false, false] = kd at *
  clear hkk
  go_wp2_with fail
  refine hk.mono ?_
  clear hk
  intro e w1 hk
  cases kd with
  | error c =>
    obtain ⟨rfl, x', h2, hF⟩ := hk
    exact ⟨rfl, Out.bad HR.out h2 ((Fr.of HA.out).trans hF) rfl⟩
  | ok q =>
    obtain ⟨g, cap, S', x', rfl, h2, hF, hg, hnS, hvc⟩ := hk
    obtain ⟨a, c, hq2, -, -⟩ := shape2 (hsh q rfl).1
    obtain ⟨q1, q2⟩ := q
    obtain rfl : q2 = [a, c] := hq2
    obtain ⟨-, d1, -⟩ := hvc.c0 rfl
    obtain ⟨-, d4, -⟩ := hvc.c1 rfl
    have k0 := (val_cells ((hF.block _ HL.out (fun h => absurd (H0.out.hS _ h) (by omega))).trans HN.out)).1
    have H2 := Lib.hid h2
    have HF2 := Lib.hid ((Fr.of HA.out).trans hF)
    have hrk := fun W => reckon_div a.n c.n W
    have HQ := Lib.hid (show r = m.st ((reckon 12 a.n c.n).bind fun n => push q1 (.num n)) from HR.out)
    generalize reckon 12 a.n c.n = rk at *
    clear hsh hvc h2 hF hg hnS
    go_wp2_with fail
    have hD := (Below.refl w1.heap.size w1).drew
    have e0 := Sx.ext_cell k0
    have e1 := Sx.ext_cell d1
    have e4 := Sx.ext_cell d4
    refine Mix.region (fun w' => ∃ Y, w' = Sx.ext w1 Y) 13 [0, 0, 0, 0, 0, 0, 0, 0, 0, 0, 0, 1, 1, 9] [true, false] (by kernel_rfl) (fun _ _ d _ _ h => by cases d <;> exact h) (by rfl) (by kernel_rfl) ⟨w1.drew, Sx.ext_of hD⟩ ?_
    simp only [Mix.selP_cons, Mix.selP_nil, Mix.sel_cons, Mix.sel_nil, Nat.reduceBEq, Nat.reduceAdd, cond_true, cond_false, List.drop_succ_cons, List.drop_zero]
    refine Mix.parts_q ?_
    repeat (go_big_quiet_step (fail))
    refine wpQuiet_nil ?_
    have H3 := Lib.hid (H2.out.keep hD)
    have HF3 := Lib.hid (HF2.out.trans (Fr.of hD))
    have HD := Lib.hid hD
    clear d1 d4 k0 e0 e1 e4 hD
    refine Mix.parts_e ?_
    refine Mix.eff_step (fun K hK => ?_)
    go_simp
    refine (hrk _).mono ?_
    clear hrk
    intro e w4 hrk
    cases rk with
    | error c =>
      obtain ⟨rfl, rfl⟩ := hrk
      exact ⟨rfl, Out.bad HQ.out H3.out HF3.out rfl⟩
    | ok z =>
      obtain ⟨rfl, rfl⟩ := hrk
      refine hK _ _ ⟨_, Sx.ext_of HD.out⟩ ?_
      clear hK K
      refine Mix.eff_step (fun K hK => ?_)
      go_simp
      refine (num_any _ _).mono ?_
      rintro e w5 ⟨rfl, hb5⟩
      refine hK _ _ ⟨_, Sx.ext_of (HD.out.trans (hb5.mono HD.out.size))⟩ ?_
      clear hK K
      have HB5 := Lib.hid hb5
      clear hb5
      refine Mix.eff_nil ?_
      refine Mix.parts_n ?_
      go_wp2_with fail
      have hp := push_out (H3.out.keep HB5.out) (.num z)
      refine hp.mono ?_
      clear hp
      intro e w6 ho
      replace ho := ho.from (HF3.out.trans (Fr.of HB5.out)) (m := m) rfl
      have HQ2 := Lib.hid (show r = Mc.st { m with stack := q1 } (push q1 (.num z)) by
        rw [HQ.out]
        show m.st (push q1 (.num z)) = _
        cases push q1 (.num z) <;> rfl)
      rw [← HQ2.out] at ho
      cases r with
      | error c =>
        obtain ⟨rfl, hx⟩ := ho
        exact ⟨rfl, rfl, hx⟩
      | ok m' =>
        obtain ⟨rfl, hx⟩ := ho
        have HX := Lib.hid hx
        clear hx
        go_wp2_with fail
        go_end0
        exact ⟨rfl, HX.out⟩

set_option maxHeartbeats 4000000 in
set_option maxRecDepth 100000 in
theorem values_mod {w : World} {b : Nat} {m : Mc} {S : Nat → Prop} {x : MV} (h : MR w b m S x) (n : Int) (s : ByteArray) (hL : m.stack.length ≤ 1000) {r : Except Int Mc} (hr : r = m.st ((kinds m.stack [false, false]).bind fun q => (reckon 13 (q.2.getD 0 (.num 0)).n (q.2.getD 1 (.num 0)).n).bind fun n => push q.1 (.num n))) :
    Calls Tryz.prog 72 #[.pointer (some ⟨b, 0, none⟩), .agg #[.int .i64 13, .int .i64 n, .string s]] w (Out w b m S r) := by
  have HR := Lib.hid hr
  obtain ⟨hA, hn, hlt⟩ := ins_start w 13 n s
  have HA := Lib.hid hA
  have HN := Lib.hid hn
  have HL := Lib.hid hlt
  have H1 := Lib.hid (h.keep hA)
  have H0 := Lib.hid h
  clear hA hn hlt h hr
  go_enter Tryz.func72, Tryz.ntmps72
  have hk := kinds_out H1.out (sg := [false, false]) (σ := ⟨#[110, 110]⟩) rfl (by decide) hL
  have hsh := fun q h => @kinds_shape m.stack [false, false] q h
  generalize hkk : kinds m.stack [false, false] = kd at *
  clear hkk
  go_wp2_with fail
  refine hk.mono ?_
  clear hk
  intro e w1 hk
  cases kd with
  | error c =>
    obtain ⟨rfl, x', h2, hF⟩ := hk
    exact ⟨rfl, Out.bad HR.out h2 ((Fr.of HA.out).trans hF) rfl⟩
  | ok q =>
    obtain ⟨g, cap, S', x', rfl, h2, hF, hg, hnS, hvc⟩ := hk
    obtain ⟨a, c, hq2, -, -⟩ := shape2 (hsh q rfl).1
    obtain ⟨q1, q2⟩ := q
    obtain rfl : q2 = [a, c] := hq2
    obtain ⟨-, d1, -⟩ := hvc.c0 rfl
    obtain ⟨-, d4, -⟩ := hvc.c1 rfl
    have k0 := (val_cells ((hF.block _ HL.out (fun h => absurd (H0.out.hS _ h) (by omega))).trans HN.out)).1
    have H2 := Lib.hid h2
    have HF2 := Lib.hid ((Fr.of HA.out).trans hF)
    have hrk := fun W => reckon_mod a.n c.n W
    have HQ := Lib.hid (show r = m.st ((reckon 13 a.n c.n).bind fun n => push q1 (.num n)) from HR.out)
    generalize reckon 13 a.n c.n = rk at *
    clear hsh hvc h2 hF hg hnS
    go_wp2_with fail
    have hD := (Below.refl w1.heap.size w1).drew
    have e0 := Sx.ext_cell k0
    have e1 := Sx.ext_cell d1
    have e4 := Sx.ext_cell d4
    refine Mix.region (fun w' => ∃ Y, w' = Sx.ext w1 Y) 13 [0, 0, 0, 0, 0, 0, 0, 0, 0, 0, 0, 1, 1, 9] [true, false] (by kernel_rfl) (fun _ _ d _ _ h => by cases d <;> exact h) (by rfl) (by kernel_rfl) ⟨w1.drew, Sx.ext_of hD⟩ ?_
    simp only [Mix.selP_cons, Mix.selP_nil, Mix.sel_cons, Mix.sel_nil, Nat.reduceBEq, Nat.reduceAdd, cond_true, cond_false, List.drop_succ_cons, List.drop_zero]
    refine Mix.parts_q ?_
    repeat (go_big_quiet_step (fail))
    refine wpQuiet_nil ?_
    have H3 := Lib.hid (H2.out.keep hD)
    have HF3 := Lib.hid (HF2.out.trans (Fr.of hD))
    have HD := Lib.hid hD
    clear d1 d4 k0 e0 e1 e4 hD
    refine Mix.parts_e ?_
    refine Mix.eff_step (fun K hK => ?_)
    go_simp
    refine (hrk _).mono ?_
    clear hrk
    intro e w4 hrk
    cases rk with
    | error c =>
      obtain ⟨rfl, rfl⟩ := hrk
      exact ⟨rfl, Out.bad HQ.out H3.out HF3.out rfl⟩
    | ok z =>
      obtain ⟨rfl, rfl⟩ := hrk
      refine hK _ _ ⟨_, Sx.ext_of HD.out⟩ ?_
      clear hK K
      refine Mix.eff_step (fun K hK => ?_)
      go_simp
      refine (num_any _ _).mono ?_
      rintro e w5 ⟨rfl, hb5⟩
      refine hK _ _ ⟨_, Sx.ext_of (HD.out.trans (hb5.mono HD.out.size))⟩ ?_
      clear hK K
      have HB5 := Lib.hid hb5
      clear hb5
      refine Mix.eff_nil ?_
      refine Mix.parts_n ?_
      go_wp2_with fail
      have hp := push_out (H3.out.keep HB5.out) (.num z)
      refine hp.mono ?_
      clear hp
      intro e w6 ho
      replace ho := ho.from (HF3.out.trans (Fr.of HB5.out)) (m := m) rfl
      have HQ2 := Lib.hid (show r = Mc.st { m with stack := q1 } (push q1 (.num z)) by
        rw [HQ.out]
        show m.st (push q1 (.num z)) = _
        cases push q1 (.num z) <;> rfl)
      rw [← HQ2.out] at ho
      cases r with
      | error c =>
        obtain ⟨rfl, hx⟩ := ho
        exact ⟨rfl, rfl, hx⟩
      | ok m' =>
        obtain ⟨rfl, hx⟩ := ho
        have HX := Lib.hid hx
        clear hx
        go_wp2_with fail
        go_end0
        exact ⟨rfl, HX.out⟩

end Vm
end Go.Proofs.YtbefgplaaghlbaaGreatDoor

/-
  The machine: what is done to values, second part: swap, store, less, eq, not. (printed by gen_VmF.py)
-/
namespace Go.Proofs.YtbefgplaaghlbaaGreatDoor
open Go.RowKit Go.Shelf Go.Lib
namespace Vm
open Tr

theorem mset_loc (m : Mc) (x : MV) {i : Nat} (hi : i < m.cells.length) (v : V) : (((mcells m x).set (5 + i * 3) (.bool v.isT)).set (5 + i * 3 + 1) (.int .i64 v.n)).set (5 + i * 3 + 2) (.string v.s) = mcells { m with cells := m.cells.set i v } x := by
  have hl := rowV_len m.cells
  have key : ∀ (A R T : List Value) (j : Nat) (u : Value), A.length = 5 → j < R.length → (A ++ R ++ T).set (5 + j) u = A ++ R.set j u ++ T := fun A R T j u hA hj => by
    rw [List.append_assoc, List.set_append_right _ _ (by omega), hA, show 5 + j - 5 = j by omega, List.set_append_left _ _ hj, List.append_assoc]
  unfold mcells
  rw [key _ _ _ _ _ (by simp) (by omega), Nat.add_assoc 5 (i * 3) 1, key _ _ _ _ _ (by simp) (by simp; omega), Nat.add_assoc 5 (i * 3) 2, key _ _ _ _ _ (by simp) (by simp; omega), rowV_set _ _ _ hi]
theorem MR.setLoc {w : World} {b : Nat} {m : Mc} {S : Nat → Prop} {x : MV} (h : MR w b m S x) {i : Nat} (hi : i < 16) (v : V) :
    MR (((w.setCell ⟨b, 5 + i * 3, none⟩ (.bool v.isT)).setCell ⟨b, 5 + i * 3 + 1, none⟩ (.int .i64 v.n)).setCell ⟨b, 5 + i * 3 + 2, none⟩ (.string v.s)) b { m with cells := m.cells.set i v } S x ∧ Fr w (((w.setCell ⟨b, 5 + i * 3, none⟩ (.bool v.isT)).setCell ⟨b, 5 + i * 3 + 1, none⟩ (.int .i64 v.n)).setCell ⟨b, 5 + i * 3 + 2, none⟩ (.string v.s)) S S := by
  have hF := (((Fr.refl w S).set (p := ⟨b, 5 + i * 3, none⟩) h.sb (.bool v.isT)).set (p := ⟨b, 5 + i * 3 + 1, none⟩) h.sb (.int .i64 v.n)).set (p := ⟨b, 5 + i * 3 + 2, none⟩) h.sb (.string v.s)
  have hne : ∀ k, k ≠ b → (((w.setCell ⟨b, 5 + i * 3, none⟩ (.bool v.isT)).setCell ⟨b, 5 + i * 3 + 1, none⟩ (.int .i64 v.n)).setCell ⟨b, 5 + i * 3 + 2, none⟩ (.string v.s)).heap[k]? = w.heap[k]? := fun k hk => (Below.heap_setCell _ _ _ _ hk).trans ((Below.heap_setCell _ _ _ _ hk).trans (Below.heap_setCell _ _ _ _ hk))
  refine ⟨h.next hF ?_ (by simpa using h.c16) h.sb ⟨rfl, rfl⟩ ⟨rfl, rfl⟩ ⟨rfl, rfl⟩ (own_blk h.stack fun k hk => hne k (h.hs k hk).2) (own_blk h.calls fun k hk => hne k (h.hc k hk).2.1) h.hs h.hc (fun k hk => by simpa using h.hS k hk), hF⟩
  have h1 := heap_setCell_same w b (5 + i * 3) _ _ (.bool v.isT) h.blk
  have h2 := heap_setCell_same _ b (5 + i * 3 + 1) _ _ (.int .i64 v.n) h1
  have h3 := heap_setCell_same _ b (5 + i * 3 + 2) _ _ (.string v.s) h2
  rw [h3, ← mset_loc m x (by rw [h.c16]; exact hi) v]
  simp
/-! worlds in which one block is as it was -/
open Classical in
noncomputable def kb (X : World) (b : Nat) (Y : World) : World := if Y.heap[b]? = X.heap[b]? then Y else X
theorem kb_blk (X : World) (b : Nat) (Y : World) : (kb X b Y).heap[b]? = X.heap[b]? := by
  unfold kb
  split
  · assumption
  · rfl
theorem kb_of {X Y : World} {b : Nat} (h : Y.heap[b]? = X.heap[b]?) : ∃ Z, Y = kb X b Z := ⟨Y, by unfold kb; rw [if_pos h]⟩
theorem kb_cell {X : World} {b j : Nat} {v : Value} (h : X.cell? ⟨b, j, none⟩ = some v) (Y : World) : (kb X b Y).cell? ⟨b, j, none⟩ = some v := (World.cell?_of_block (w := X) (a := ⟨b, j, none⟩) (kb_blk X b Y)).trans h
theorem eqV_cells (a c : V) : eqV a c = ((a.isT == c.isT) && ((a.n == c.n) && (a.s.toList == c.s.toList))) := by
  cases a with
  | num z =>
    cases c with
    | num y =>
      show decide (z = y) = ((z == y) && ((ByteArray.mk #[]).toList == (ByteArray.mk #[]).toList))
      rw [beq_self_eq_true (ByteArray.mk #[]).toList, Bool.and_true]
      by_cases h : z = y
      · rw [decide_eq_true h, h, beq_self_eq_true]
      · rw [decide_eq_false h, beq_eq_false_iff_ne.2 h]
    | txt y => rfl
  | txt z =>
    cases c with
    | num y => rfl
    | txt y =>
      show decide (z = y) = (z.toList == y.toList)
      by_cases h : z = y
      · rw [decide_eq_true h, Sx.seq_tt h]
      · rw [decide_eq_false h, Sx.seq_ff h]
theorem bless (a c : ByteArray) : Op.bytesLess a.toList c.toList = ltB a.data.toList c.data.toList := by
  rw [less_ltB, ByteArray.toList_eq, ByteArray.toList_eq]
set_option maxHeartbeats 4000000 in
set_option maxRecDepth 100000 in
theorem values_not {w : World} {b : Nat} {m : Mc} {S : Nat → Prop} {x : MV} (h : MR w b m S x) (n : Int) (s : ByteArray) (hL : m.stack.length ≤ 1000) {r : Except Int Mc} (hr : r = m.st ((kinds m.stack [false]).bind fun q => push q.1 (truth (decide ((q.2.getD 0 (.num 0)).n = 0))))) :
    Calls Tryz.prog 72 #[.pointer (some ⟨b, 0, none⟩), .agg #[.int .i64 16, .int .i64 n, .string s]] w (Out w b m S r) := by
  have HR := Lib.hid hr
  obtain ⟨hA, hn, hlt⟩ := ins_start w 16 n s
  have HA := Lib.hid hA
  have HN := Lib.hid hn
  have HL := Lib.hid hlt
  have H1 := Lib.hid (h.keep hA)
  have H0 := Lib.hid h
  clear hA hn hlt h hr
  go_enter Tryz.func72, Tryz.ntmps72
  have hk := kinds_out H1.out (sg := [false]) (σ := ⟨#[110]⟩) rfl (by decide) hL
  have hsh := fun q h => @kinds_shape m.stack [false] q h
  generalize hkk : kinds m.stack [false] = kd at *
  clear hkk
  go_wp2_with fail
  refine hk.mono ?_
  clear hk
  intro e w1 hk
  cases kd with
  | error c =>
    obtain ⟨rfl, x', h2, hF⟩ := hk
    exact ⟨rfl, Out.bad HR.out h2 ((Fr.of HA.out).trans hF) rfl⟩
  | ok q =>
    obtain ⟨g, cap, S', x', rfl, h2, hF, hg, hnS, hvc⟩ := hk
    obtain ⟨a, hq2, -⟩ := shape1 (hsh q rfl).1
    obtain ⟨q1, q2⟩ := q
    obtain rfl : q2 = [a] := hq2
    obtain ⟨-, d1, -⟩ := hvc.c0 rfl
    have H2 := Lib.hid h2
    have HF2 := Lib.hid ((Fr.of HA.out).trans hF)
    have HQ := Lib.hid (show r = m.st (push q1 (truth (decide (a.n = 0)))) from HR.out)
    have htr := fun W => truth_any (decide (a.n = 0)) W
    have hq : (a.n == 0) = decide (a.n = 0) := by
      by_cases h : a.n = 0
      · rw [h]; rfl
      · rw [decide_eq_false h, beq_eq_false_iff_ne.2 h]
    clear hsh hvc h2 hF hg hnS
    generalize decide (a.n = 0) = d at *
    go_wp2_with (go_at_call 92; refine (htr _).mono ?_; clear htr; rintro e w5 ⟨he, hb5⟩; subst he; have HB5 := Lib.hid hb5; clear hb5)
    have hp := push_out (H2.out.keep HB5.out) (truth d)
    refine hp.mono ?_
    clear hp
    intro e w6 ho
    replace ho := ho.from (HF2.out.trans (Fr.of HB5.out)) (m := m) rfl
    have HQ2 := Lib.hid (show r = Mc.st { m with stack := q1 } (push q1 (truth d)) by
      rw [HQ.out]
      cases push q1 (truth d) <;> rfl)
    rw [← HQ2.out] at ho
    cases r with
    | error c =>
      obtain ⟨rfl, hx⟩ := ho
      exact ⟨rfl, rfl, hx⟩
    | ok m' =>
      obtain ⟨rfl, hx⟩ := ho
      have HX := Lib.hid hx
      clear hx
      go_wp2_with fail
      go_end0
      exact ⟨rfl, HX.out⟩
set_option maxHeartbeats 4000000 in
set_option maxRecDepth 100000 in
theorem values_store {w : World} {b : Nat} {m : Mc} {S : Nat → Prop} {x : MV} (h : MR w b m S x) (s : ByteArray) {i : Nat} (hi : i < 16) (hL : m.stack.length ≤ 1000) {r : Except Int Mc} (hr : r = (need m.stack 1).bind fun q => .ok { m with stack := q.1, cells := m.cells.set i (q.2.getD 0 (.num 0)) }) :
    Calls Tryz.prog 72 #[.pointer (some ⟨b, 0, none⟩), .agg #[.int .i64 8, .int .i64 (i : Int), .string s]] w (Out w b m S r) := by
  have HR := Lib.hid hr
  obtain ⟨hA, hn, hlt⟩ := ins_start w 8 i s
  have HA := Lib.hid hA
  have HN := Lib.hid hn
  have HL := Lib.hid hlt
  have H1 := Lib.hid (h.keep hA)
  have H0 := Lib.hid h
  clear hA hn hlt h hr
  have k1 := (val_cells HN.out).2.1
  go_enter Tryz.func72, Tryz.ntmps72
  by_cases hk : m.stack.length < 1
  · have hnd := need_any H1.out 1
    rw [if_pos hk] at hnd
    have HQ := Lib.hid (show r = .error 40 by rw [HR.out, need_no hk]; rfl)
    clear hk
    go_wp2_with (go_at_call 95; refine hnd.mono ?_; clear hnd; rintro e w1 ⟨he, hw⟩; subst he; subst hw)
    exact ⟨rfl, Out.bad HQ.out H1.out (Fr.of HA.out) rfl⟩
  · have hnd := need_any H1.out 1
    rw [if_neg hk] at hnd
    obtain ⟨rest, a, hst⟩ := split1 hk
    have HQ := Lib.hid (show r = .ok { m with stack := rest, cells := m.cells.set i a } by rw [HR.out, hst, need_one]; rfl)
    have hrl : rest.length ≤ 1000 := by rw [hst, List.length_append] at hL; omega
    have hpop := fun W (hB : Below (w.alloc (.cells #[.int .i64 8, .int .i64 (i : Int), .string s] 38)).heap.size (w.alloc (.cells #[.int .i64 8, .int .i64 (i : Int), .string s] 38)) W) => pop_any (H1.out.keep hB) hst hrl
    have hi17 : (i : Int) < 16 := by omega
    clear hk hst hL
    go_wp2_with (first
      | (go_at_call 95; refine hnd.mono ?_; clear hnd; rintro e w1 ⟨he, hw⟩; subst he; subst hw))
    generalize w.alloc (.cells #[.int .i64 8, .int .i64 (i : Int), .string s] 38) = W at *
    have e1 := kb_cell k1
    refine Mix.region (fun u => ∃ Y, u = kb W w.heap.size Y) 7 [0, 0, 0, 0, 1, 0, 0, 9, 9] [true, false] (by kernel_rfl) (fun _ _ d _ _ h => by cases d <;> exact h) (by rfl) (by kernel_rfl) (kb_of rfl) ?_
    simp only [Mix.selP_cons, Mix.selP_nil, Mix.sel_cons, Mix.sel_nil, Nat.reduceBEq, Nat.reduceAdd, cond_true, cond_false, List.drop_succ_cons, List.drop_zero]
    refine Mix.parts_q ?_
    repeat (go_big_quiet_step (fail))
    refine wpQuiet_nil ?_
    have hD := (Below.refl W.heap.size W).drew
    clear e1 k1
    refine Mix.parts_e ?_
    refine Mix.eff_step (fun K hK => ?_)
    go_simp
    refine (hpop _ hD).mono ?_
    clear hpop
    rintro e w2 ⟨rfl, S', x', h2, hF2⟩
    refine hK _ _ (kb_of (hF2.block w.heap.size HL.out fun h => absurd (H0.out.hS _ h) (by omega))) ?_
    have HD := Lib.hid hD
    clear hK K hD
    obtain ⟨a1, a2, a3⟩ := h2.loc (List.getElem?_eq_getElem (l := m.cells) (i := i) (by rw [H0.out.c16]; exact hi))
    have z1 := h2.frz (5 + i * 3)
    have z2 := h2.frz (5 + i * 3 + 1)
    have z3 := h2.frz (5 + i * 3 + 2)
    obtain ⟨h3, hF3⟩ := h2.setLoc hi a
    have HM := Lib.hid (And.intro h3 (((Fr.of (HA.out.trans (HD.out.mono HA.out.size))).trans hF2).trans hF3))
    clear h2 hF2 h3 hF3
    refine Mix.eff_nil ?_
    refine Mix.parts_n ?_
    go_wp2_with fail
    go_end0
    exact Out.ok HQ.out HM.out.1 HM.out.2
set_option maxHeartbeats 4000000 in
set_option maxRecDepth 100000 in
theorem values_swap {w : World} {b : Nat} {m : Mc} {S : Nat → Prop} {x : MV} (h : MR w b m S x) (n : Int) (s : ByteArray) (hL : m.stack.length ≤ 1000) {r : Except Int Mc} (hr : r = m.st ((need m.stack 2).bind fun q => .ok (q.1 ++ [q.2.getD 1 (.num 0), q.2.getD 0 (.num 0)]))) :
    Calls Tryz.prog 72 #[.pointer (some ⟨b, 0, none⟩), .agg #[.int .i64 6, .int .i64 n, .string s]] w (Out w b m S r) := by
  have HR := Lib.hid hr
  obtain ⟨hA, hn, hlt⟩ := ins_start w 6 n s
  have HA := Lib.hid hA
  have HN := Lib.hid hn
  have HL := Lib.hid hlt
  have H1 := Lib.hid (h.keep hA)
  have H0 := Lib.hid h
  clear hA hn hlt h hr
  go_enter Tryz.func72, Tryz.ntmps72
  by_cases hk : m.stack.length < 2
  · have hnd := need_any H1.out 2
    rw [if_pos hk] at hnd
    have HQ := Lib.hid (show r = .error 40 by rw [HR.out, need_no hk]; rfl)
    clear hk
    go_wp2_with (go_at_call 95; refine hnd.mono ?_; clear hnd; rintro e w1 ⟨he, hw⟩; subst he; subst hw)
    exact ⟨rfl, Out.bad HQ.out H1.out (Fr.of HA.out) rfl⟩
  · have hnd := need_any H1.out 2
    rw [if_neg hk] at hnd
    obtain ⟨rest, a, c, hst⟩ := split2 hk
    have HQ := Lib.hid (show r = m.st (.ok (rest ++ [c, a])) by rw [HR.out, hst, need_two]; rfl)
    have hrl : rest.length ≤ 1000 := by rw [hst, List.length_append] at hL; simp at hL; omega
    have hpop := pop_any H1.out (st := rest ++ [a]) (v := c) (by rw [hst]; simp) (by rw [hst, List.length_append] at hL; simp at hL ⊢; omega)
    have HRL := Lib.hid hrl
    clear hk hst hL hrl
    go_wp2_with (first
      | (go_at_call 95; refine hnd.mono ?_; clear hnd; rintro e w1 ⟨he, hw⟩; subst he; subst hw))
    refine hpop.mono ?_
    clear hpop
    rintro e w2 ⟨rfl, S2, x2, h2, hF2⟩
    have hpop := pop_any (st := rest) (v := a) h2 rfl HRL.out
    have HF2 := Lib.hid ((Fr.of HA.out).trans hF2)
    clear h2 hF2
    go_wp2_with fail
    refine hpop.mono ?_
    clear hpop
    rintro e w3 ⟨rfl, S3, x3, h3, hF3⟩
    have H3 := Lib.hid h3
    have HF3 := Lib.hid (HF2.out.trans hF3)
    clear h3 hF3
    obtain ⟨hW, b0, b1⟩ := two_start w3 (.cells #[.bool c.isT, .int .i64 c.n, .string c.s] 75) (.cells #[.bool a.isT, .int .i64 a.n, .string a.s] 75)
    have h4 := H3.out.keep hW
    obtain ⟨sl, cap, hsv, -, -⟩ := h4.sform
    have c3 := h4.cells5.2.2.2.1
    have z3 := h4.frz 3
    rw [hsv] at c3
    obtain ⟨k0, k1, k2, -⟩ := val_cells b0
    obtain ⟨j0, j1, j2, -⟩ := val_cells b1
    have HL4 := Lib.hid (show w3.heap.size < ((w3.alloc (.cells #[.bool c.isT, .int .i64 c.n, .string c.s] 75)).alloc (.cells #[.bool a.isT, .int .i64 a.n, .string a.s] 75)).heap.size ∧ w3.heap.size + 1 < ((w3.alloc (.cells #[.bool c.isT, .int .i64 c.n, .string c.s] 75)).alloc (.cells #[.bool a.isT, .int .i64 a.n, .string a.s] 75)).heap.size from ⟨(Array.getElem?_eq_some_iff.1 b0).1, (Array.getElem?_eq_some_iff.1 b1).1⟩)
    have H4 := Lib.hid h4
    have HW := Lib.hid hW
    have HSV := Lib.hid hsv
    clear hW b0 b1 h4 hsv
    go_wp2_with fail
    generalize (w3.alloc (.cells #[.bool c.isT, .int .i64 c.n, .string c.s] 75)).alloc (.cells #[.bool a.isT, .int .i64 a.n, .string a.s] 75) = W at *
    have hbo : x3.sv.ownBlock ≠ some b := fun e => (H4.out.hs b e).2 rfl
    have hwo : x3.sv.ownBlock ≠ some w3.heap.size := fun e => absurd (H3.out.hS _ (H3.out.hs _ e).1) (by omega)
    have hwo' : x3.sv.ownBlock ≠ some (w3.heap.size + 1) := fun e => absurd (H3.out.hS _ (H3.out.hs _ e).1) (by omega)
    have e0 := kr_cell k0 hwo
    have e1 := kr_cell k1 hwo
    have e2 := kr_cell k2 hwo
    have f0 := kr_cell j0 hwo'
    have f1 := kr_cell j1 hwo'
    have f2 := kr_cell j2 hwo'
    have e3 := kr_cell c3 hbo
    have hbd : Below W.heap.size W (W.alloc (.cells (rowV [c, a]).toArray 75)).drew := ((Below.refl W.heap.size W).alloc (Nat.le_refl _) _).drew
    obtain ⟨v', w5, hr, hown, hg3, hat3, sl3, n3, cap3, hv3⟩ := H4.out.append hbd (g := W.heap.size) (vs := [c, a]) (heap_alloc_new _ _) HRL.out (by simp)
    subst hv3
    rw [HSV.out] at hr hbo hg3 hat3 e0 e1 e2 e3 f0 f1 f2
    have HG3 := Lib.hid (And.intro hbd (And.intro hown (And.intro hg3 hat3)))
    have HBO := Lib.hid hbo
    clear hown hg3 hat3 hbd hwo hwo' hbo
    replace hr : (Builtin.append_ #[61, 61] 61 #[.slice sl rest.length cap, .slice (some ⟨W.heap.size, 0, none⟩) 2 2]).run Tryz.prog (W.alloc (.cells #[.bool c.isT, .int .i64 c.n, .string c.s, .bool a.isT, .int .i64 a.n, .string a.s] 75)).drew = .ok (.slice sl3 n3 cap3) w5 := hr
    refine Mix.region (fun u => ∃ Y, u = kr W (Value.ownBlock (.slice sl rest.length cap)) Y) 9 [0, 0, 0, 0, 0, 0, 0, 1, 1, 9, 9, 9] [true, false] (by kernel_rfl) (fun _ _ d _ _ h => by cases d <;> exact h) (by rfl) (by kernel_rfl) (kr_of fun _ _ _ => rfl) ?_
    simp only [Mix.selP_cons, Mix.selP_nil, Mix.sel_cons, Mix.sel_nil, Nat.reduceBEq, Nat.reduceAdd, cond_true, cond_false, List.drop_succ_cons, List.drop_zero]
    refine Mix.parts_q ?_
    repeat (go_big_quiet_step (fail))
    refine wpQuiet_nil ?_
    clear e0 e1 e2 e3 f0 f1 f2
    refine Mix.parts_e ?_
    refine Mix.eff_step (fun K hK => ?_)
    go_simp
    refine hK _ _ (kr_of fun k hk _ => HG3.out.1.block k hk) ?_
    clear hK K
    refine Mix.eff_step (fun K hK => ?_)
    refine append_wp _ _ _ rfl rfl rfl rfl hr ?_
    refine hK _ _ (kr_of fun k hk hr => (HG3.out.2.2.1.block k (Nat.lt_of_lt_of_le hk HG3.out.1.size) fun e => hr e.symm).trans (HG3.out.1.block k hk)) ?_
    clear hK K hr
    obtain ⟨hbd, hown, hg3, hat3⟩ := HG3.out
    have hgg : W.grownBy w5 x3.sv.ownBlock := by
      rw [HSV.out]
      exact ⟨hg3.os.trans hbd.os, hg3.tape.trans hbd.tape, hg3.output.trans hbd.output, Nat.le_trans hbd.size hg3.size, fun k hk hn => (hg3.block k (Nat.lt_of_lt_of_le hk hbd.size) hn).trans (hbd.block k hk)⟩
    obtain ⟨S', h7, hF⟩ := H4.out.stackTo hgg hown (fun k hk => (hat3 k hk).elim (fun h => .inl (by rw [HSV.out]; exact h)) fun h => .inr (Nat.le_trans hbd.size h))
    have HM7 := Lib.hid (And.intro h7 ((HF3.out.trans (Fr.of HW.out)).trans hF))
    have c3' := (World.cell?_of_block (w := W) (a := ⟨b, 3, none⟩) ((hg3.block b (Nat.lt_of_lt_of_le (H4.out.hS b H4.out.sb) hbd.size) fun e => HBO.out e.symm).trans (hbd.block b (H4.out.hS b H4.out.sb)))).trans c3
    have z3' := (World.frozen?_of_block (w := W) (a := ⟨b, 3, none⟩) ((hg3.block b (Nat.lt_of_lt_of_le (H4.out.hS b H4.out.sb) hbd.size) fun e => HBO.out e.symm).trans (hbd.block b (H4.out.hS b H4.out.sb)))).trans z3
    clear hbd hown hg3 hat3 hgg h7 hF c3 z3 k0 k1 k2 j0 j1 j2
    refine Mix.eff_nil ?_
    refine Mix.parts_n ?_
    go_wp2_with fail
    go_end0
    exact Out.ok HQ.out HM7.out.1 HM7.out.2
set_option maxHeartbeats 4000000 in
set_option maxRecDepth 100000 in
theorem values_less {w : World} {b : Nat} {m : Mc} {S : Nat → Prop} {x : MV} (h : MR w b m S x) (n : Int) (s : ByteArray) (hL : m.stack.length ≤ 1000) {r : Except Int Mc} (hr : r = m.st ((need m.stack 2).bind fun q => if (q.2.getD 0 (.num 0)).isT = (q.2.getD 1 (.num 0)).isT then push q.1 (truth (lessV (q.2.getD 0 (.num 0)) (q.2.getD 1 (.num 0)))) else .error 41)) :
    Calls Tryz.prog 72 #[.pointer (some ⟨b, 0, none⟩), .agg #[.int .i64 14, .int .i64 n, .string s]] w (Out w b m S r) := by
  have HR := Lib.hid hr
  obtain ⟨hA, hn, hlt⟩ := ins_start w 14 n s
  have HA := Lib.hid hA
  have HN := Lib.hid hn
  have HL := Lib.hid hlt
  have H1 := Lib.hid (h.keep hA)
  have H0 := Lib.hid h
  clear hA hn hlt h hr
  go_enter Tryz.func72, Tryz.ntmps72
  by_cases hk : m.stack.length < 2
  · have hnd := need_any H1.out 2
    rw [if_pos hk] at hnd
    have HQ := Lib.hid (show r = .error 40 by rw [HR.out, need_no hk]; rfl)
    clear hk
    go_wp2_with (go_at_call 95; refine hnd.mono ?_; clear hnd; rintro e w1 ⟨he, hw⟩; subst he; subst hw)
    exact ⟨rfl, Out.bad HQ.out H1.out (Fr.of HA.out) rfl⟩
  · have hnd := need_any H1.out 2
    rw [if_neg hk] at hnd
    obtain ⟨rest, a, c, hst⟩ := split2 hk
    have HQ := Lib.hid (show r = m.st (if a.isT = c.isT then push rest (truth (lessV a c)) else .error 41) by rw [HR.out, hst, need_two]; rfl)
    have hrl : rest.length ≤ 1000 := by rw [hst, List.length_append] at hL; simp at hL; omega
    have hpop := pop_any H1.out (st := rest ++ [a]) (v := c) (by rw [hst]; simp) (by rw [hst, List.length_append] at hL; simp at hL ⊢; omega)
    have HRL := Lib.hid hrl
    clear hk hst hL hrl
    go_wp2_with (first
      | (go_at_call 95; refine hnd.mono ?_; clear hnd; rintro e w1 ⟨he, hw⟩; subst he; subst hw))
    refine hpop.mono ?_
    clear hpop
    rintro e w2 ⟨rfl, S2, x2, h2, hF2⟩
    have hpop := pop_any (st := rest) (v := a) h2 rfl HRL.out
    have HF2 := Lib.hid ((Fr.of HA.out).trans hF2)
    clear h2 hF2
    go_wp2_with fail
    refine hpop.mono ?_
    clear hpop
    rintro e w3 ⟨rfl, S3, x3, h3, hF3⟩
    have H3 := Lib.hid h3
    have HF3 := Lib.hid (HF2.out.trans hF3)
    clear h3 hF3
    obtain ⟨hW, b0, b1⟩ := two_start w3 (.cells #[.bool c.isT, .int .i64 c.n, .string c.s] 75) (.cells #[.bool a.isT, .int .i64 a.n, .string a.s] 75)
    obtain ⟨k0, k1, k2, -⟩ := val_cells b0
    obtain ⟨j0, j1, j2, -⟩ := val_cells b1
    have H4 := Lib.hid (H3.out.keep hW)
    have HF4 := Lib.hid (HF3.out.trans (Fr.of hW))
    clear hW b0 b1
    by_cases ht : a.isT = c.isT
    · have hq : (a.isT == c.isT) = true := by rw [ht]; exact beq_self_eq_true _
      have HQ3 := Lib.hid (show r = m.st (push rest (truth (lessV a c))) by rw [HQ.out, if_pos ht])
      clear ht
      by_cases hn : a.n < c.n
      · have HV := Lib.hid (show lessV a c = true by unfold lessV; rw [decide_eq_true hn]; rfl)
        have htr := fun W => truth_any true W
        go_wp2_with (first
          | (go_at_call 88; with_reducible refine (unless_tt _ _).mono ?_; rintro e w5 ⟨he, hw⟩; subst he; subst hw)
          | (go_at_call 92; refine (htr _).mono ?_; clear htr; rintro e w6 ⟨he, hb5⟩; subst he; have HB5 := Lib.hid hb5; clear hb5))
        have hp := push_out (H4.out.keep HB5.out) (truth true)
        refine hp.mono ?_
        clear hp
        intro e w7 ho
        replace ho := ho.from (HF4.out.trans (Fr.of HB5.out)) (m := m) rfl
        have HQ2 := Lib.hid (show r = Mc.st { m with stack := rest } (push rest (truth true)) by
          rw [HQ3.out, HV.out]
          cases push rest (truth true) <;> rfl)
        rw [← HQ2.out] at ho
        cases r with
        | error c =>
          obtain ⟨rfl, hx⟩ := ho
          exact ⟨rfl, rfl, hx⟩
        | ok m' =>
          obtain ⟨rfl, hx⟩ := ho
          have HX := Lib.hid hx
          clear hx
          go_wp2_with fail
          go_end0
          exact ⟨rfl, HX.out⟩
      · have hbl := bless a.s c.s
        have HV := Lib.hid (show lessV a c = (decide (a.n < c.n) || ltB a.s.data.toList c.s.data.toList) from rfl)
        generalize ltB a.s.data.toList c.s.data.toList = d at *
        have htr := fun W => truth_any (decide (a.n < c.n) || d) W
        go_wp2_with (first
          | (go_at_call 88; with_reducible refine (unless_tt _ _).mono ?_; rintro e w5 ⟨he, hw⟩; subst he; subst hw)
          | (go_at_call 92; refine (htr _).mono ?_; clear htr; rintro e w6 ⟨he, hb5⟩; subst he; have HB5 := Lib.hid hb5; clear hb5))
        have hp := push_out (H4.out.keep HB5.out) (truth (decide (a.n < c.n) || d))
        refine hp.mono ?_
        clear hp
        intro e w7 ho
        replace ho := ho.from (HF4.out.trans (Fr.of HB5.out)) (m := m) rfl
        have HQ2 := Lib.hid (show r = Mc.st { m with stack := rest } (push rest (truth (decide (a.n < c.n) || d))) by
          rw [HQ3.out, HV.out]
          cases push rest (truth (decide (a.n < c.n) || d)) <;> rfl)
        rw [← HQ2.out] at ho
        cases r with
        | error c =>
          obtain ⟨rfl, hx⟩ := ho
          exact ⟨rfl, rfl, hx⟩
        | ok m' =>
          obtain ⟨rfl, hx⟩ := ho
          have HX := Lib.hid hx
          clear hx
          go_wp2_with fail
          go_end0
          exact ⟨rfl, HX.out⟩
    · have hq : (a.isT == c.isT) = false := beq_eq_false_iff_ne.2 ht
      have HQ3 := Lib.hid (show r = .error 41 by rw [HQ.out, if_neg ht]; rfl)
      clear ht
      go_wp2_with (go_at_call 88; with_reducible refine (unless_ff _ _).mono ?_; rintro e w5 ⟨he, hw⟩; subst he; subst hw)
      exact ⟨rfl, Out.bad HQ3.out H4.out HF4.out rfl⟩
set_option maxHeartbeats 4000000 in
set_option maxRecDepth 100000 in
theorem values_eq {w : World} {b : Nat} {m : Mc} {S : Nat → Prop} {x : MV} (h : MR w b m S x) (n : Int) (s : ByteArray) (hL : m.stack.length ≤ 1000) {r : Except Int Mc} (hr : r = m.st ((need m.stack 2).bind fun q => push q.1 (truth (eqV (q.2.getD 0 (.num 0)) (q.2.getD 1 (.num 0)))))) :
    Calls Tryz.prog 72 #[.pointer (some ⟨b, 0, none⟩), .agg #[.int .i64 15, .int .i64 n, .string s]] w (Out w b m S r) := by
  have HR := Lib.hid hr
  obtain ⟨hA, hn, hlt⟩ := ins_start w 15 n s
  have HA := Lib.hid hA
  have HN := Lib.hid hn
  have HL := Lib.hid hlt
  have H1 := Lib.hid (h.keep hA)
  have H0 := Lib.hid h
  clear hA hn hlt h hr
  go_enter Tryz.func72, Tryz.ntmps72
  by_cases hk : m.stack.length < 2
  · have hnd := need_any H1.out 2
    rw [if_pos hk] at hnd
    have HQ := Lib.hid (show r = .error 40 by rw [HR.out, need_no hk]; rfl)
    clear hk
    go_wp2_with (go_at_call 95; refine hnd.mono ?_; clear hnd; rintro e w1 ⟨he, hw⟩; subst he; subst hw)
    exact ⟨rfl, Out.bad HQ.out H1.out (Fr.of HA.out) rfl⟩
  · have hnd := need_any H1.out 2
    rw [if_neg hk] at hnd
    obtain ⟨rest, a, c, hst⟩ := split2 hk
    have HQ := Lib.hid (show r = m.st (push rest (truth (eqV a c))) by rw [HR.out, hst, need_two]; rfl)
    have hrl : rest.length ≤ 1000 := by rw [hst, List.length_append] at hL; simp at hL; omega
    have hpop := pop_any H1.out (st := rest ++ [a]) (v := c) (by rw [hst]; simp) (by rw [hst, List.length_append] at hL; simp at hL ⊢; omega)
    have HRL := Lib.hid hrl
    clear hk hst hL hrl
    go_wp2_with (first
      | (go_at_call 95; refine hnd.mono ?_; clear hnd; rintro e w1 ⟨he, hw⟩; subst he; subst hw))
    refine hpop.mono ?_
    clear hpop
    rintro e w2 ⟨rfl, S2, x2, h2, hF2⟩
    have hpop := pop_any (st := rest) (v := a) h2 rfl HRL.out
    have HF2 := Lib.hid ((Fr.of HA.out).trans hF2)
    clear h2 hF2
    go_wp2_with fail
    refine hpop.mono ?_
    clear hpop
    rintro e w3 ⟨rfl, S3, x3, h3, hF3⟩
    have H3 := Lib.hid h3
    have HF3 := Lib.hid (HF2.out.trans hF3)
    clear h3 hF3
    obtain ⟨hW, b0, b1⟩ := two_start w3 (.cells #[.bool c.isT, .int .i64 c.n, .string c.s] 75) (.cells #[.bool a.isT, .int .i64 a.n, .string a.s] 75)
    obtain ⟨k0, k1, k2, -⟩ := val_cells b0
    obtain ⟨j0, j1, j2, -⟩ := val_cells b1
    have H4 := Lib.hid (H3.out.keep hW)
    have HF4 := Lib.hid (HF3.out.trans (Fr.of hW))
    clear hW b0 b1
    have hcells := eqV_cells a c
    cases t1 : (a.isT == c.isT) with
    | false =>
      have HV := Lib.hid (show eqV a c = false by rw [hcells, t1]; rfl)
      clear hcells
      have htr := fun W => truth_any false W
      go_wp2_with (first
        | (go_at_call 88; with_reducible refine (unless_tt _ _).mono ?_; rintro e w5 ⟨he, hw⟩; subst he; subst hw)
        | (go_at_call 92; refine (htr _).mono ?_; clear htr; rintro e w6 ⟨he, hb5⟩; subst he; have HB5 := Lib.hid hb5; clear hb5))
      have hp := push_out (H4.out.keep HB5.out) (truth false)
      refine hp.mono ?_
      clear hp
      intro e w7 ho
      replace ho := ho.from (HF4.out.trans (Fr.of HB5.out)) (m := m) rfl
      have HQ2 := Lib.hid (show r = Mc.st { m with stack := rest } (push rest (truth false)) by
        rw [HQ.out, HV.out]
        cases push rest (truth false) <;> rfl)
      rw [← HQ2.out] at ho
      cases r with
      | error c =>
        obtain ⟨rfl, hx⟩ := ho
        exact ⟨rfl, rfl, hx⟩
      | ok m' =>
        obtain ⟨rfl, hx⟩ := ho
        have HX := Lib.hid hx
        clear hx
        go_wp2_with fail
        go_end0
        exact ⟨rfl, HX.out⟩
    | true =>
      cases t2 : (a.n == c.n) with
      | false =>
        have HV := Lib.hid (show eqV a c = false by rw [hcells, t1, t2]; rfl)
        clear hcells
        have htr := fun W => truth_any false W
        go_wp2_with (first
          | (go_at_call 88; with_reducible refine (unless_tt _ _).mono ?_; rintro e w5 ⟨he, hw⟩; subst he; subst hw)
          | (go_at_call 92; refine (htr _).mono ?_; clear htr; rintro e w6 ⟨he, hb5⟩; subst he; have HB5 := Lib.hid hb5; clear hb5))
        have hp := push_out (H4.out.keep HB5.out) (truth false)
        refine hp.mono ?_
        clear hp
        intro e w7 ho
        replace ho := ho.from (HF4.out.trans (Fr.of HB5.out)) (m := m) rfl
        have HQ2 := Lib.hid (show r = Mc.st { m with stack := rest } (push rest (truth false)) by
          rw [HQ.out, HV.out]
          cases push rest (truth false) <;> rfl)
        rw [← HQ2.out] at ho
        cases r with
        | error c =>
          obtain ⟨rfl, hx⟩ := ho
          exact ⟨rfl, rfl, hx⟩
        | ok m' =>
          obtain ⟨rfl, hx⟩ := ho
          have HX := Lib.hid hx
          clear hx
          go_wp2_with fail
          go_end0
          exact ⟨rfl, HX.out⟩
      | true =>
        cases t3 : (a.s.toList == c.s.toList) with
        | false =>
          have HV := Lib.hid (show eqV a c = false by rw [hcells, t1, t2, t3]; rfl)
          clear hcells
          have htr := fun W => truth_any false W
          go_wp2_with (first
            | (go_at_call 88; with_reducible refine (unless_tt _ _).mono ?_; rintro e w5 ⟨he, hw⟩; subst he; subst hw)
            | (go_at_call 92; refine (htr _).mono ?_; clear htr; rintro e w6 ⟨he, hb5⟩; subst he; have HB5 := Lib.hid hb5; clear hb5))
          have hp := push_out (H4.out.keep HB5.out) (truth false)
          refine hp.mono ?_
          clear hp
          intro e w7 ho
          replace ho := ho.from (HF4.out.trans (Fr.of HB5.out)) (m := m) rfl
          have HQ2 := Lib.hid (show r = Mc.st { m with stack := rest } (push rest (truth false)) by
            rw [HQ.out, HV.out]
            cases push rest (truth false) <;> rfl)
          rw [← HQ2.out] at ho
          cases r with
          | error c =>
            obtain ⟨rfl, hx⟩ := ho
            exact ⟨rfl, rfl, hx⟩
          | ok m' =>
            obtain ⟨rfl, hx⟩ := ho
            have HX := Lib.hid hx
            clear hx
            go_wp2_with fail
            go_end0
            exact ⟨rfl, HX.out⟩
        | true =>
          have HV := Lib.hid (show eqV a c = true by rw [hcells, t1, t2, t3]; rfl)
          clear hcells
          have htr := fun W => truth_any true W
          go_wp2_with (first
            | (go_at_call 88; with_reducible refine (unless_tt _ _).mono ?_; rintro e w5 ⟨he, hw⟩; subst he; subst hw)
            | (go_at_call 92; refine (htr _).mono ?_; clear htr; rintro e w6 ⟨he, hb5⟩; subst he; have HB5 := Lib.hid hb5; clear hb5))
          have hp := push_out (H4.out.keep HB5.out) (truth true)
          refine hp.mono ?_
          clear hp
          intro e w7 ho
          replace ho := ho.from (HF4.out.trans (Fr.of HB5.out)) (m := m) rfl
          have HQ2 := Lib.hid (show r = Mc.st { m with stack := rest } (push rest (truth true)) by
            rw [HQ.out, HV.out]
            cases push rest (truth true) <;> rfl)
          rw [← HQ2.out] at ho
          cases r with
          | error c =>
            obtain ⟨rfl, hx⟩ := ho
            exact ⟨rfl, rfl, hx⟩
          | ok m' =>
            obtain ⟨rfl, hx⟩ := ho
            have HX := Lib.hid hx
            clear hx
            go_wp2_with fail
            go_end0
            exact ⟨rfl, HX.out⟩
end Vm
end Go.Proofs.YtbefgplaaghlbaaGreatDoor

/-
  The machine: what is done to texts. (printed by gen_VmG.py)
-/
namespace Go.Proofs.YtbefgplaaghlbaaGreatDoor
open Go.RowKit Go.Shelf Go.Lib
namespace Vm
open Tr

/-- the variables are none of the machine's -/
def EnvS (w : World) (S : Nat → Prop) : Prop := Env w ∧ ∀ k, S k → 9 ≤ k
theorem EnvS.fr {w w' : World} {S S' : Nat → Prop} (h : EnvS w S) (hF : Fr w w' S S') : EnvS w' S' :=
  ⟨h.1.low (Nat.le_refl _) ⟨hF.os, hF.tape, hF.output, hF.size, fun k hk => hF.block k (Nat.lt_of_lt_of_le hk h.1.big) fun h1 => absurd (h.2 k h1) (by omega)⟩, fun k hk => (hF.own k hk).elim (h.2 k) fun h1 => Nat.le_trans h.1.big h1⟩
set_option maxHeartbeats 4000000 in
set_option maxRecDepth 100000 in
theorem texts_text {w : World} {b : Nat} {m : Mc} {S : Nat → Prop} {x : MV} (h : MR w b m S x) (n : Int) (s : ByteArray) {r : Except Int Mc} (hr : r = m.st (push m.stack (.txt s))) :
    Calls Tryz.prog 70 #[.pointer (some ⟨b, 0, none⟩), .agg #[.int .i64 3, .int .i64 n, .string s]] w (Out w b m S r) := by
  have HR := Lib.hid hr
  obtain ⟨hA, hn, hlt⟩ := ins_start w 3 n s
  have HA := Lib.hid hA
  have HN := Lib.hid hn
  have HL := Lib.hid hlt
  have H1 := Lib.hid (h.keep hA)
  have H0 := Lib.hid h
  clear hA hn hlt h hr
  go_enter Tryz.func70, Tryz.ntmps70
  have k2 := (val_cells HN.out).2.2.1
  go_wp2_with (go_at_call 90; refine (text_any _ _).mono ?_; rintro e w1 ⟨he, hb1⟩; subst he)
  have hF := Fr.of (S := S) (HA.out.trans (hb1.mono HA.out.size))
  refine (push_out (H1.out.keep hb1) (.txt s)).mono ?_
  intro e w2 ho
  replace ho := ho.from hF (m := m) rfl
  rw [← HR.out] at ho
  clear hF hb1 k2
  cases r with
  | error c =>
    obtain ⟨rfl, hx⟩ := ho
    exact ⟨rfl, rfl, hx⟩
  | ok m' =>
    obtain ⟨rfl, hx⟩ := ho
    have HX := Lib.hid hx
    clear hx
    go_wp2_with fail
    go_end0
    exact ⟨rfl, HX.out⟩
set_option maxHeartbeats 4000000 in
set_option maxRecDepth 100000 in
theorem texts_len {w : World} {b : Nat} {m : Mc} {S : Nat → Prop} {x : MV} (h : MR w b m S x) (n : Int) (s : ByteArray) (hL : m.stack.length ≤ 1000) {r : Except Int Mc} (hr : r = m.st ((kinds m.stack [true]).bind fun q => push q.1 (.num (q.2.getD 0 (.num 0)).s.size))) :
    Calls Tryz.prog 70 #[.pointer (some ⟨b, 0, none⟩), .agg #[.int .i64 22, .int .i64 n, .string s]] w (Out w b m S r) := by
  have HR := Lib.hid hr
  obtain ⟨hA, hn, hlt⟩ := ins_start w 22 n s
  have HA := Lib.hid hA
  have HN := Lib.hid hn
  have HL := Lib.hid hlt
  have H1 := Lib.hid (h.keep hA)
  have H0 := Lib.hid h
  clear hA hn hlt h hr
  go_enter Tryz.func70, Tryz.ntmps70
  have hk := kinds_out H1.out (sg := [true]) (σ := ⟨#[116]⟩) rfl (by decide) hL
  have hsh := fun q h => @kinds_shape m.stack [true] q h
  generalize hkk : kinds m.stack [true] = kd at *
  have HKK := Lib.hid hkk
  clear hkk
  go_wp2_with fail
  refine hk.mono ?_
  clear hk
  intro e w1 hk
  cases kd with
  | error c =>
    obtain ⟨rfl, x', h2, hF⟩ := hk
    exact ⟨rfl, Out.bad HR.out h2 ((Fr.of HA.out).trans hF) rfl⟩
  | ok q =>
    obtain ⟨g, cap, S', x', rfl, h2, hF, hg, hnS, hvc⟩ := hk
    obtain ⟨a, hq2, -⟩ := shape1 (hsh q rfl).1
    obtain ⟨q1, q2⟩ := q
    obtain rfl : q2 = [a] := hq2
    have HMEM := Lib.hid (show ∀ v ∈ [a], v ∈ m.stack from fun v hv => by rw [(hsh _ rfl).2]; exact List.mem_append_right _ hv)
    have H2 := Lib.hid h2
    have HF2 := Lib.hid ((Fr.of HA.out).trans hF)
    obtain ⟨-, -, d2⟩ := hvc.c0 rfl
    have HQ := Lib.hid (show r = m.st (push q1 (.num a.s.size)) from HR.out)
    clear hsh hvc h2 hF hg hnS
    go_wp2_with (go_at_call 91; refine (num_any _ _).mono ?_; rintro e w5 ⟨he, hb5⟩; subst he; have HB5 := Lib.hid hb5; clear hb5)
    have hp := push_out (H2.out.keep HB5.out) (.num a.s.size)
    refine hp.mono ?_
    clear hp
    intro e w9 ho
    replace ho := ho.from (HF2.out.trans (Fr.of HB5.out)) (m := m) rfl
    have HQ2 := Lib.hid (show r = Mc.st { m with stack := q1 } (push q1 (.num a.s.size)) by
      rw [HQ.out]
      cases push q1 (.num a.s.size) <;> rfl)
    rw [← HQ2.out] at ho
    cases r with
    | error c =>
      obtain ⟨rfl, hx⟩ := ho
      exact ⟨rfl, rfl, hx⟩
    | ok m' =>
      obtain ⟨rfl, hx⟩ := ho
      have HX := Lib.hid hx
      clear hx
      go_wp2_with fail
      go_end0
      exact ⟨rfl, HX.out⟩
set_option maxHeartbeats 4000000 in
set_option maxRecDepth 100000 in
theorem texts_str {w : World} {b : Nat} {m : Mc} {S : Nat → Prop} {x : MV} (h : MR w b m S x) (n : Int) (s : ByteArray) (hL : m.stack.length ≤ 1000) (hV : ∀ v ∈ m.stack, v.ok) (hE : EnvS w S) {r : Except Int Mc} (hr : r = m.st ((kinds m.stack [false]).bind fun q => push q.1 (.txt ⟨(Lib.itoa (q.2.getD 0 (.num 0)).n).toArray⟩))) :
    Calls Tryz.prog 70 #[.pointer (some ⟨b, 0, none⟩), .agg #[.int .i64 24, .int .i64 n, .string s]] w (Out w b m S r) := by
  have HR := Lib.hid hr
  obtain ⟨hA, hn, hlt⟩ := ins_start w 24 n s
  have HA := Lib.hid hA
  have HN := Lib.hid hn
  have HL := Lib.hid hlt
  have H1 := Lib.hid (h.keep hA)
  have H0 := Lib.hid h
  clear hA hn hlt h hr
  go_enter Tryz.func70, Tryz.ntmps70
  have hk := kinds_out H1.out (sg := [false]) (σ := ⟨#[110]⟩) rfl (by decide) hL
  have hsh := fun q h => @kinds_shape m.stack [false] q h
  generalize hkk : kinds m.stack [false] = kd at *
  have HKK := Lib.hid hkk
  clear hkk
  go_wp2_with fail
  refine hk.mono ?_
  clear hk
  intro e w1 hk
  cases kd with
  | error c =>
    obtain ⟨rfl, x', h2, hF⟩ := hk
    exact ⟨rfl, Out.bad HR.out h2 ((Fr.of HA.out).trans hF) rfl⟩
  | ok q =>
    obtain ⟨g, cap, S', x', rfl, h2, hF, hg, hnS, hvc⟩ := hk
    obtain ⟨a, hq2, -⟩ := shape1 (hsh q rfl).1
    obtain ⟨q1, q2⟩ := q
    obtain rfl : q2 = [a] := hq2
    have HMEM := Lib.hid (show ∀ v ∈ [a], v ∈ m.stack from fun v hv => by rw [(hsh _ rfl).2]; exact List.mem_append_right _ hv)
    have H2 := Lib.hid h2
    have HF2 := Lib.hid ((Fr.of HA.out).trans hF)
    obtain ⟨-, d1, -⟩ := hvc.c0 rfl
    have hok := hV a (HMEM.out a (by simp))
    have hit := itoa_any a.n hok.2.1 hok.2.2 w1 (hE.fr HF2.out).1
    have HQ := Lib.hid (show r = m.st (push q1 (.txt ⟨(Lib.itoa a.n).toArray⟩)) from HR.out)
    clear hok
    clear hsh hvc h2 hF hg hnS
    go_wp2_with (first
      | (go_at_call 29; refine hit.mono ?_; clear hit; rintro e w4 ⟨he, hb4⟩; subst he; have HB4 := Lib.hid hb4; clear hb4)
      | (go_at_call 90; refine (text_any _ _).mono ?_; rintro e w5 ⟨he, hb5⟩; subst he; have HB5 := Lib.hid hb5; clear hb5))
    have hp := push_out ((H2.out.keep HB4.out).keep HB5.out) (.txt ⟨(Lib.itoa a.n).toArray⟩)
    refine hp.mono ?_
    clear hp
    intro e w9 ho
    replace ho := ho.from ((HF2.out.trans (Fr.of HB4.out)).trans (Fr.of HB5.out)) (m := m) rfl
    have HQ2 := Lib.hid (show r = Mc.st { m with stack := q1 } (push q1 (.txt ⟨(Lib.itoa a.n).toArray⟩)) by
      rw [HQ.out]
      cases push q1 (.txt ⟨(Lib.itoa a.n).toArray⟩) <;> rfl)
    rw [← HQ2.out] at ho
    cases r with
    | error c =>
      obtain ⟨rfl, hx⟩ := ho
      exact ⟨rfl, rfl, hx⟩
    | ok m' =>
      obtain ⟨rfl, hx⟩ := ho
      have HX := Lib.hid hx
      clear hx
      go_wp2_with fail
      go_end0
      exact ⟨rfl, HX.out⟩
set_option maxHeartbeats 4000000 in
set_option maxRecDepth 100000 in
theorem texts_cat {w : World} {b : Nat} {m : Mc} {S : Nat → Prop} {x : MV} (h : MR w b m S x) (n : Int) (s : ByteArray) (hL : m.stack.length ≤ 1000) (hV : ∀ v ∈ m.stack, v.ok) {r : Except Int Mc} (hr : r = m.st ((kinds m.stack [true, true]).bind fun q => if (q.2.getD 0 (.num 0)).s.size + (q.2.getD 1 (.num 0)).s.size ≤ 2048 then push q.1 (.txt ((q.2.getD 0 (.num 0)).s ++ (q.2.getD 1 (.num 0)).s)) else .error 43)) :
    Calls Tryz.prog 70 #[.pointer (some ⟨b, 0, none⟩), .agg #[.int .i64 21, .int .i64 n, .string s]] w (Out w b m S r) := by
  have HR := Lib.hid hr
  obtain ⟨hA, hn, hlt⟩ := ins_start w 21 n s
  have HA := Lib.hid hA
  have HN := Lib.hid hn
  have HL := Lib.hid hlt
  have H1 := Lib.hid (h.keep hA)
  have H0 := Lib.hid h
  clear hA hn hlt h hr
  go_enter Tryz.func70, Tryz.ntmps70
  have hk := kinds_out H1.out (sg := [true, true]) (σ := ⟨#[116, 116]⟩) rfl (by decide) hL
  have hsh := fun q h => @kinds_shape m.stack [true, true] q h
  generalize hkk : kinds m.stack [true, true] = kd at *
  have HKK := Lib.hid hkk
  clear hkk
  go_wp2_with fail
  refine hk.mono ?_
  clear hk
  intro e w1 hk
  cases kd with
  | error c =>
    obtain ⟨rfl, x', h2, hF⟩ := hk
    exact ⟨rfl, Out.bad HR.out h2 ((Fr.of HA.out).trans hF) rfl⟩
  | ok q =>
    obtain ⟨g, cap, S', x', rfl, h2, hF, hg, hnS, hvc⟩ := hk
    obtain ⟨a, c, hq2, -, -⟩ := shape2 (hsh q rfl).1
    obtain ⟨q1, q2⟩ := q
    obtain rfl : q2 = [a, c] := hq2
    have HMEM := Lib.hid (show ∀ v ∈ [a, c], v ∈ m.stack from fun v hv => by rw [(hsh _ rfl).2]; exact List.mem_append_right _ hv)
    have H2 := Lib.hid h2
    have HF2 := Lib.hid ((Fr.of HA.out).trans hF)
    obtain ⟨-, -, d2⟩ := hvc.c0 rfl
    obtain ⟨-, -, d5⟩ := hvc.c1 rfl
    have hoka := (hV a (HMEM.out a (by simp))).1
    have hokc := (hV c (HMEM.out c (by simp))).1
    have HQ := Lib.hid (show r = m.st (if a.s.size + c.s.size ≤ 2048 then push q1 (.txt (a.s ++ c.s)) else .error 43) from HR.out)
    clear hsh hvc h2 hF hg hnS
    have w1s : IntKind.i64.wrap ((a.s.size : Int) + c.s.size) = (a.s.size : Int) + c.s.size := IntWalk.i64_in _ (by omega)
    by_cases hle : a.s.size + c.s.size ≤ 2048
    · have hle1 : (a.s.size : Int) + c.s.size ≤ 2048 := by omega
      have hcat : ¬ 9223372036854775807 < (a.s.size : Int) + c.s.size := by omega
      have HQ1 := Lib.hid (show r = m.st (push q1 (.txt (a.s ++ c.s))) by rw [HQ.out, if_pos hle])
      go_wp2_with fail
      go_still_tail 12, (by kernel_rfl)
      change wpList _ _ _ _ _ (World.drewN w1 1)
      have hB := Sx.below_drewN (Below.refl w1.heap.size w1) 1
      have c2 := Sx.keep_cell hB d2
      have c5 := Sx.keep_cell hB d5
      have H3 := Lib.hid (H2.out.keep hB)
      have HF3 := Lib.hid (HF2.out.trans (Fr.of hB))
      clear hB d2 d5
      generalize World.drewN w1 1 = W at *
      go_wp2_with (go_at_call 88; with_reducible refine (unless_tt _ _).mono ?_; rintro e w5 ⟨he, hw⟩; subst he; subst hw)
      have hD := (Below.refl w5.heap.size w5).drew
      have e2 := Sx.ext_cell c2
      have e5 := Sx.ext_cell c5
      refine Mix.region (fun w' => ∃ Y, w' = Sx.ext w5 Y) 11 [0, 0, 0, 0, 0, 0, 0, 0, 0, 0, 1, 9] [true, false] (by kernel_rfl) (fun _ _ d _ _ h => by cases d <;> exact h) (by rfl) (by kernel_rfl) ⟨w5.drew, Sx.ext_of hD⟩ ?_
      simp only [Mix.selP_cons, Mix.selP_nil, Mix.sel_cons, Mix.sel_nil, Nat.reduceBEq, Nat.reduceAdd, cond_true, cond_false, List.drop_succ_cons, List.drop_zero]
      refine Mix.parts_q ?_
      repeat (go_big_quiet_step (fail))
      refine wpQuiet_nil ?_
      have H4 := Lib.hid (H3.out.keep hD)
      have HF4 := Lib.hid (HF3.out.trans (Fr.of hD))
      have HD := Lib.hid hD
      clear c2 c5 e2 e5 hD
      refine Mix.parts_e ?_
      refine Mix.eff_step (fun K hK => ?_)
      go_simp
      refine (text_any _ _).mono ?_
      rintro e w6 ⟨rfl, hb5⟩
      refine hK _ _ ⟨_, Sx.ext_of (HD.out.trans (hb5.mono HD.out.size))⟩ ?_
      clear hK K
      have HB5 := Lib.hid hb5
      clear hb5
      refine Mix.eff_nil ?_
      refine Mix.parts_n ?_
      go_wp2_with fail
      have hp := push_out (H4.out.keep HB5.out) (.txt (a.s ++ c.s))
      refine hp.mono ?_
      clear hp
      intro e w9 ho
      replace ho := ho.from (HF4.out.trans (Fr.of HB5.out)) (m := m) rfl
      have HQ2 := Lib.hid (show r = Mc.st { m with stack := q1 } (push q1 (.txt (a.s ++ c.s))) by
        rw [HQ1.out]
        cases push q1 (.txt (a.s ++ c.s)) <;> rfl)
      rw [← HQ2.out] at ho
      cases r with
      | error c =>
        obtain ⟨rfl, hx⟩ := ho
        exact ⟨rfl, rfl, hx⟩
      | ok m' =>
        obtain ⟨rfl, hx⟩ := ho
        have HX := Lib.hid hx
        clear hx
        go_wp2_with fail
        go_end0
        exact ⟨rfl, HX.out⟩
    · have hle1 : ¬ (a.s.size : Int) + c.s.size ≤ 2048 := by omega
      have HQ1 := Lib.hid (show r = .error 43 by rw [HQ.out, if_neg hle]; rfl)
      go_wp2_with fail
      go_still_tail 12, (by kernel_rfl)
      change wpList _ _ _ _ _ (World.drewN w1 1)
      have hB := Sx.below_drewN (Below.refl w1.heap.size w1) 1
      have H3 := Lib.hid (H2.out.keep hB)
      have HF3 := Lib.hid (HF2.out.trans (Fr.of hB))
      clear hB d2 d5
      generalize World.drewN w1 1 = W at *
      have hle2 : decide ((a.s.size : Int) + c.s.size ≤ 2048) = false := decide_eq_false (by omega)
      go_wp2_with (go_at_call 88; with_reducible refine (unless_ff _ _).mono ?_; rintro e w5 ⟨he, hw⟩; subst he; subst hw)
      exact ⟨rfl, Out.bad HQ1.out H3.out HF3.out rfl⟩
set_option maxHeartbeats 4000000 in
set_option maxRecDepth 100000 in
theorem texts_cut {w : World} {b : Nat} {m : Mc} {S : Nat → Prop} {x : MV} (h : MR w b m S x) (n : Int) (s : ByteArray) (hL : m.stack.length ≤ 1000) (hV : ∀ v ∈ m.stack, v.ok) {r : Except Int Mc} (hr : r = m.st ((kinds m.stack [true, false, false]).bind fun q => if 0 ≤ (q.2.getD 1 (.num 0)).n ∧ (q.2.getD 1 (.num 0)).n ≤ (q.2.getD 2 (.num 0)).n ∧ (q.2.getD 2 (.num 0)).n ≤ (q.2.getD 0 (.num 0)).s.size then push q.1 (.txt ((q.2.getD 0 (.num 0)).s.extract (q.2.getD 1 (.num 0)).n.toNat (q.2.getD 2 (.num 0)).n.toNat)) else .error 43)) :
    Calls Tryz.prog 70 #[.pointer (some ⟨b, 0, none⟩), .agg #[.int .i64 23, .int .i64 n, .string s]] w (Out w b m S r) := by
  have HR := Lib.hid hr
  obtain ⟨hA, hn, hlt⟩ := ins_start w 23 n s
  have HA := Lib.hid hA
  have HN := Lib.hid hn
  have HL := Lib.hid hlt
  have H1 := Lib.hid (h.keep hA)
  have H0 := Lib.hid h
  clear hA hn hlt h hr
  go_enter Tryz.func70, Tryz.ntmps70
  have hk := kinds_out H1.out (sg := [true, false, false]) (σ := ⟨#[116, 110, 110]⟩) rfl (by decide) hL
  have hsh := fun q h => @kinds_shape m.stack [true, false, false] q h
  generalize hkk : kinds m.stack [true, false, false] = kd at *
  have HKK := Lib.hid hkk
  clear hkk
  go_wp2_with fail
  refine hk.mono ?_
  clear hk
  intro e w1 hk
  cases kd with
  | error c =>
    obtain ⟨rfl, x', h2, hF⟩ := hk
    exact ⟨rfl, Out.bad HR.out h2 ((Fr.of HA.out).trans hF) rfl⟩
  | ok q =>
    obtain ⟨g, cap, S', x', rfl, h2, hF, hg, hnS, hvc⟩ := hk
    obtain ⟨a, c, d, hq2, -, -, -⟩ := shape3 (hsh q rfl).1
    obtain ⟨q1, q2⟩ := q
    obtain rfl : q2 = [a, c, d] := hq2
    have HMEM := Lib.hid (show ∀ v ∈ [a, c, d], v ∈ m.stack from fun v hv => by rw [(hsh _ rfl).2]; exact List.mem_append_right _ hv)
    have H2 := Lib.hid h2
    have HF2 := Lib.hid ((Fr.of HA.out).trans hF)
    obtain ⟨-, -, d2⟩ := hvc.c0 rfl
    obtain ⟨-, d4, -⟩ := hvc.c1 rfl
    obtain ⟨-, d7, -⟩ := hvc.c2 rfl
    have hoka := (hV a (HMEM.out a (by simp))).1
    have HQ := Lib.hid (show r = m.st (if 0 ≤ c.n ∧ c.n ≤ d.n ∧ d.n ≤ a.s.size then push q1 (.txt (a.s.extract c.n.toNat d.n.toNat)) else .error 43) from HR.out)
    clear hsh hvc h2 hF hg hnS
    generalize c.n = i at *
    generalize d.n = j at *
    go_wp2_with fail
    go_quiet (fail)
    have hB := Sx.below_drewN (Below.refl w1.heap.size w1) nq
    have c2 := Sx.keep_cell hB d2
    have H3 := Lib.hid (H2.out.keep hB)
    have HF3 := Lib.hid (HF2.out.trans (Fr.of hB))
    clear hB d2 d4 d7
    generalize w1.drewN nq = W at *
    by_cases hc : 0 ≤ i ∧ i ≤ j ∧ j ≤ a.s.size
    · have HQ1 := Lib.hid (show r = m.st (push q1 (.txt (a.s.extract i.toNat j.toNat))) by rw [HQ.out, if_pos hc])
      obtain ⟨p1, p2, p3⟩ := hc
      obtain ⟨k, rfl⟩ : ∃ k : Nat, i = k := ⟨i.toNat, by omega⟩
      obtain ⟨z, rfl⟩ : ∃ z : Nat, j = z := ⟨j.toNat, by omega⟩
      have p2' : k ≤ z := by omega
      have p3' : z ≤ a.s.size := by omega
      rw [Int.toNat_natCast, Int.toNat_natCast] at HQ1
      go_wp2_with (first
        | (go_at_call 88; with_reducible refine (unless_tt _ _).mono ?_; rintro e w5 ⟨he, hw⟩; subst he; subst hw)
        | (go_at_call 90; refine (text_any _ _).mono ?_; rintro e w6 ⟨he, hb5⟩; subst he; have HB5 := Lib.hid hb5; clear hb5))
      have hp := push_out (H3.out.keep HB5.out) (.txt (a.s.extract k z))
      refine hp.mono ?_
      clear hp
      intro e w9 ho
      replace ho := ho.from (HF3.out.trans (Fr.of HB5.out)) (m := m) rfl
      have HQ2 := Lib.hid (show r = Mc.st { m with stack := q1 } (push q1 (.txt (a.s.extract k z))) by
        rw [HQ1.out]
        cases push q1 (.txt (a.s.extract k z)) <;> rfl)
      rw [← HQ2.out] at ho
      cases r with
      | error c =>
        obtain ⟨rfl, hx⟩ := ho
        exact ⟨rfl, rfl, hx⟩
      | ok m' =>
        obtain ⟨rfl, hx⟩ := ho
        have HX := Lib.hid hx
        clear hx
        go_wp2_with fail
        go_end0
        exact ⟨rfl, HX.out⟩
    · have HQ1 := Lib.hid (show r = .error 43 by rw [HQ.out, if_neg hc]; rfl)
      by_cases p1 : 0 ≤ i
      · by_cases p2 : i ≤ j
        · have p3 : ¬ j ≤ (a.s.size : Int) := fun h => hc ⟨p1, p2, h⟩
          clear hc
          go_wp2_with (go_at_call 88; with_reducible refine (unless_ff _ _).mono ?_; rintro e w5 ⟨he, hw⟩; subst he; subst hw)
          exact ⟨rfl, Out.bad HQ1.out H3.out HF3.out rfl⟩
        · clear hc
          go_wp2_with (go_at_call 88; with_reducible refine (unless_ff _ _).mono ?_; rintro e w5 ⟨he, hw⟩; subst he; subst hw)
          exact ⟨rfl, Out.bad HQ1.out H3.out HF3.out rfl⟩
      · clear hc
        go_wp2_with (go_at_call 88; with_reducible refine (unless_ff _ _).mono ?_; rintro e w5 ⟨he, hw⟩; subst he; subst hw)
        exact ⟨rfl, Out.bad HQ1.out H3.out HF3.out rfl⟩
set_option maxHeartbeats 4000000 in
set_option maxRecDepth 100000 in
theorem texts_num {w : World} {b : Nat} {m : Mc} {S : Nat → Prop} {x : MV} (h : MR w b m S x) (n : Int) (s : ByteArray) (hL : m.stack.length ≤ 1000) (hV : ∀ v ∈ m.stack, v.ok) (hE : EnvS w S) {r : Except Int Mc} (hr : r = m.st ((kinds m.stack [true]).bind fun q => (push q.1 (.num ((numT (q.2.getD 0 (.num 0)).s.data.toList).getD 0))).bind fun st => push st (truth (numT (q.2.getD 0 (.num 0)).s.data.toList).isSome))) :
    Calls Tryz.prog 70 #[.pointer (some ⟨b, 0, none⟩), .agg #[.int .i64 25, .int .i64 n, .string s]] w (Out w b m S r) := by
  have HR := Lib.hid hr
  obtain ⟨hA, hn, hlt⟩ := ins_start w 25 n s
  have HA := Lib.hid hA
  have HN := Lib.hid hn
  have HL := Lib.hid hlt
  have H1 := Lib.hid (h.keep hA)
  have H0 := Lib.hid h
  clear hA hn hlt h hr
  go_enter Tryz.func70, Tryz.ntmps70
  have hk := kinds_out H1.out (sg := [true]) (σ := ⟨#[116]⟩) rfl (by decide) hL
  have hsh := fun q h => @kinds_shape m.stack [true] q h
  generalize hkk : kinds m.stack [true] = kd at *
  have HKK := Lib.hid hkk
  clear hkk
  go_wp2_with fail
  refine hk.mono ?_
  clear hk
  intro e w1 hk
  cases kd with
  | error c =>
    obtain ⟨rfl, x', h2, hF⟩ := hk
    exact ⟨rfl, Out.bad HR.out h2 ((Fr.of HA.out).trans hF) rfl⟩
  | ok q =>
    obtain ⟨g, cap, S', x', rfl, h2, hF, hg, hnS, hvc⟩ := hk
    obtain ⟨a, hq2, -⟩ := shape1 (hsh q rfl).1
    obtain ⟨q1, q2⟩ := q
    obtain rfl : q2 = [a] := hq2
    have HMEM := Lib.hid (show ∀ v ∈ [a], v ∈ m.stack from fun v hv => by rw [(hsh _ rfl).2]; exact List.mem_append_right _ hv)
    have H2 := Lib.hid h2
    have HF2 := Lib.hid ((Fr.of HA.out).trans hF)
    obtain ⟨-, -, d2⟩ := hvc.c0 rfl
    have hoka := (hV a (HMEM.out a (by simp))).1
    have hE1 := (hE.fr HF2.out).1
    have HQ := Lib.hid (show r = m.st ((push q1 (.num ((numT a.s.data.toList).getD 0))).bind fun st => push st (truth (numT a.s.data.toList).isSome)) from HR.out)
    clear hsh hvc h2 hF hg hnS
    by_cases hv : ∃ v, Lib.atoiAll a.s.data.toList = .ok v
    · obtain ⟨v, hv⟩ := hv
      have hat := atoi_ok a.s (by omega) v hv w1
      have hbd := Lib.atoiAll_bounds hv
      have hit := fun W (hE : Env W) => itoa_any v hbd.1 hbd.2 W hE
      have HNT := Lib.hid (show numT a.s.data.toList = if Lib.itoa v = a.s.data.toList then some v else none by unfold numT; rw [hv])
      have HE1 := Lib.hid hE1
      clear hv hbd hE1
      go_wp2_with fail
      refine hat.mono ?_
      clear hat
      rintro e w4 ⟨rfl, hb4⟩
      have c2 := Sx.keep_cell hb4 d2
      have H4 := Lib.hid (H2.out.keep hb4)
      have HF4 := Lib.hid (HF2.out.trans (Fr.of hb4))
      have hE4 := HE1.out.below hb4
      clear hb4 d2
      go_wp2_with fail
      have hD := (Below.refl w4.heap.size w4).drew
      have hit := hit w4.drew (hE4.below hD)
      have e2 := Sx.ext_cell c2
      refine Mix.region (fun w' => ∃ Y, w' = Sx.ext w4 Y) 12 [0, 0, 0, 0, 1, 0, 0, 0, 0, 2, 2, 2] [true, false, true] (by kernel_rfl) (fun _ _ d _ _ h => by cases d <;> exact h) (by rfl) (by kernel_rfl) ⟨w4.drew, Sx.ext_of hD⟩ ?_
      simp only [Mix.selP_cons, Mix.selP_nil, Mix.sel_cons, Mix.sel_nil, Nat.reduceBEq, Nat.reduceAdd, cond_true, cond_false, List.drop_succ_cons, List.drop_nil]
      refine Mix.parts_q ?_
      repeat (go_big_quiet_step (fail))
      refine wpQuiet_nil ?_
      have H5 := Lib.hid (H4.out.keep hD)
      have HF5 := Lib.hid (HF4.out.trans (Fr.of hD))
      have HD := Lib.hid hD
      clear c2 e2 hD hE4
      refine Mix.parts_e ?_
      refine Mix.eff_step (fun K hK => ?_)
      go_simp
      refine hit.mono ?_
      rintro e w6 ⟨rfl, hb6⟩
      refine hK _ _ ⟨_, Sx.ext_of (HD.out.trans (hb6.mono HD.out.size))⟩ ?_
      clear hK K hit
      have H6 := Lib.hid (H5.out.keep hb6)
      have HF6 := Lib.hid (HF5.out.trans (Fr.of hb6))
      clear hb6
      refine Mix.eff_nil ?_
      refine Mix.parts_q ?_
      repeat (go_big_quiet_step (fail))
      refine wpQuiet_nil ?_
      refine Mix.parts_n ?_
      by_cases he : Lib.itoa v = a.s.data.toList
      · have hq : (Lib.itoa v == a.s.toList) = true := by rw [ByteArray.toList_eq, he]; exact beq_self_eq_true _
        replace HNT := Lib.hid (show numT a.s.data.toList = some v by rw [HNT.out, if_pos he])
        clear he
        have HQ3 := Lib.hid (show r = m.st ((push q1 (.num v)).bind fun st => push st (truth true)) by rw [HQ.out, HNT.out]; rfl)
        go_wp2_with (go_at_call 91; refine (num_any _ _).mono ?_; rintro e w7 ⟨he, hb7⟩; subst he; have HB7 := Lib.hid hb7; clear hb7)
        have H7 := Lib.hid (H6.out.keep HB7.out)
        have HF7 := Lib.hid (HF6.out.trans (Fr.of HB7.out))
        have hp := push_out H7.out (.num v)
        refine hp.mono ?_
        clear hp
        intro e w8 ho
        have HB1 := Lib.hid (st_bind m (push q1 (.num v)) fun st => push st (truth true))
        replace ho := ho.from HF7.out (m := m) rfl
        cases hp1 : push q1 (.num v) with
        | error c =>
          have : Mc.st { m with stack := q1 } (push q1 (.num v)) = .error c := by rw [hp1]; rfl
          rw [this] at ho
          obtain ⟨rfl, hx⟩ := ho
          refine ⟨rfl, ?_⟩
          rw [HQ3.out, HB1.out, hp1]
          exact ⟨rfl, hx⟩
        | ok st =>
          have : Mc.st { m with stack := q1 } (push q1 (.num v)) = .ok { m with stack := st } := by rw [hp1]; rfl
          rw [this] at ho
          obtain ⟨rfl, S8, x8, h8, hF8⟩ := ho
          have H8 := Lib.hid h8
          have HF8 := Lib.hid hF8
          have HQ4 := Lib.hid (show r = Mc.st { m with stack := st } (push st (truth true)) by rw [HQ3.out, HB1.out, hp1])
          clear h8 hF8 this hp1
          go_wp2_with (go_at_call 92; refine (truth_any _ _).mono ?_; rintro e w9 ⟨he, hb9⟩; subst he; have HB9 := Lib.hid hb9; clear hb9)
          have hp := push_out (H8.out.keep HB9.out) (truth true)
          refine hp.mono ?_
          clear hp
          intro e w10 ho
          replace ho := ho.from (HF8.out.trans (Fr.of HB9.out)) (m := m) rfl
          rw [← HQ4.out] at ho
          cases r with
          | error c =>
            obtain ⟨rfl, hx⟩ := ho
            exact ⟨rfl, rfl, hx⟩
          | ok m' =>
            obtain ⟨rfl, hx⟩ := ho
            have HX := Lib.hid hx
            clear hx
            go_wp2_with fail
            go_end0
            exact ⟨rfl, HX.out⟩
      · have hq : (Lib.itoa v == a.s.toList) = false := by rw [ByteArray.toList_eq]; exact beq_eq_false_iff_ne.2 he
        replace HNT := Lib.hid (show numT a.s.data.toList = none by rw [HNT.out, if_neg he])
        clear he
        have HQ3 := Lib.hid (show r = m.st ((push q1 (.num 0)).bind fun st => push st (truth false)) by rw [HQ.out, HNT.out]; rfl)
        go_wp2_with (go_at_call 91; refine (num_any _ _).mono ?_; rintro e w7 ⟨he, hb7⟩; subst he; have HB7 := Lib.hid hb7; clear hb7)
        have H7 := Lib.hid (H6.out.keep HB7.out)
        have HF7 := Lib.hid (HF6.out.trans (Fr.of HB7.out))
        have hp := push_out H7.out (.num 0)
        refine hp.mono ?_
        clear hp
        intro e w8 ho
        have HB1 := Lib.hid (st_bind m (push q1 (.num 0)) fun st => push st (truth false))
        replace ho := ho.from HF7.out (m := m) rfl
        cases hp1 : push q1 (.num 0) with
        | error c =>
          have : Mc.st { m with stack := q1 } (push q1 (.num 0)) = .error c := by rw [hp1]; rfl
          rw [this] at ho
          obtain ⟨rfl, hx⟩ := ho
          refine ⟨rfl, ?_⟩
          rw [HQ3.out, HB1.out, hp1]
          exact ⟨rfl, hx⟩
        | ok st =>
          have : Mc.st { m with stack := q1 } (push q1 (.num 0)) = .ok { m with stack := st } := by rw [hp1]; rfl
          rw [this] at ho
          obtain ⟨rfl, S8, x8, h8, hF8⟩ := ho
          have H8 := Lib.hid h8
          have HF8 := Lib.hid hF8
          have HQ4 := Lib.hid (show r = Mc.st { m with stack := st } (push st (truth false)) by rw [HQ3.out, HB1.out, hp1])
          clear h8 hF8 this hp1
          go_wp2_with (go_at_call 92; refine (truth_any _ _).mono ?_; rintro e w9 ⟨he, hb9⟩; subst he; have HB9 := Lib.hid hb9; clear hb9)
          have hp := push_out (H8.out.keep HB9.out) (truth false)
          refine hp.mono ?_
          clear hp
          intro e w10 ho
          replace ho := ho.from (HF8.out.trans (Fr.of HB9.out)) (m := m) rfl
          rw [← HQ4.out] at ho
          cases r with
          | error c =>
            obtain ⟨rfl, hx⟩ := ho
            exact ⟨rfl, rfl, hx⟩
          | ok m' =>
            obtain ⟨rfl, hx⟩ := ho
            have HX := Lib.hid hx
            clear hx
            go_wp2_with fail
            go_end0
            exact ⟨rfl, HX.out⟩
    · have hat := atoi_bad a.s (by omega) (fun v h => hv ⟨v, h⟩) w1 hE1
      have HNT := Lib.hid (show numT a.s.data.toList = none by
        unfold numT
        split
        · rename_i v h; exact absurd ⟨v, h⟩ hv
        · rfl)
      clear hv hE1
      go_wp2_with fail
      refine hat.mono ?_
      clear hat
      rintro e w4 ⟨x0, N, rfl, -, -, hb4⟩
      have H4 := Lib.hid (H2.out.keep hb4)
      have HF4 := Lib.hid (HF2.out.trans (Fr.of hb4))
      clear hb4 d2
      go_wp2_with fail
      go_quiet (fail)
      have hB := Sx.below_drewN (Below.refl w4.heap.size w4) nq
      have H6 := Lib.hid (H4.out.keep hB)
      have HF6 := Lib.hid (HF4.out.trans (Fr.of hB))
      clear hB
      generalize w4.drewN nq = w6 at *
      have HQ3 := Lib.hid (show r = m.st ((push q1 (.num 0)).bind fun st => push st (truth false)) by rw [HQ.out, HNT.out]; rfl)
      go_wp2_with (go_at_call 91; refine (num_any _ _).mono ?_; rintro e w7 ⟨he, hb7⟩; subst he; have HB7 := Lib.hid hb7; clear hb7)
      have H7 := Lib.hid (H6.out.keep HB7.out)
      have HF7 := Lib.hid (HF6.out.trans (Fr.of HB7.out))
      have hp := push_out H7.out (.num 0)
      refine hp.mono ?_
      clear hp
      intro e w8 ho
      have HB1 := Lib.hid (st_bind m (push q1 (.num 0)) fun st => push st (truth false))
      replace ho := ho.from HF7.out (m := m) rfl
      cases hp1 : push q1 (.num 0) with
      | error c =>
        have : Mc.st { m with stack := q1 } (push q1 (.num 0)) = .error c := by rw [hp1]; rfl
        rw [this] at ho
        obtain ⟨rfl, hx⟩ := ho
        refine ⟨rfl, ?_⟩
        rw [HQ3.out, HB1.out, hp1]
        exact ⟨rfl, hx⟩
      | ok st =>
        have : Mc.st { m with stack := q1 } (push q1 (.num 0)) = .ok { m with stack := st } := by rw [hp1]; rfl
        rw [this] at ho
        obtain ⟨rfl, S8, x8, h8, hF8⟩ := ho
        have H8 := Lib.hid h8
        have HF8 := Lib.hid hF8
        have HQ4 := Lib.hid (show r = Mc.st { m with stack := st } (push st (truth false)) by rw [HQ3.out, HB1.out, hp1])
        clear h8 hF8 this hp1
        go_wp2_with (go_at_call 92; refine (truth_any _ _).mono ?_; rintro e w9 ⟨he, hb9⟩; subst he; have HB9 := Lib.hid hb9; clear hb9)
        have hp := push_out (H8.out.keep HB9.out) (truth false)
        refine hp.mono ?_
        clear hp
        intro e w10 ho
        replace ho := ho.from (HF8.out.trans (Fr.of HB9.out)) (m := m) rfl
        rw [← HQ4.out] at ho
        cases r with
        | error c =>
          obtain ⟨rfl, hx⟩ := ho
          exact ⟨rfl, rfl, hx⟩
        | ok m' =>
          obtain ⟨rfl, hx⟩ := ho
          have HX := Lib.hid hx
          clear hx
          go_wp2_with fail
          go_end0
          exact ⟨rfl, HX.out⟩
end Vm
end Go.Proofs.YtbefgplaaghlbaaGreatDoor

/-
  The machine: what goes elsewhere. (printed by gen_VmH.py)
-/
namespace Go.Proofs.YtbefgplaaghlbaaGreatDoor
open Go.RowKit Go.Shelf Go.Lib
namespace Vm
open Tr

theorem rowN_len (l : List Nat) : (rowN l).length = l.length := by simp [rowN]
theorem rowN_one (l : List Nat) : ∀ v ∈ rowN l, v.oneCell' = true := by
  intro v hv
  obtain ⟨n, _, rfl⟩ := List.mem_map.1 hv
  rfl
theorem info_int : (Tryz.prog.info? 3).map (fun i => (i.zero, i.size, i.bytes)) = some (some (.int .i64 0), 1, 8) := by kernel_rfl
/-- the calls with one more behind them: the append -/
theorem MR.appendC {w : World} {b : Nat} {m : Mc} {S : Nat → Prop} {x : MV} (h : MR w b m S x) {W2 : World} (hb : Below w.heap.size w W2) {g a : Nat} (hg : W2.heap[g]? = some (.cells #[.int .i64 (a : Int)] 3 (0, 0))) (hl : m.calls.length ≤ 1000) :
    ∃ v' w3, (Builtin.append_ #[57, 57] 57 #[x.cv, .slice (some ⟨g, 0, none⟩) 1 1]).run Tryz.prog W2 = .ok v' w3 ∧ w3.ownsRow 0 3 1 v' (m.calls ++ [a]).length (rowN (m.calls ++ [a])) ∧ W2.grownBy w3 x.cv.ownBlock ∧ (∀ k, v'.ownBlock = some k → x.cv.ownBlock = some k ∨ W2.heap.size ≤ k) ∧ ∃ sl n cap, v' = .slice sl n cap := by
  obtain ⟨i0, hi0, hz⟩ := Option.map_eq_some_iff.1 info_int
  obtain ⟨z1, z2⟩ := Prod.mk.inj hz
  obtain ⟨z2, z3⟩ := Prod.mk.inj z2
  have hown := (h.keep hb).calls
  obtain ⟨v', w3, hr, h1, h2, -, h4⟩ := run_append_own_at (P := Tryz.prog) W2 0 57 57 3 i0 _ 1 8 Tryz.underlying57 hi0 z1 z2 z3 rfl (by decide) x.cv m.calls.length _ hown ⟨g, 0, none⟩ 1 1 [.int .i64 (a : Int)] rfl (by
    have := World.news_of_block (cs := #[.int .i64 (a : Int)]) hg
    simpa using this) (by intro q hq; simp at hq; subst hq; rfl) (by unfold maxLen; omega) (by omega) (Nat.zero_le _)
  refine ⟨v', w3, hr, by rw [List.length_append]; show w3.ownsRow 0 _ 1 v' (m.calls.length + 1) ((m.calls ++ [a]).map _); rw [List.map_append]; exact h1, h2, fun k hk => ?_, ?_⟩
  · rcases h4 with h4 | h4
    · exact .inl (h4 ▸ hk)
    · rw [h4] at hk
      exact .inr (by have := Option.some.inj hk; omega)
  · rcases h1.2 with ⟨rfl, -⟩ | ⟨g', cap, cur, rfl, -⟩
    · exact ⟨_, _, _, rfl⟩
    · exact ⟨_, _, _, rfl⟩
/-- the last of the calls, to be read -/
theorem MR.lastC {w : World} {b : Nat} {m : Mc} {S : Nat → Prop} {x : MV} (h : MR w b m S x) {rest : List Nat} {a : Nat} (hst : m.calls = rest ++ [a]) :
    ∃ g cap, x.cv = .slice (some ⟨g, 0, none⟩) (rest.length + 1) cap ∧ rest.length + 1 ≤ cap ∧ w.cell? ⟨g, rest.length, none⟩ = some (.int .i64 (a : Int)) ∧ w.ownsRow 0 3 1 (.slice (some ⟨g, 0, none⟩) rest.length cap) rest.length (rowN rest) := by
  have hs := h.calls
  rw [hst, List.length_append, List.length_singleton] at hs
  rcases hs.2 with ⟨-, hn⟩ | ⟨g, cap, cur, e, hb, hg, hn, hm, hsz, htk⟩
  · omega
  · rw [e] at hs
    have hc := hs.cells (g := g) rfl
    refine ⟨g, cap, e, hn, ?_, ?_⟩
    · have h1 := hc rest.length (.int .i64 (a : Int)) (by simp [rowN])
      have hadd : (⟨g, 0, none⟩ : Addr).add rest.length = ⟨g, rest.length, none⟩ := by unfold Addr.add; split <;> simp_all
      rw [hadd] at h1
      exact h1
    · have h6 := own_cut hs (Nat.le_succ rest.length)
      rw [Nat.mul_one] at h6
      have : (rowN (rest ++ [a])).take rest.length = rowN rest := by simp [rowN]
      rw [this] at h6
      exact h6
/-- where the calls stand -/
theorem MR.cform {w : World} {b : Nat} {m : Mc} {S : Nat → Prop} {x : MV} (h : MR w b m S x) : ∃ sl cap, x.cv = .slice sl m.calls.length cap := by
  rcases h.calls.2 with ⟨e, hn⟩ | ⟨g, cap, cur, e, hb, hg, hn, hm, hs, ht⟩
  · exact ⟨none, 0, by rw [e, hn]⟩
  · exact ⟨_, cap, e⟩
set_option maxHeartbeats 4000000 in
set_option maxRecDepth 100000 in
theorem moves_halt {w : World} {b : Nat} {m : Mc} {S : Nat → Prop} {x : MV} (h : MR w b m S x) (n : Int) (s : ByteArray) {r : Except Int Mc} (hr : r = .ok { m with done := true }) :
    Calls Tryz.prog 69 #[.pointer (some ⟨b, 0, none⟩), .agg #[.int .i64 1, .int .i64 n, .string s]] w (Out w b m S r) := by
  have HR := Lib.hid hr
  obtain ⟨hA, hn, hlt⟩ := ins_start w 1 n s
  have HA := Lib.hid hA
  have HN := Lib.hid hn
  have HL := Lib.hid hlt
  have H1 := Lib.hid (h.keep hA)
  have H0 := Lib.hid h
  clear hA hn hlt h hr
  obtain ⟨-, -, c55, -⟩ := H1.out.cells4
  have z55 := H1.out.frz 55
  have HM := Lib.hid (H1.out.done true)
  have HF := Lib.hid ((Fr.of (S := S) HA.out).set (p := ⟨b, 55, none⟩) H0.out.sb (.bool true))
  go_enter Tryz.func69, Tryz.ntmps69
  go_wp2_with fail
  go_end0
  exact Out.ok HR.out HM.out HF.out
set_option maxHeartbeats 4000000 in
set_option maxRecDepth 100000 in
theorem moves_jump {w : World} {b : Nat} {m : Mc} {S : Nat → Prop} {x : MV} (h : MR w b m S x) (s : ByteArray) {k : Nat} {r : Except Int Mc} (hr : r = .ok { m with at_ := k }) :
    Calls Tryz.prog 69 #[.pointer (some ⟨b, 0, none⟩), .agg #[.int .i64 17, .int .i64 (k : Int), .string s]] w (Out w b m S r) := by
  have HR := Lib.hid hr
  obtain ⟨hA, hn, hlt⟩ := ins_start w 17 k s
  have HA := Lib.hid hA
  have HN := Lib.hid hn
  have HL := Lib.hid hlt
  have H1 := Lib.hid (h.keep hA)
  have H0 := Lib.hid h
  clear hA hn hlt h hr
  obtain ⟨c53, -, -, -⟩ := H1.out.cells4
  have k1 := (val_cells HN.out).2.1
  have z53 := H1.out.frz 53
  have HM := Lib.hid (H1.out.at_ k)
  have HF := Lib.hid ((Fr.of (S := S) HA.out).set (p := ⟨b, 53, none⟩) H0.out.sb (.int .i64 (k : Int)))
  go_enter Tryz.func69, Tryz.ntmps69
  go_wp2_with fail
  go_end0
  exact Out.ok HR.out HM.out HF.out
set_option maxHeartbeats 4000000 in
set_option maxRecDepth 100000 in
theorem moves_fail {w : World} {b : Nat} {m : Mc} {S : Nat → Prop} {x : MV} (h : MR w b m S x) (n : Int) (s : ByteArray) {r : Except Int Mc} (hr : r = .error 44) :
    Calls Tryz.prog 69 #[.pointer (some ⟨b, 0, none⟩), .agg #[.int .i64 30, .int .i64 n, .string s]] w (Out w b m S r) := by
  have HR := Lib.hid hr
  obtain ⟨hA, hn, hlt⟩ := ins_start w 30 n s
  have HA := Lib.hid hA
  have HN := Lib.hid hn
  have HL := Lib.hid hlt
  have H1 := Lib.hid (h.keep hA)
  have H0 := Lib.hid h
  clear hA hn hlt h hr
  go_enter Tryz.func69, Tryz.ntmps69
  go_wp2_with (go_at_call 88; with_reducible refine (unless_ff _ _).mono ?_; rintro e w5 ⟨he, hw⟩; subst he; subst hw)
  exact ⟨rfl, Out.bad HR.out H1.out (Fr.of HA.out) rfl⟩
set_option maxHeartbeats 4000000 in
set_option maxRecDepth 100000 in
theorem moves_zero {w : World} {b : Nat} {m : Mc} {S : Nat → Prop} {x : MV} (h : MR w b m S x) (s : ByteArray) {k : Nat} (hL : m.stack.length ≤ 1000) {r : Except Int Mc} (hr : r = (kinds m.stack [false]).bind fun q => .ok { m with stack := q.1, at_ := if (q.2.getD 0 (.num 0)).n = 0 then k else m.at_ }) :
    Calls Tryz.prog 69 #[.pointer (some ⟨b, 0, none⟩), .agg #[.int .i64 18, .int .i64 (k : Int), .string s]] w (Out w b m S r) := by
  have HR := Lib.hid hr
  obtain ⟨hA, hn, hlt⟩ := ins_start w 18 k s
  have HA := Lib.hid hA
  have HN := Lib.hid hn
  have HL := Lib.hid hlt
  have H1 := Lib.hid (h.keep hA)
  have H0 := Lib.hid h
  clear hA hn hlt h hr
  go_enter Tryz.func69, Tryz.ntmps69
  have hk := kinds_out H1.out (sg := [false]) (σ := ⟨#[110]⟩) rfl (by decide) hL
  have hsh := fun q h => @kinds_shape m.stack [false] q h
  generalize hkk : kinds m.stack [false] = kd at *
  have HKK := Lib.hid hkk
  clear hkk
  go_wp2_with fail
  refine hk.mono ?_
  clear hk
  intro e w1 hk
  cases kd with
  | error c =>
    obtain ⟨rfl, x', h2, hF⟩ := hk
    exact ⟨rfl, Out.bad HR.out h2 ((Fr.of HA.out).trans hF) rfl⟩
  | ok q =>
    obtain ⟨g, cap, S', x', rfl, h2, hF, hg, hnS, hvc⟩ := hk
    obtain ⟨a, hq2, -⟩ := shape1 (hsh q rfl).1
    obtain ⟨q1, q2⟩ := q
    obtain rfl : q2 = [a] := hq2
    have HMEM := Lib.hid (show ∀ v ∈ [a], v ∈ m.stack from fun v hv => by rw [(hsh _ rfl).2]; exact List.mem_append_right _ hv)
    have H2 := Lib.hid h2
    have HF2 := Lib.hid ((Fr.of HA.out).trans hF)
    obtain ⟨-, d1, -⟩ := hvc.c0 rfl
    have HQ := Lib.hid (show r = .ok { m with stack := q1, at_ := if a.n = 0 then k else m.at_ } from HR.out)
    have k1 := (val_cells ((hF.block _ HL.out (fun h => absurd (H0.out.hS _ h) (by omega))).trans HN.out)).2.1
    have c53 := h2.cells4.1
    have z53 := h2.frz 53
    have HM := Lib.hid (h2.at_ k)
    have HFM := Lib.hid (HF2.out.set (p := ⟨b, 53, none⟩) h2.sb (.int .i64 (k : Int)))
    clear hsh hvc h2 hF hg hnS
    by_cases ha : a.n = 0
    · have hq : (a.n == 0) = true := by rw [ha]; rfl
      have HQ1 := Lib.hid (show r = .ok { m with stack := q1, at_ := k } by rw [HQ.out, if_pos ha])
      clear ha
      go_wp2_with fail
      go_end0
      exact Out.ok HQ1.out HM.out HFM.out
    · have hq : (a.n == 0) = false := beq_eq_false_iff_ne.2 ha
      have HQ1 := Lib.hid (show r = .ok { m with stack := q1 } by rw [HQ.out, if_neg ha])
      clear ha
      go_wp2_with fail
      go_end0
      exact Out.ok HQ1.out H2.out HF2.out
set_option maxHeartbeats 4000000 in
set_option maxRecDepth 100000 in
theorem moves_call {w : World} {b : Nat} {m : Mc} {S : Nat → Prop} {x : MV} (h : MR w b m S x) (s : ByteArray) {k : Nat} {r : Except Int Mc} (hr : r = if m.calls.length < 16 then .ok { m with calls := m.calls ++ [m.at_], at_ := k } else .error 40) :
    Calls Tryz.prog 69 #[.pointer (some ⟨b, 0, none⟩), .agg #[.int .i64 19, .int .i64 (k : Int), .string s]] w (Out w b m S r) := by
  have HR := Lib.hid hr
  obtain ⟨hA, hn, hlt⟩ := ins_start w 19 k s
  have HA := Lib.hid hA
  have HN := Lib.hid hn
  have HL := Lib.hid hlt
  have H1 := Lib.hid (h.keep hA)
  have H0 := Lib.hid h
  clear hA hn hlt h hr
  obtain ⟨sl, cap, hcv⟩ := H1.out.cform
  have c4 := H1.out.cells5.2.2.2.2
  have z4 := H1.out.frz 4
  rw [hcv] at c4
  have c53 := H1.out.cells4.1
  have k1 := (val_cells HN.out).2.1
  go_enter Tryz.func69, Tryz.ntmps69
  by_cases hlc : m.calls.length < 16
  · have hlc1 : (m.calls.length : Int) < 16 := by omega
    have HQ := Lib.hid (show r = .ok { m with calls := m.calls ++ [m.at_], at_ := k } by rw [HR.out, if_pos hlc])
    have HCV := Lib.hid hcv
    clear hcv
    go_wp2_with (go_at_call 88; with_reducible refine (unless_tt _ _).mono ?_; rintro e w1 ⟨he, hw⟩; subst he; subst hw)
    generalize w.alloc (.cells #[.int .i64 19, .int .i64 (k : Int), .string s] 38) = W at *
    have hbo : x.cv.ownBlock ≠ some b := fun e => (H0.out.hc b e).2.1 rfl
    have hwo : x.cv.ownBlock ≠ some w.heap.size := fun e => absurd (H0.out.hS _ (H0.out.hc _ e).1) (by omega)
    have e4 := kr_cell c4 hbo
    have e53 := kr_cell c53 hbo
    have hbd : Below W.heap.size W (W.alloc (.cells #[.int .i64 (m.at_ : Int)] 3)).drew := ((Below.refl W.heap.size W).alloc (Nat.le_refl _) _).drew
    obtain ⟨v', w3, hr, hown, hg3, hat3, sl3, n3, cap3, hv3⟩ := H1.out.appendC hbd (g := W.heap.size) (a := m.at_) (heap_alloc_new _ _) (by omega)
    subst hv3
    rw [HCV.out] at hr hbo hwo hg3 hat3 e4 e53
    have HG3 := Lib.hid (And.intro hbd (And.intro hown (And.intro hg3 hat3)))
    have HBO := Lib.hid (And.intro hbo hwo)
    clear hown hg3 hat3 hbd hbo hwo
    refine Mix.region (fun u => ∃ Y, u = kr W (Value.ownBlock (.slice sl m.calls.length cap)) Y) 11 [0, 0, 0, 0, 0, 0, 0, 0, 0, 1, 1, 9, 9, 9] [true, false] (by kernel_rfl) (fun _ _ d _ _ h => by cases d <;> exact h) (by rfl) (by kernel_rfl) (kr_of fun _ _ _ => rfl) ?_
    simp only [Mix.selP_cons, Mix.selP_nil, Mix.sel_cons, Mix.sel_nil, Nat.reduceBEq, Nat.reduceAdd, cond_true, cond_false, List.drop_succ_cons, List.drop_zero]
    refine Mix.parts_q ?_
    repeat (go_big_quiet_step (fail))
    refine wpQuiet_nil ?_
    clear e4 e53
    refine Mix.parts_e ?_
    refine Mix.eff_step (fun K hK => ?_)
    go_simp
    refine hK _ _ (kr_of fun k hk _ => HG3.out.1.block k hk) ?_
    clear hK K
    refine Mix.eff_step (fun K hK => ?_)
    refine append_wp _ _ _ rfl rfl rfl rfl hr ?_
    refine hK _ _ (kr_of fun k hk hr => (HG3.out.2.2.1.block k (Nat.lt_of_lt_of_le hk HG3.out.1.size) fun e => hr e.symm).trans (HG3.out.1.block k hk)) ?_
    clear hK K hr
    obtain ⟨hbd, hown, hg3, hat3⟩ := HG3.out
    have hgg : W.grownBy w3 x.cv.ownBlock := by
      rw [HCV.out]
      exact ⟨hg3.os.trans hbd.os, hg3.tape.trans hbd.tape, hg3.output.trans hbd.output, Nat.le_trans hbd.size hg3.size, fun k hk hn => (hg3.block k (Nat.lt_of_lt_of_le hk hbd.size) hn).trans (hbd.block k hk)⟩
    obtain ⟨S', h7, hF⟩ := H1.out.callsTo hgg hown (fun k hk => (hat3 k hk).elim (fun h => .inl (by rw [HCV.out]; exact h)) fun h => .inr (Nat.le_trans hbd.size h))
    have hbk := (hg3.block b (Nat.lt_of_lt_of_le (H1.out.hS b H1.out.sb) hbd.size) fun e => HBO.out.1 e.symm).trans (hbd.block b (H1.out.hS b H1.out.sb))
    have hxk := (hg3.block w.heap.size (Nat.lt_of_lt_of_le HL.out hbd.size) fun e => HBO.out.2 e.symm).trans (hbd.block w.heap.size HL.out)
    have c4' := (World.cell?_of_block (w := W) (a := ⟨b, 4, none⟩) hbk).trans c4
    have z4' := (World.frozen?_of_block (w := W) (a := ⟨b, 4, none⟩) hbk).trans z4
    have hne : w.heap.size ≠ b := by have := H0.out.hS b H0.out.sb; omega
    have k1' := (World.cell?_of_block (w := w3) (a := ⟨w.heap.size, 1, none⟩) (Below.heap_setCell w3 ⟨b, 4, none⟩ (.slice sl3 n3 cap3) w.heap.size hne)).trans ((World.cell?_of_block (w := W) (a := ⟨w.heap.size, 1, none⟩) hxk).trans k1)
    have c53' := h7.cells4.1
    have z53' := h7.frz 53
    have HM := Lib.hid (h7.at_ k)
    have HFM := Lib.hid (((Fr.of HA.out).trans hF).set (p := ⟨b, 53, none⟩) h7.sb (.int .i64 (k : Int)))
    clear hbd hown hg3 hat3 hgg h7 hF c4 z4 c53 k1 hbk hxk
    refine Mix.eff_nil ?_
    refine Mix.parts_n ?_
    go_wp2_with fail
    go_end0
    exact Out.ok HQ.out HM.out HFM.out
  · have hlc1 : ¬ (m.calls.length : Int) < 16 := by omega
    have HQ := Lib.hid (show r = .error 40 by rw [HR.out, if_neg hlc])
    clear hcv
    go_wp2_with (go_at_call 88; with_reducible refine (unless_ff _ _).mono ?_; rintro e w1 ⟨he, hw⟩; subst he; subst hw)
    exact ⟨rfl, Out.bad HQ.out H1.out (Fr.of HA.out) rfl⟩
set_option maxHeartbeats 4000000 in
set_option maxRecDepth 100000 in
theorem moves_ret {w : World} {b : Nat} {m : Mc} {S : Nat → Prop} {x : MV} (h : MR w b m S x) (n : Int) (s : ByteArray) (hC : m.calls.length ≤ 1000) {r : Except Int Mc} (hr : r = match m.calls.getLast? with | none => .error 40 | some a => .ok { m with calls := m.calls.dropLast, at_ := a }) :
    Calls Tryz.prog 69 #[.pointer (some ⟨b, 0, none⟩), .agg #[.int .i64 20, .int .i64 n, .string s]] w (Out w b m S r) := by
  have HR := Lib.hid hr
  obtain ⟨hA, hn, hlt⟩ := ins_start w 20 n s
  have HA := Lib.hid hA
  have HN := Lib.hid hn
  have HL := Lib.hid hlt
  have H1 := Lib.hid (h.keep hA)
  have H0 := Lib.hid h
  clear hA hn hlt h hr
  go_enter Tryz.func69, Tryz.ntmps69
  rcases List.eq_nil_or_concat m.calls with hst | ⟨rest, a, hst⟩
  · have HQ := Lib.hid (show r = .error 40 by rw [HR.out, hst]; rfl)
    obtain ⟨sl, cap, hcv⟩ := H1.out.cform
    have c4 := H1.out.cells5.2.2.2.2
    rw [hcv, hst] at c4
    clear hcv hst
    go_wp2_with (go_at_call 88; with_reducible refine (unless_ff _ _).mono ?_; rintro e w1 ⟨he, hw⟩; subst he; subst hw)
    exact ⟨rfl, Out.bad HQ.out H1.out (Fr.of HA.out) rfl⟩
  · rw [List.concat_eq_append] at hst
    have HQ := Lib.hid (show r = .ok { m with calls := rest, at_ := a } by rw [HR.out, hst]; simp)
    obtain ⟨g, cap, hcv, hcap, d0, hown⟩ := H1.out.lastC hst
    have c4 := H1.out.cells5.2.2.2.2
    rw [hcv] at c4
    have c53 := H1.out.cells4.1
    have hrl : rest.length ≤ 1000 := by rw [hst, List.length_append] at hC; simp at hC; omega
    have hcap1 : rest.length ≤ cap := by omega
    have HCV := Lib.hid hcv
    have HOWN := Lib.hid hown
    clear hcv hst hown hC
    go_wp2_with (go_at_call 88; with_reducible refine (unless_tt _ _).mono ?_; rintro e w1 ⟨he, hw⟩; subst he; subst hw)
    generalize w.alloc (.cells #[.int .i64 20, .int .i64 n, .string s] 38) = W at *
    have hD := (Below.refl W.heap.size W).drew
    have e0 := Sx.ext_cell d0
    have e4 := Sx.ext_cell c4
    refine Mix.region (fun w' => ∃ Y, w' = Sx.ext W Y) 13 [0, 0, 0, 0, 0, 0, 0, 0, 0, 0, 0, 0, 0, 9, 9, 9] [true] (by kernel_rfl) (fun _ _ d _ _ h => by cases d <;> exact h) (by rfl) (by kernel_rfl) ⟨W.drew, Sx.ext_of hD⟩ ?_
    simp only [Mix.selP_cons, Mix.selP_nil, Mix.sel_cons, Mix.sel_nil, Nat.reduceBEq, cond_true, cond_false, List.drop_succ_cons, List.drop_zero]
    refine Mix.parts_q ?_
    repeat (go_big_quiet_step (fail))
    refine wpQuiet_nil ?_
    refine Mix.parts_n ?_
    have h2 := H1.out.keep hD
    have c53' := h2.cells4.1
    have z53' := h2.frz 53
    have h3 := h2.at_ a
    have HF3 := Lib.hid ((Fr.of (S := S) (HA.out.trans (hD.mono HA.out.size))).set (p := ⟨b, 53, none⟩) h2.sb (.int .i64 (a : Int)))
    have hown3 : (W.drew.setCell ⟨b, 53, none⟩ (.int .i64 (a : Int))).ownsRow 0 3 1 (.slice (some ⟨g, 0, none⟩) rest.length cap) rest.length (rowN rest) := own_blk HOWN.out fun k hk => Below.heap_setCell _ _ _ _ (H1.out.hc k (by rw [HCV.out]; exact hk)).2.1
    have H3 := Lib.hid (show MR (W.setCell ⟨b, 53, none⟩ (.int .i64 (a : Int))).drew b { m with at_ := a } S x ∧ (W.setCell ⟨b, 53, none⟩ (.int .i64 (a : Int))).drew.ownsRow 0 3 1 (.slice (some ⟨g, 0, none⟩) rest.length cap) rest.length (rowN rest) from And.intro h3 hown3)
    replace HF3 := Lib.hid (show Fr w (W.setCell ⟨b, 53, none⟩ (.int .i64 (a : Int))).drew S S from HF3.out)
    clear e0 e4 h2 h3 hown3 hD c53 d0 c4
    go_wp2_with fail
    generalize (W.setCell ⟨b, 53, none⟩ (.int .i64 (a : Int))).drew = W3 at *
    clear c53' z53'
    have c4 := H3.out.1.cells5.2.2.2.2
    have z4 := H3.out.1.frz 4
    rw [HCV.out] at c4
    have hD := (Below.refl W3.heap.size W3).drew
    have e4 := Sx.ext_cell c4
    refine Mix.region (fun w' => ∃ Y, w' = Sx.ext W3 Y) 12 [0, 0, 0, 0, 0, 0, 0, 0, 0, 0, 0, 0, 9, 9, 9] [true] (by kernel_rfl) (fun _ _ d _ _ h => by cases d <;> exact h) (by rfl) (by kernel_rfl) ⟨W3.drew, Sx.ext_of hD⟩ ?_
    simp only [Mix.selP_cons, Mix.selP_nil, Mix.sel_cons, Mix.sel_nil, Nat.reduceBEq, cond_true, cond_false, List.drop_succ_cons, List.drop_zero]
    refine Mix.parts_q ?_
    repeat (go_big_quiet_step (fail))
    refine wpQuiet_nil ?_
    refine Mix.parts_n ?_
    have h5 := H3.out.1.keep hD
    have c4' := h5.cells5.2.2.2.2
    have z4' := h5.frz 4
    rw [HCV.out] at c4'
    obtain ⟨S', h6, hF6⟩ := h5.callsTo (grown_self _ _) (own_blk H3.out.2 fun k hk => hD.block k (H3.out.2.lt k hk).2) (fun k hk => .inl (by rw [HCV.out]; exact hk))
    have HM := Lib.hid (And.intro h6 ((HF3.out.trans (Fr.of hD)).trans hF6))
    clear e4 h5 h6 hF6 hD c4 z4
    go_wp2_with fail
    go_end0
    exact Out.ok HQ.out HM.out.1 HM.out.2
end Vm
end Go.Proofs.YtbefgplaaghlbaaGreatDoor

/-
  The machine: what is done to files. (printed by gen_VmI.py)
-/
namespace Go.Proofs.YtbefgplaaghlbaaGreatDoor
open Go.RowKit Go.Shelf Go.Lib
namespace Vm
open Tr

/-- another tree written -/
theorem MR.outTo {w : World} {b : Nat} {m : Mc} {S : Nat → Prop} {x : MV} (h : MR w b m S x) {v : Value} {l : List F} (hv : FSo w v l S) : MR (w.setCell ⟨b, 2, none⟩ v) b { m with out := l } S { x with ov := v } ∧ Fr w (w.setCell ⟨b, 2, none⟩ v) S S := by
  have hF := (Fr.refl w S).set (p := ⟨b, 2, none⟩) h.sb v
  have hne : ∀ k, k ≠ b → (w.setCell ⟨b, 2, none⟩ v).heap[k]? = w.heap[k]? := fun k hk => Below.heap_setCell _ _ _ _ hk
  refine ⟨⟨?_, h.c16, h.sb, h.prog.fr hF, h.view.fr hF, hv.fr hF, own_blk h.stack fun k hk => hne k (h.hs k hk).2, own_blk h.calls fun k hk => hne k (h.hc k hk).2.1, h.hs, h.hc, fun k hk => by simpa using h.hS k hk⟩, hF⟩
  rw [heap_setCell_same w b 2 _ _ v h.blk]
  simp [mcells]
/-- what Put answers, in parts: the value v and the error c; files from block A on -/
structure PV (A : Nat) (X : World) (v : Value) (c : Int) (r : Except Int (List F)) : Prop where
  form : ∃ sl n cap, v = .slice sl n cap
  bad : ∀ c', r = .error c' → c = c' ∧ c ≠ 0
  ok : ∀ s, r = .ok s → c = 0 ∧ FS X v s ∧ ∀ k, v.ownBlock = some k → A ≤ k
theorem PV.keep {A : Nat} {X Y : World} {v : Value} {c : Int} {r : Except Int (List F)} (h : PV A X v c r) (hb : Below X.heap.size X Y) : PV A Y v c r :=
  ⟨h.form, h.bad, fun s hs => ⟨(h.ok s hs).1, (h.ok s hs).2.1.keep hb, (h.ok s hs).2.2⟩⟩
theorem put_err {l : List F} {f : F} {c : Int} (h : putT l f = .error c) : c ≠ 0 := by
  unfold putT at h
  split at h
  · exact make_err h
  · cases h; decide
theorem put_parts {w X : World} {l : List F} {f : F} {e : Ending} (h : MakeV w X e (putT l f)) : ∃ v c, e = .returned (.tuple #[.agg #[v], .int .i64 c]) ∧ PV w.heap.size X v c (putT l f) := by
  cases hp : putT l f with
  | error c =>
    rw [hp] at h
    exact ⟨_, c, h, ⟨_, _, _, rfl⟩, fun c' e => (by cases e; exact ⟨rfl, put_err hp⟩), fun s e => (by cases e)⟩
  | ok s =>
    rw [hp] at h
    obtain ⟨v, he, hv⟩ := h
    rcases hv with ⟨rfl, hs⟩ | ⟨g, cap, rfl, hg, hF⟩
    · exact ⟨_, 0, he, ⟨_, _, _, rfl⟩, fun c' e => (by cases e), fun s' e => (by cases e; exact ⟨rfl, .inl ⟨rfl, hs⟩, fun k hk => by cases hk⟩)⟩
    · exact ⟨_, 0, he, ⟨_, _, _, rfl⟩, fun c' e => (by cases e), fun s' e => (by cases e; exact ⟨rfl, .inr ⟨g, 0, cap, rfl, hF.fc⟩, fun k hk => by cases hk; exact hg⟩)⟩
theorem PV.mono {A B : Nat} {X : World} {v : Value} {c : Int} {r : Except Int (List F)} (h : PV A X v c r) (hB : B ≤ A) : PV B X v c r :=
  ⟨h.form, h.bad, fun s hs => ⟨(h.ok s hs).1, (h.ok s hs).2.1, fun k hk => Nat.le_trans hB ((h.ok s hs).2.2 k hk)⟩⟩
/-- a store ahead of its files -/
theorem PV.set {A g : Nat} {X : World} {v u : Value} {c : Int} {r : Except Int (List F)} (h : PV A X v c r) (hg : g < A) : PV A (X.setCell ⟨g, 0, none⟩ u) v c r :=
  ⟨h.form, h.bad, fun s hs => ⟨(h.ok s hs).1, FS.blk (h.ok s hs).2.1 (by simp) fun k hk => Below.heap_setCell _ _ _ _ (by
    have := (h.ok s hs).2.2 k hk
    show k ≠ g
    omega), (h.ok s hs).2.2⟩⟩
theorem found_st (m : Mc) (q1 : List V) (s : ByteArray) (is : Bool) : Mc.st { m with stack := q1 } (found q1 s is) = m.st (found q1 s is) := by
  cases found q1 s is <;> rfl
set_option maxHeartbeats 4000000 in
set_option maxRecDepth 100000 in
theorem files_count {w : World} {b : Nat} {m : Mc} {S : Nat → Prop} {x : MV} (h : MR w b m S x) (n : Int) (s : ByteArray) {r : Except Int Mc} (hr : r = m.st (push m.stack (.num m.view.length))) :
    Calls Tryz.prog 71 #[.pointer (some ⟨b, 0, none⟩), .agg #[.int .i64 27, .int .i64 n, .string s]] w (Out w b m S r) := by
  have HR := Lib.hid hr
  obtain ⟨hA, hn, hlt⟩ := ins_start w 27 n s
  have HA := Lib.hid hA
  have HN := Lib.hid hn
  have HL := Lib.hid hlt
  have H1 := Lib.hid (h.keep hA)
  have H0 := Lib.hid h
  clear hA hn hlt h hr
  obtain ⟨sl, cap, hvv⟩ := H1.out.view.1.len
  have c1 := H1.out.cells5.2.1
  rw [hvv] at c1
  clear hvv
  go_enter Tryz.func71, Tryz.ntmps71
  go_wp2_with (go_at_call 91; refine (num_any _ _).mono ?_; rintro e w1 ⟨he, hb1⟩; subst he)
  have hF := Fr.of (S := S) (HA.out.trans (hb1.mono HA.out.size))
  refine (push_out (H1.out.keep hb1) (.num m.view.length)).mono ?_
  intro e w2 ho
  replace ho := ho.from hF (m := m) rfl
  rw [← HR.out] at ho
  clear hF hb1 c1
  cases r with
  | error c =>
    obtain ⟨rfl, hx⟩ := ho
    exact ⟨rfl, rfl, hx⟩
  | ok m' =>
    obtain ⟨rfl, hx⟩ := ho
    have HX := Lib.hid hx
    clear hx
    go_wp2_with fail
    go_end0
    exact ⟨rfl, HX.out⟩
set_option maxHeartbeats 4000000 in
set_option maxRecDepth 100000 in
theorem files_path {w : World} {b : Nat} {m : Mc} {S : Nat → Prop} {x : MV} (h : MR w b m S x) (n : Int) (s : ByteArray) (hL : m.stack.length ≤ 1000) {r : Except Int Mc} (hr : r = m.st ((kinds m.stack [false]).bind fun q => if 0 ≤ (q.2.getD 0 (.num 0)).n ∧ (q.2.getD 0 (.num 0)).n < m.view.length then found q.1 ((m.view.map (·.1)).getD (q.2.getD 0 (.num 0)).n.toNat ⟨#[]⟩) true else found q.1 ⟨#[]⟩ false)) :
    Calls Tryz.prog 71 #[.pointer (some ⟨b, 0, none⟩), .agg #[.int .i64 28, .int .i64 n, .string s]] w (Out w b m S r) := by
  have HR := Lib.hid hr
  obtain ⟨hA, hn, hlt⟩ := ins_start w 28 n s
  have HA := Lib.hid hA
  have HN := Lib.hid hn
  have HL := Lib.hid hlt
  have H1 := Lib.hid (h.keep hA)
  have H0 := Lib.hid h
  clear hA hn hlt h hr
  go_enter Tryz.func71, Tryz.ntmps71
  have hk := kinds_out H1.out (sg := [false]) (σ := ⟨#[110]⟩) rfl (by decide) hL
  have hsh := fun q h => @kinds_shape m.stack [false] q h
  generalize hkk : kinds m.stack [false] = kd at *
  have HKK := Lib.hid hkk
  clear hkk
  go_wp2_with fail
  refine hk.mono ?_
  clear hk
  intro e w1 hk
  cases kd with
  | error c =>
    obtain ⟨rfl, x', h2, hF⟩ := hk
    exact ⟨rfl, Out.bad HR.out h2 ((Fr.of HA.out).trans hF) rfl⟩
  | ok q =>
    obtain ⟨g, cap, S', x', rfl, h2, hF, hg, hnS, hvc⟩ := hk
    obtain ⟨a, hq2, -⟩ := shape1 (hsh q rfl).1
    obtain ⟨q1, q2⟩ := q
    obtain rfl : q2 = [a] := hq2
    have HMEM := Lib.hid (show ∀ v ∈ [a], v ∈ m.stack from fun v hv => by rw [(hsh _ rfl).2]; exact List.mem_append_right _ hv)
    have H2 := Lib.hid h2
    have HF2 := Lib.hid ((Fr.of HA.out).trans hF)
    obtain ⟨-, d1, -⟩ := hvc.c0 rfl
    obtain ⟨sl, vcap, hvv, hvf⟩ := h2.view.1.form
    have c1 := h2.cells5.2.1
    rw [hvv] at c1
    have HVF := Lib.hid hvf
    have HQ := Lib.hid (show r = m.st (if 0 ≤ a.n ∧ a.n < m.view.length then found q1 ((m.view.map (·.1)).getD a.n.toNat ⟨#[]⟩) true else found q1 ⟨#[]⟩ false) from HR.out)
    clear hvv hvf
    clear hsh hvc h2 hF hg hnS
    generalize a.n = i at *
    by_cases hi : 0 ≤ i ∧ i < m.view.length
    · obtain ⟨p1, p2⟩ := hi
      obtain ⟨k, rfl⟩ : ∃ k : Nat, i = k := ⟨i.toNat, by omega⟩
      have hk : k < m.view.length := by omega
      obtain ⟨f, hf⟩ : ∃ f, m.view[k]? = some f := ⟨m.view[k], List.getElem?_eq_getElem hk⟩
      have HQ1 := Lib.hid (show r = m.st (found q1 f.1 true) by
        rw [HQ.out, if_pos ⟨p1, p2⟩, Int.toNat_natCast]
        have : (m.view.map (·.1)).getD k ⟨#[]⟩ = f.1 := by simp [List.getD, hf]
        rw [this])
      obtain ⟨g', o', rfl, hg', f0, -⟩ := HVF.out k f hf
      have f0' : w1.cell? ⟨g', o' + k * 2, none⟩ = some (.string f.1) := f0
      clear hf f0
      go_wp2_with fail
      have hp := found_out (H2.out) f.1 true
      refine hp.mono ?_
      clear hp
      intro e w9 ho
      replace ho := ho.from (HF2.out) (m := m) rfl
      have HQ2 := Lib.hid (show r = Mc.st { m with stack := q1 } (found q1 f.1 true) by
        rw [HQ1.out, found_st])
      rw [← HQ2.out] at ho
      cases r with
      | error c =>
        obtain ⟨rfl, hx⟩ := ho
        exact ⟨rfl, rfl, hx⟩
      | ok m' =>
        obtain ⟨rfl, hx⟩ := ho
        have HX := Lib.hid hx
        clear hx
        go_wp2_with fail
        go_end0
        exact ⟨rfl, HX.out⟩
    · have HQ1 := Lib.hid (show r = m.st (found q1 ⟨#[]⟩ false) by rw [HQ.out, if_neg hi])
      by_cases p1 : 0 ≤ i
      · have p2 : ¬ i < (m.view.length : Int) := fun h => hi ⟨p1, h⟩
        clear hi
        go_wp2_with fail
        have hp := found_out (H2.out) ⟨#[]⟩ false
        refine hp.mono ?_
        clear hp
        intro e w9 ho
        replace ho := ho.from (HF2.out) (m := m) rfl
        have HQ2 := Lib.hid (show r = Mc.st { m with stack := q1 } (found q1 ⟨#[]⟩ false) by
          rw [HQ1.out, found_st])
        rw [← HQ2.out] at ho
        cases r with
        | error c =>
          obtain ⟨rfl, hx⟩ := ho
          exact ⟨rfl, rfl, hx⟩
        | ok m' =>
          obtain ⟨rfl, hx⟩ := ho
          have HX := Lib.hid hx
          clear hx
          go_wp2_with fail
          go_end0
          exact ⟨rfl, HX.out⟩
      · clear hi
        go_wp2_with fail
        have hp := found_out (H2.out) ⟨#[]⟩ false
        refine hp.mono ?_
        clear hp
        intro e w9 ho
        replace ho := ho.from (HF2.out) (m := m) rfl
        have HQ2 := Lib.hid (show r = Mc.st { m with stack := q1 } (found q1 ⟨#[]⟩ false) by
          rw [HQ1.out, found_st])
        rw [← HQ2.out] at ho
        cases r with
        | error c =>
          obtain ⟨rfl, hx⟩ := ho
          exact ⟨rfl, rfl, hx⟩
        | ok m' =>
          obtain ⟨rfl, hx⟩ := ho
          have HX := Lib.hid hx
          clear hx
          go_wp2_with fail
          go_end0
          exact ⟨rfl, HX.out⟩
set_option maxHeartbeats 4000000 in
set_option maxRecDepth 100000 in
theorem files_read {w : World} {b : Nat} {m : Mc} {S : Nat → Prop} {x : MV} (h : MR w b m S x) (n : Int) (s : ByteArray) (hL : m.stack.length ≤ 1000) (hG : goodT m.view = true) {r : Except Int Mc} (hr : r = m.st ((kinds m.stack [true]).bind fun q => found q.1 ((getT m.view (q.2.getD 0 (.num 0)).s.data.toList).getD ⟨#[]⟩) (getT m.view (q.2.getD 0 (.num 0)).s.data.toList).isSome)) :
    Calls Tryz.prog 71 #[.pointer (some ⟨b, 0, none⟩), .agg #[.int .i64 26, .int .i64 n, .string s]] w (Out w b m S r) := by
  have HR := Lib.hid hr
  obtain ⟨hA, hn, hlt⟩ := ins_start w 26 n s
  have HA := Lib.hid hA
  have HN := Lib.hid hn
  have HL := Lib.hid hlt
  have H1 := Lib.hid (h.keep hA)
  have H0 := Lib.hid h
  clear hA hn hlt h hr
  go_enter Tryz.func71, Tryz.ntmps71
  have hk := kinds_out H1.out (sg := [true]) (σ := ⟨#[116]⟩) rfl (by decide) hL
  have hsh := fun q h => @kinds_shape m.stack [true] q h
  generalize hkk : kinds m.stack [true] = kd at *
  have HKK := Lib.hid hkk
  clear hkk
  go_wp2_with fail
  refine hk.mono ?_
  clear hk
  intro e w1 hk
  cases kd with
  | error c =>
    obtain ⟨rfl, x', h2, hF⟩ := hk
    exact ⟨rfl, Out.bad HR.out h2 ((Fr.of HA.out).trans hF) rfl⟩
  | ok q =>
    obtain ⟨g, cap, S', x', rfl, h2, hF, hg, hnS, hvc⟩ := hk
    obtain ⟨a, hq2, -⟩ := shape1 (hsh q rfl).1
    obtain ⟨q1, q2⟩ := q
    obtain rfl : q2 = [a] := hq2
    have HMEM := Lib.hid (show ∀ v ∈ [a], v ∈ m.stack from fun v hv => by rw [(hsh _ rfl).2]; exact List.mem_append_right _ hv)
    have H2 := Lib.hid h2
    have HF2 := Lib.hid ((Fr.of HA.out).trans hF)
    obtain ⟨-, -, d2⟩ := hvc.c0 rfl
    obtain ⟨sl, vcap, hvv⟩ := h2.view.1.len
    have c1 := h2.cells5.2.1
    have hget := fun W hB => get_any a.s m.view x'.vv W (h2.view.1.keep (w' := W) hB) (good_srt hG) (by have := (make_good (good_make hG)).2.1; omega)
    rw [hvv] at c1 hget
    have HQ := Lib.hid (show r = m.st (found q1 ((getT m.view a.s.data.toList).getD ⟨#[]⟩) (getT m.view a.s.data.toList).isSome) from HR.out)
    generalize (getT m.view a.s.data.toList).getD ⟨#[]⟩ = t at *
    generalize (getT m.view a.s.data.toList).isSome = is at *
    clear hvv
    clear hsh hvc h2 hF hg hnS
    go_wp2_with fail
    have hD := (Below.refl w1.heap.size w1).drew
    have e1 := Sx.ext_cell c1
    have e2 := Sx.ext_cell d2
    refine Mix.region (fun w' => ∃ Y, w' = Sx.ext w1 Y) 14 [0, 0, 0, 0, 0, 0, 0, 0, 1, 2, 2, 2, 2, 2] [true, false, true] (by kernel_rfl) (fun _ _ d _ _ h => by cases d <;> exact h) (by rfl) (by kernel_rfl) ⟨w1.drew, Sx.ext_of hD⟩ ?_
    simp only [Mix.selP_cons, Mix.selP_nil, Mix.sel_cons, Mix.sel_nil, Nat.reduceBEq, Nat.reduceAdd, cond_true, cond_false, List.drop_succ_cons, List.drop_nil]
    refine Mix.parts_q ?_
    repeat (go_big_quiet_step (fail))
    refine wpQuiet_nil ?_
    have HD := Lib.hid hD
    clear e1 e2 c1 d2 hD
    refine Mix.parts_e ?_
    refine Mix.eff_step (fun K hK => ?_)
    go_simp
    refine (hget _ HD.out).mono ?_
    rintro e w6 ⟨rfl, hb6⟩
    refine hK _ _ ⟨_, Sx.ext_of (HD.out.trans (hb6.mono HD.out.size))⟩ ?_
    clear hK K hget
    have H6 := Lib.hid ((H2.out.keep HD.out).keep hb6)
    have HF6 := Lib.hid ((HF2.out.trans (Fr.of HD.out)).trans (Fr.of hb6))
    clear hb6
    refine Mix.eff_nil ?_
    refine Mix.parts_q ?_
    repeat (go_big_quiet_step (fail))
    refine wpQuiet_nil ?_
    refine Mix.parts_n ?_
    go_wp2_with fail
    have hp := found_out (H6.out) t is
    refine hp.mono ?_
    clear hp
    intro e w9 ho
    replace ho := ho.from (HF6.out) (m := m) rfl
    have HQ2 := Lib.hid (show r = Mc.st { m with stack := q1 } (found q1 t is) by
      rw [HQ.out, found_st])
    rw [← HQ2.out] at ho
    cases r with
    | error c =>
      obtain ⟨rfl, hx⟩ := ho
      exact ⟨rfl, rfl, hx⟩
    | ok m' =>
      obtain ⟨rfl, hx⟩ := ho
      have HX := Lib.hid hx
      clear hx
      go_wp2_with fail
      go_end0
      exact ⟨rfl, HX.out⟩
set_option maxHeartbeats 4000000 in
set_option maxRecDepth 100000 in
theorem files_write {w : World} {b : Nat} {m : Mc} {S : Nat → Prop} {x : MV} (h : MR w b m S x) (n : Int) (s : ByteArray) (hL : m.stack.length ≤ 1000) (hV : ∀ v ∈ m.stack, v.ok) (hE : EnvS w S) (hO : (∀ f ∈ m.out, f.1.size ≤ 1000000) ∧ m.out.length ≤ 1000000) {r : Except Int Mc} (hr : r = (kinds m.stack [true, true]).bind fun q => (putT m.out ((q.2.getD 0 (.num 0)).s, (q.2.getD 1 (.num 0)).s)).bind fun o => .ok { m with stack := q.1, out := o }) :
    Calls Tryz.prog 71 #[.pointer (some ⟨b, 0, none⟩), .agg #[.int .i64 29, .int .i64 n, .string s]] w (Out w b m S r) := by
  have HR := Lib.hid hr
  obtain ⟨hA, hn, hlt⟩ := ins_start w 29 n s
  have HA := Lib.hid hA
  have HN := Lib.hid hn
  have HL := Lib.hid hlt
  have H1 := Lib.hid (h.keep hA)
  have H0 := Lib.hid h
  clear hA hn hlt h hr
  go_enter Tryz.func71, Tryz.ntmps71
  have hk := kinds_out H1.out (sg := [true, true]) (σ := ⟨#[116, 116]⟩) rfl (by decide) hL
  have hsh := fun q h => @kinds_shape m.stack [true, true] q h
  generalize hkk : kinds m.stack [true, true] = kd at *
  have HKK := Lib.hid hkk
  clear hkk
  go_wp2_with fail
  refine hk.mono ?_
  clear hk
  intro e w1 hk
  cases kd with
  | error c =>
    obtain ⟨rfl, x', h2, hF⟩ := hk
    exact ⟨rfl, Out.bad HR.out h2 ((Fr.of HA.out).trans hF) rfl⟩
  | ok q =>
    obtain ⟨g, cap, S', x', rfl, h2, hF, hg, hnS, hvc⟩ := hk
    obtain ⟨a, c, hq2, -, -⟩ := shape2 (hsh q rfl).1
    obtain ⟨q1, q2⟩ := q
    obtain rfl : q2 = [a, c] := hq2
    have HMEM := Lib.hid (show ∀ v ∈ [a, c], v ∈ m.stack from fun v hv => by rw [(hsh _ rfl).2]; exact List.mem_append_right _ hv)
    have H2 := Lib.hid h2
    have HF2 := Lib.hid ((Fr.of HA.out).trans hF)
    obtain ⟨-, -, d2⟩ := hvc.c0 rfl
    obtain ⟨-, -, d5⟩ := hvc.c1 rfl
    have hoka := (hV a (HMEM.out a (by simp))).1
    obtain ⟨sl, vcap, hov⟩ := h2.out.1.len
    have c2 := h2.cells5.2.2.1
    have hput := fun W hB => put_any m.out (a.s, c.s) x'.ov W ((hE.fr HF2.out).1.below hB) (h2.out.1.keep (w' := W) hB) hO.1 hO.2 (by show a.s.size ≤ _; omega)
    rw [hov] at c2 hput
    unfold PutOut at hput
    have HQ := Lib.hid (show r = (putT m.out (a.s, c.s)).bind fun o => .ok { m with stack := q1, out := o } from HR.out)
    clear hov hoka
    clear hsh hvc h2 hF hg hnS
    go_wp2_with fail
    have hD := (Below.refl w1.heap.size w1).drew
    have e2 := Sx.ext_cell c2
    have e3 := Sx.ext_cell d2
    have e5 := Sx.ext_cell d5
    refine Mix.plan_region (fun u => ∃ Y, u = Sx.ext w1 Y) 20 (.q [0, 1, 2, 3, 4, 5, 6, 7, 8, 9, 10, 11] (.two 12 (.two 13 (.q [14, 15, 16] (.one 17 (.one 18 (.one 19 .done)))) 17 (.one 13 (.q [14, 15, 16] (.one 18 (.one 19 .done))))) 17 (.one 12 (.one 13 (.q [14, 15, 16] (.one 18 (.one 19 .done))))))) (by kernel_rfl) (fun _ _ d _ _ h => by cases d <;> exact h) (by kernel_rfl) ⟨w1.drew, Sx.ext_of hD⟩ ?_
    refine Mix.plan_q (by simp only [Mix.pick, Mix.nth]; rfl) ?_
    repeat (go_big_quiet_step (fail))
    refine wpQuiet_nil ?_
    clear e2 e3 e5 c2 d2 d5
    refine Mix.plan_two (by simp only [Mix.nth]; rfl) (by simp only [Mix.nth]; rfl) (fun K hK => ?_) (fun K hK => ?_)
    · go_simp
      refine hK _ _ ⟨_, Sx.ext_of hD⟩ ?_
      clear hK K
      refine Mix.plan_two (by simp only [Mix.nth]; rfl) (by simp only [Mix.nth]; rfl) (fun K hK => ?_) (fun K hK => ?_)
      · go_simp
        refine (hput _ hD).mono ?_
        rintro e w6 ⟨hb6, hv6⟩
        obtain ⟨v6, c6, rfl, hr6⟩ := put_parts hv6
        obtain ⟨sl6, n6, cap6, rfl⟩ := hr6.form
        have hB6 : Below w1.heap.size w1 w6 := hD.trans (hb6.mono hD.size)
        refine hK _ _ ⟨_, Sx.ext_of hB6⟩ ?_
        clear hK K
        have HA9 := Lib.hid (show Below w1.heap.size w1 (w6.alloc (.cells #[.slice sl6 n6 cap6] 25)) from hB6.alloc hB6.size _)
        have HN9 := Lib.hid (heap_alloc_new w6 (.cells #[.slice sl6 n6 cap6] 25))
        have HR9 := Lib.hid ((hr6.keep ((Below.refl w6.heap.size w6).alloc (Nat.le_refl _) (.cells #[.slice sl6 n6 cap6] 25))).mono (show w1.heap.size ≤ w1.drew.heap.size from Nat.le_refl _))
        have HD2 := Lib.hid (show Below w1.heap.size w1 (w6.alloc (.cells #[.slice none 0 0] 25)) from hB6.alloc hB6.size _)
        clear hb6 hv6 hr6 hB6 hput hD
        refine Mix.plan_q (by simp only [Mix.pick, Mix.nth]; rfl) ?_
        repeat (go_big_quiet_step (fail))
        refine wpQuiet_nil ?_
        refine Mix.plan_one (by simp only [Mix.nth]; rfl) (fun K hK => ?_)
        go_simp
        refine hK _ _ ⟨_, Sx.ext_of HD2.out⟩ ?_
        clear hK K
        refine Mix.plan_one (by simp only [Mix.nth]; rfl) (fun K hK => ?_)
        go_simp
        refine hK _ _ ⟨_, Sx.ext_of HA9.out⟩ ?_
        clear hK K
        refine Mix.plan_one (by simp only [Mix.nth]; rfl) (fun K hK => ?_)
        go_simp
        refine hK _ _ ⟨_, Sx.ext_of HA9.out⟩ ?_
        clear hK K
        refine Mix.plan_done ?_
        simp only [List.drop_succ_cons, List.drop_nil]
        clear HD2
        generalize w6.alloc (.cells #[.slice sl6 n6 cap6] 25) = W9 at *
        generalize w6.heap.size = A9 at *
        by_cases hc0 : c6 = 0
        · have hq : (c6 == 0) = true := by rw [hc0]; rfl
          obtain ⟨o, ho6⟩ : ∃ o, putT m.out (a.s, c.s) = .ok o := by
            cases hp : putT m.out (a.s, c.s) with
            | error c' => exact absurd hc0 (HR9.out.bad c' hp).2
            | ok o => exact ⟨o, rfl⟩
          have HQ1 := Lib.hid (show r = .ok { m with stack := q1, out := o } by rw [HQ.out, ho6]; rfl)
          obtain ⟨-, hFS, hown⟩ := HR9.out.ok o ho6
          have hFSo : FSo W9 (.slice sl6 n6 cap6) o S' := ⟨hFS, fun k hk => ⟨fun h1 => absurd (H2.out.hS _ h1) (by have := hown k hk; omega), by
            rcases hFS with ⟨e, -⟩ | ⟨g9, o9, c9, e, h9, -⟩
            · rw [e] at hk; cases hk
            · rw [e] at hk; cases hk; exact h9⟩⟩
          have h9 := H2.out.keep HA9.out
          obtain ⟨h10, hF10⟩ := h9.outTo hFSo
          have c2 := h9.cells5.2.2.1
          have z2 := h9.frz 2
          obtain ⟨sl7, vcap7, hov⟩ := h9.out.1.len
          rw [hov] at c2
          have k9 := (blk_cell HN9.out).1
          have HM := Lib.hid (And.intro h10 ((HF2.out.trans (Fr.of HA9.out)).trans hF10))
          clear hFS hown hFSo h9 h10 hF10 hov ho6 hc0
          go_wp2_with (go_at_call 88; with_reducible refine (unless_tt _ _).mono ?_; rintro e w11 ⟨he, hw⟩; subst he; subst hw)
          go_end0
          exact Out.ok HQ1.out HM.out.1 HM.out.2
        · have hq : (c6 == 0) = false := beq_eq_false_iff_ne.2 hc0
          have hp : putT m.out (a.s, c.s) = .error c6 := by
            cases hp : putT m.out (a.s, c.s) with
            | error c' => rw [(HR9.out.bad c' hp).1]
            | ok o => exact absurd (HR9.out.ok o hp).1 hc0
          have HQ1 := Lib.hid (show r = .error c6 by rw [HQ.out, hp]; rfl)
          have HM := Lib.hid (And.intro (H2.out.keep HA9.out) (HF2.out.trans (Fr.of HA9.out)))
          clear hp hc0
          go_wp2_with (go_at_call 88; with_reducible refine (unless_ff _ _).mono ?_; rintro e w11 ⟨he, hw⟩; subst he; subst hw)
          exact ⟨rfl, Out.bad HQ1.out HM.out.1 HM.out.2 rfl⟩
      · go_simp
        have hD2 : Below w1.heap.size w1 (w1.alloc (.cells #[.slice none 0 0] 25)).drew := ((Below.refl w1.heap.size w1).alloc (Nat.le_refl _) _).drew
        refine hK _ _ ⟨_, Sx.ext_of hD2⟩ ?_
        clear hK K
        refine Mix.plan_one (by simp only [Mix.nth]; rfl) (fun K hK => ?_)
        go_simp
        refine (hput _ hD2).mono ?_
        rintro e w6 ⟨hb6, hv6⟩
        obtain ⟨v6, c6, rfl, hr6⟩ := put_parts hv6
        obtain ⟨sl6, n6, cap6, rfl⟩ := hr6.form
        have hB6 : Below w1.heap.size w1 w6 := hD2.trans (hb6.mono hD2.size)
        refine hK _ _ ⟨_, Sx.ext_of hB6⟩ ?_
        clear hK K
        have hsz : (w1.alloc (.cells #[.slice none 0 0] 25)).drew.heap.size = w1.heap.size + 1 := by
          show (w1.alloc (.cells #[.slice none 0 0] 25)).heap.size = _
          simp
        have hn6 : w6.heap[w1.heap.size]? = some (.cells #[.slice none 0 0] 25 (0, 0)) := (hb6.block w1.heap.size (by omega)).trans (heap_alloc_new w1 _)
        have HA9 := Lib.hid (show Below w1.heap.size w1 (w6.setCell ⟨w1.heap.size, 0, none⟩ (.slice sl6 n6 cap6)) from hB6.setCell (p := ⟨w1.heap.size, 0, none⟩) (Nat.le_refl _) _)
        have HN9 := Lib.hid (show (w6.setCell ⟨w1.heap.size, 0, none⟩ (.slice sl6 n6 cap6)).heap[w1.heap.size]? = some (.cells #[.slice sl6 n6 cap6] 25 (0, 0)) from heap_setCell_same w6 w1.heap.size 0 _ _ _ hn6)
        have HR9 := Lib.hid ((hr6.set (g := w1.heap.size) (u := .slice sl6 n6 cap6) (by omega)).mono (show w1.heap.size ≤ _ by omega))
        have k6 := (blk_cell hn6).1
        have z6 := (blk_cell hn6).2
        clear hb6 hv6 hr6 hB6 hput hD hD2 hsz hn6
        refine Mix.plan_q (by simp only [Mix.pick, Mix.nth]; rfl) ?_
        repeat (go_big_quiet_step (fail))
        refine wpQuiet_nil ?_
        refine Mix.plan_one (by simp only [Mix.nth]; rfl) (fun K hK => ?_)
        go_simp
        refine hK _ _ ⟨_, Sx.ext_of HA9.out⟩ ?_
        clear hK K
        refine Mix.plan_one (by simp only [Mix.nth]; rfl) (fun K hK => ?_)
        go_simp
        refine hK _ _ ⟨_, Sx.ext_of HA9.out⟩ ?_
        clear hK K
        refine Mix.plan_done ?_
        simp only [List.drop_succ_cons, List.drop_nil]
        clear k6 z6
        generalize w6.setCell ⟨w1.heap.size, 0, none⟩ (.slice sl6 n6 cap6) = W9 at *
        by_cases hc0 : c6 = 0
        · have hq : (c6 == 0) = true := by rw [hc0]; rfl
          obtain ⟨o, ho6⟩ : ∃ o, putT m.out (a.s, c.s) = .ok o := by
            cases hp : putT m.out (a.s, c.s) with
            | error c' => exact absurd hc0 (HR9.out.bad c' hp).2
            | ok o => exact ⟨o, rfl⟩
          have HQ1 := Lib.hid (show r = .ok { m with stack := q1, out := o } by rw [HQ.out, ho6]; rfl)
          obtain ⟨-, hFS, hown⟩ := HR9.out.ok o ho6
          have hFSo : FSo W9 (.slice sl6 n6 cap6) o S' := ⟨hFS, fun k hk => ⟨fun h1 => absurd (H2.out.hS _ h1) (by have := hown k hk; omega), by
            rcases hFS with ⟨e, -⟩ | ⟨g9, o9, c9, e, h9, -⟩
            · rw [e] at hk; cases hk
            · rw [e] at hk; cases hk; exact h9⟩⟩
          have h9 := H2.out.keep HA9.out
          obtain ⟨h10, hF10⟩ := h9.outTo hFSo
          have c2 := h9.cells5.2.2.1
          have z2 := h9.frz 2
          obtain ⟨sl7, vcap7, hov⟩ := h9.out.1.len
          rw [hov] at c2
          have k9 := (blk_cell HN9.out).1
          have HM := Lib.hid (And.intro h10 ((HF2.out.trans (Fr.of HA9.out)).trans hF10))
          clear hFS hown hFSo h9 h10 hF10 hov ho6 hc0
          go_wp2_with (go_at_call 88; with_reducible refine (unless_tt _ _).mono ?_; rintro e w11 ⟨he, hw⟩; subst he; subst hw)
          go_end0
          exact Out.ok HQ1.out HM.out.1 HM.out.2
        · have hq : (c6 == 0) = false := beq_eq_false_iff_ne.2 hc0
          have hp : putT m.out (a.s, c.s) = .error c6 := by
            cases hp : putT m.out (a.s, c.s) with
            | error c' => rw [(HR9.out.bad c' hp).1]
            | ok o => exact absurd (HR9.out.ok o hp).1 hc0
          have HQ1 := Lib.hid (show r = .error c6 by rw [HQ.out, hp]; rfl)
          have HM := Lib.hid (And.intro (H2.out.keep HA9.out) (HF2.out.trans (Fr.of HA9.out)))
          clear hp hc0
          go_wp2_with (go_at_call 88; with_reducible refine (unless_ff _ _).mono ?_; rintro e w11 ⟨he, hw⟩; subst he; subst hw)
          exact ⟨rfl, Out.bad HQ1.out HM.out.1 HM.out.2 rfl⟩
    · go_simp
      have hD2 : Below w1.heap.size w1 (w1.alloc (.cells #[.slice none 0 0] 25)).drew := ((Below.refl w1.heap.size w1).alloc (Nat.le_refl _) _).drew
      refine hK _ _ ⟨_, Sx.ext_of hD2⟩ ?_
      clear hK K
      refine Mix.plan_one (by simp only [Mix.nth]; rfl) (fun K hK => ?_)
      go_simp
      refine hK _ _ ⟨_, Sx.ext_of hD2⟩ ?_
      clear hK K
      refine Mix.plan_one (by simp only [Mix.nth]; rfl) (fun K hK => ?_)
      go_simp
      refine (hput _ hD2).mono ?_
      rintro e w6 ⟨hb6, hv6⟩
      obtain ⟨v6, c6, rfl, hr6⟩ := put_parts hv6
      obtain ⟨sl6, n6, cap6, rfl⟩ := hr6.form
      have hB6 : Below w1.heap.size w1 w6 := hD2.trans (hb6.mono hD2.size)
      refine hK _ _ ⟨_, Sx.ext_of hB6⟩ ?_
      clear hK K
      have hsz : (w1.alloc (.cells #[.slice none 0 0] 25)).drew.heap.size = w1.heap.size + 1 := by
        show (w1.alloc (.cells #[.slice none 0 0] 25)).heap.size = _
        simp
      have hn6 : w6.heap[w1.heap.size]? = some (.cells #[.slice none 0 0] 25 (0, 0)) := (hb6.block w1.heap.size (by omega)).trans (heap_alloc_new w1 _)
      have HA9 := Lib.hid (show Below w1.heap.size w1 (w6.setCell ⟨w1.heap.size, 0, none⟩ (.slice sl6 n6 cap6)) from hB6.setCell (p := ⟨w1.heap.size, 0, none⟩) (Nat.le_refl _) _)
      have HN9 := Lib.hid (show (w6.setCell ⟨w1.heap.size, 0, none⟩ (.slice sl6 n6 cap6)).heap[w1.heap.size]? = some (.cells #[.slice sl6 n6 cap6] 25 (0, 0)) from heap_setCell_same w6 w1.heap.size 0 _ _ _ hn6)
      have HR9 := Lib.hid ((hr6.set (g := w1.heap.size) (u := .slice sl6 n6 cap6) (by omega)).mono (show w1.heap.size ≤ _ by omega))
      have k6 := (blk_cell hn6).1
      have z6 := (blk_cell hn6).2
      clear hb6 hv6 hr6 hB6 hput hD hD2 hsz hn6
      refine Mix.plan_q (by simp only [Mix.pick, Mix.nth]; rfl) ?_
      repeat (go_big_quiet_step (fail))
      refine wpQuiet_nil ?_
      refine Mix.plan_one (by simp only [Mix.nth]; rfl) (fun K hK => ?_)
      go_simp
      refine hK _ _ ⟨_, Sx.ext_of HA9.out⟩ ?_
      clear hK K
      refine Mix.plan_one (by simp only [Mix.nth]; rfl) (fun K hK => ?_)
      go_simp
      refine hK _ _ ⟨_, Sx.ext_of HA9.out⟩ ?_
      clear hK K
      refine Mix.plan_done ?_
      simp only [List.drop_succ_cons, List.drop_nil]
      clear k6 z6
      generalize w6.setCell ⟨w1.heap.size, 0, none⟩ (.slice sl6 n6 cap6) = W9 at *
      by_cases hc0 : c6 = 0
      · have hq : (c6 == 0) = true := by rw [hc0]; rfl
        obtain ⟨o, ho6⟩ : ∃ o, putT m.out (a.s, c.s) = .ok o := by
          cases hp : putT m.out (a.s, c.s) with
          | error c' => exact absurd hc0 (HR9.out.bad c' hp).2
          | ok o => exact ⟨o, rfl⟩
        have HQ1 := Lib.hid (show r = .ok { m with stack := q1, out := o } by rw [HQ.out, ho6]; rfl)
        obtain ⟨-, hFS, hown⟩ := HR9.out.ok o ho6
        have hFSo : FSo W9 (.slice sl6 n6 cap6) o S' := ⟨hFS, fun k hk => ⟨fun h1 => absurd (H2.out.hS _ h1) (by have := hown k hk; omega), by
          rcases hFS with ⟨e, -⟩ | ⟨g9, o9, c9, e, h9, -⟩
          · rw [e] at hk; cases hk
          · rw [e] at hk; cases hk; exact h9⟩⟩
        have h9 := H2.out.keep HA9.out
        obtain ⟨h10, hF10⟩ := h9.outTo hFSo
        have c2 := h9.cells5.2.2.1
        have z2 := h9.frz 2
        obtain ⟨sl7, vcap7, hov⟩ := h9.out.1.len
        rw [hov] at c2
        have k9 := (blk_cell HN9.out).1
        have HM := Lib.hid (And.intro h10 ((HF2.out.trans (Fr.of HA9.out)).trans hF10))
        clear hFS hown hFSo h9 h10 hF10 hov ho6 hc0
        go_wp2_with (go_at_call 88; with_reducible refine (unless_tt _ _).mono ?_; rintro e w11 ⟨he, hw⟩; subst he; subst hw)
        go_end0
        exact Out.ok HQ1.out HM.out.1 HM.out.2
      · have hq : (c6 == 0) = false := beq_eq_false_iff_ne.2 hc0
        have hp : putT m.out (a.s, c.s) = .error c6 := by
          cases hp : putT m.out (a.s, c.s) with
          | error c' => rw [(HR9.out.bad c' hp).1]
          | ok o => exact absurd (HR9.out.ok o hp).1 hc0
        have HQ1 := Lib.hid (show r = .error c6 by rw [HQ.out, hp]; rfl)
        have HM := Lib.hid (And.intro (H2.out.keep HA9.out) (HF2.out.trans (Fr.of HA9.out)))
        clear hp hc0
        go_wp2_with (go_at_call 88; with_reducible refine (unless_ff _ _).mono ?_; rintro e w11 ⟨he, hw⟩; subst he; subst hw)
        exact ⟨rfl, Out.bad HQ1.out HM.out.1 HM.out.2 rfl⟩
end Vm
end Go.Proofs.YtbefgplaaghlbaaGreatDoor

/-
  The machine: what it gives up with is caught (step$1).
-/
namespace Go.Proofs.YtbefgplaaghlbaaGreatDoor
open Go.RowKit Go.Shelf Go.Lib
namespace Vm
open Tr

set_option maxRecDepth 100000 in
theorem assert_stop (v : Value) (w : World) : (Instr.typeAssert (.iface 96 v) 20 96 true).run Tryz.prog w = .ok (.tuple #[v, .bool true]) w := rfl
set_option maxHeartbeats 1000000 in
set_option maxRecDepth 100000 in
theorem catch_panic {A b : Nat} (e : Int) {w : World} {m : Mc} {S : Nat → Prop} {x : MV} (h : MR w b m S x) (hA : w.heap[A]? = some (.cells #[.pointer (some ⟨b, 0, none⟩)] 43 (0, 0))) :
    CallsD Tryz.prog 68 #[.pointer (some ⟨A, 0, none⟩)] (.panicking (stopV e)) w fun r u' w' => r = .returned (.tuple #[]) ∧ u' = .panicking [{ v := .iface 96 (.agg #[.int .i64 e]), recovered := true }] ∧
      MR w' b { m with done := true, fault := e } S x ∧ Fr w w' S S := by
  have hta := assert_stop (.agg #[.int .i64 e])
  refine callsD_of_wpS Tryz.func68 rfl fun d₀ cs hu => ?_
  apply wpS_seq
  apply wpS_region
  simp [wpOpsS, go_sem, recoverD, hu, stopV, Tryz.ntmps68, Exit.thenS]
  refine wpS_of_wp ?_
  change Code.wp _ _ _ { tmps := #[.pointer (some ⟨A, 0, none⟩), undef, undef, undef, .iface 96 (.agg #[.int .i64 e]), undef, undef, undef, undef, undef, undef, undef, undef, undef, undef, undef, undef, undef], defers := [] } _
  have hAl : A < w.heap.size := (Array.getElem?_eq_some_iff.1 hA).1
  have hW : Below w.heap.size w (w.alloc (.cells #[.int .i64 e] 96)) := (Below.refl _ _).alloc (Nat.le_refl _) _
  have hn := heap_alloc_new w (.cells #[.int .i64 e] 96)
  have h1 := h.keep hW
  have hA1 := (hW.block A hAl).trans hA
  have hAb : A ≠ b := fun hc => by
    subst hc
    rw [h.blk] at hA
    have := congrArg (fun o : Option Obj => o.map fun o => match o with | .cells cs _ _ => cs.size | _ => 0) hA
    simp [mcells, rowV_len, h.c16] at this
  have hbl := h.hS b h.sb
  have a0 := (blk_cell hA1).1
  have k0 := (blk_cell hn).1
  have H1 := Lib.hid h1
  have HW := Lib.hid hW
  clear h h1 hW hn hA1 hA
  go_wp2_with fail
  generalize w.alloc (.cells #[.int .i64 e] 96) = W at *
  have e0 := kr_cell (row := some b) a0 (fun h => hAb (Option.some.inj h).symm)
  have e1 := kr_cell (row := some b) k0 (fun h => by have := Option.some.inj h; omega)
  have h2 := H1.out.keep (Below.refl W.heap.size W).drew
  obtain ⟨-, -, c55, c56⟩ := h2.cells4
  have z55 := h2.frz 55
  have h3 : MR (W.setCell ⟨b, 55, none⟩ (.bool true)).drew b { m with done := true } S x := (H1.out.done true).keep (Below.refl _ _).drew
  have h4 := h3.fault e
  obtain ⟨-, -, -, d56⟩ := h3.cells4
  have y56 := h3.frz 56
  have HM := Lib.hid (show MR ((W.setCell ⟨b, 55, none⟩ (.bool true)).drew.setCell ⟨b, 56, none⟩ (.int .i64 e)) b { m with done := true, fault := e } S x from h4)
  have HF := Lib.hid (show Fr w ((W.setCell ⟨b, 55, none⟩ (.bool true)).drew.setCell ⟨b, 56, none⟩ (.int .i64 e)) S S from (((Fr.of HW.out).trans (Fr.of (Below.refl W.heap.size W).drew)).set (p := ⟨b, 55, none⟩) H1.out.sb (.bool true)).set (p := ⟨b, 56, none⟩) H1.out.sb (.int .i64 e))
  clear h2 h3 h4
  refine Mix.region (fun u => ∃ Y, u = kr W (some b) Y) 7 [0, 0, 0, 0, 0, 0, 1, 9, 9, 9] [true, false] (by kernel_rfl) (fun _ _ d _ _ h => by cases d <;> exact h) (by rfl) (by kernel_rfl) (kr_of fun _ _ _ => rfl) ?_
  simp only [Mix.selP_cons, Mix.selP_nil, Mix.sel_cons, Mix.sel_nil, Nat.reduceBEq, Nat.reduceAdd, cond_true, cond_false, List.drop_succ_cons, List.drop_zero]
  refine Mix.parts_q ?_
  repeat (go_big_quiet_step (fail))
  refine wpQuiet_nil ?_
  clear e0 e1
  refine Mix.parts_e ?_
  refine Mix.eff_step (fun K hK => ?_)
  go_simp
  refine hK _ _ (kr_of fun k hk hr => Below.heap_setCell _ _ _ _ (fun hc => hr (by rw [hc]))) ?_
  clear hK K c55 z55
  generalize (W.setCell ⟨b, 55, none⟩ (.bool true)).drew = W3 at *
  refine Mix.eff_nil (Mix.parts_n ?_)
  go_wp2_with fail
  exact ⟨rfl, _, rfl, .tuple #[], by simp [results, Tryz.results68, go_sem], rfl, rfl, HM.out, HF.out⟩
set_option maxHeartbeats 1000000 in
theorem catch_ret (A : Nat) (w : World) :
    CallsD Tryz.prog 68 #[.pointer (some ⟨A, 0, none⟩)] .returning w fun e u' w' => e = .returned (.tuple #[]) ∧ u' = .returning ∧ w' = w := by
  refine callsD_of_wpS Tryz.func68 rfl fun d₀ cs hu => ?_
  apply wpS_seq
  apply wpS_region
  simp [wpOpsS, go_sem, recoverD, hu, Tryz.ntmps68, Exit.thenS]
  refine wpS_of_wp ?_
  go_wp2_with fail
  refine ⟨rfl, .returning, ?_, .tuple #[], by simp [results, Tryz.results68, go_sem], rfl, rfl, rfl⟩
  rw [← hu]
end Vm
end Go.Proofs.YtbefgplaaghlbaaGreatDoor

/-
  The machine: an instruction of any kind, by its group. (printed by gen_VmK.py)
-/
namespace Go.Proofs.YtbefgplaaghlbaaGreatDoor
open Go.RowKit Go.Shelf Go.Lib
namespace Vm
open Tr

/-- what an instruction makes of the machine (its place and its count have been raised) -/
def opM (m : Mc) (x : Cd.I) : Except Int Mc :=
  if x.op = 1 then .ok { m with done := true }
  else if x.op = 17 then .ok { m with at_ := x.n.toNat }
  else if x.op = 18 then (kinds m.stack [false]).bind fun q => .ok { m with stack := q.1, at_ := if (q.2.getD 0 (.num 0)).n = 0 then x.n.toNat else m.at_ }
  else if x.op = 19 then if m.calls.length < 16 then .ok { m with calls := m.calls ++ [m.at_], at_ := x.n.toNat } else .error 40
  else if x.op = 20 then match m.calls.getLast? with
    | none => .error 40
    | some a => .ok { m with calls := m.calls.dropLast, at_ := a }
  else if x.op = 30 then .error 44
  else if x.op = 8 then (need m.stack 1).bind fun q => .ok { m with stack := q.1, cells := m.cells.set x.n.toNat (q.2.getD 0 (.num 0)) }
  else if x.op = 29 then (kinds m.stack [true, true]).bind fun q => (putT m.out ((q.2.getD 0 (.num 0)).s, (q.2.getD 1 (.num 0)).s)).bind fun o => .ok { m with stack := q.1, out := o }
  else m.st (stackP m.view x m.cells m.stack)
/-- the machine as its instructions want it -/
structure OkM (m : Mc) : Prop where
  st : m.stack.length ≤ 64
  sv : ∀ v ∈ m.stack, v.ok
  cv : ∀ v ∈ m.cells, v.ok
  c16 : m.cells.length = 16
  cl : m.calls.length ≤ 16
  view : goodT m.view = true
  out : goodT m.out = true
theorem good_sizes {l : List F} (h : goodT l = true) : (∀ f ∈ l, f.1.size ≤ 128 ∧ f.2.size ≤ 2048) ∧ l.length ≤ 32 := by
  obtain ⟨-, h1, h2, -⟩ := make_good (good_make h)
  refine ⟨fun f hf => ?_, by omega⟩
  obtain ⟨h3, h4⟩ := badF_none.1 h2 f hf
  refine ⟨?_, h4⟩
  unfold pathL at h3
  simp only [Bool.and_eq_true, decide_eq_true_eq] at h3
  have := h3.1.1
  rw [Lib.size_eq]
  exact this
theorem right_word {x : Cd.I} {c : Int} (h : Cd.right x c = true) : 1 ≤ x.op ∧ x.op ≤ 30 := by
  have hw : Cd.wordB x.op ≠ ⟨#[]⟩ := by
    intro e
    unfold Cd.right at h
    rw [if_pos e] at h
    cases h
  by_cases h1 : x.op < 0 ∨ 31 ≤ x.op
  · exact absurd (Cd.word_out h1) hw
  · by_cases h0 : x.op = 0
    · refine absurd ?_ hw
      rw [h0]
      rfl
    · omega
theorem right_local {x : Cd.I} {c : Int} (h : Cd.right x c = true) (ho : x.op = 7 ∨ x.op = 8) : 0 ≤ x.n ∧ x.n < 16 := by
  have ht : Cd.takes x.op = 3 := by rcases ho with ho | ho <;> rw [ho] <;> rfl
  unfold Cd.right at h
  split at h
  · cases h
  · rw [ht] at h
    split at h
    · rename_i h9; cases h9
    · split at h
      · cases h
      · split at h
        · rename_i h9; cases h9
        · simpa using h
theorem right_place {x : Cd.I} {c : Int} (h : Cd.right x c = true) (ho : x.op = 17 ∨ x.op = 18 ∨ x.op = 19) : 0 ≤ x.n ∧ x.n < c := by
  have ht : Cd.takes x.op = 4 := by rcases ho with ho | ho | ho <;> rw [ho] <;> rfl
  unfold Cd.right at h
  split at h
  · cases h
  · rw [ht] at h
    split at h
    · rename_i h9; cases h9
    · split at h
      · cases h
      · split at h
        · rename_i h9; cases h9
        · split at h
          · rename_i h9; cases h9
          · simpa using h
theorem right_text {x : Cd.I} {c : Int} (h : Cd.right x c = true) (ho : x.op = 3) : x.s.size ≤ 256 := by
  have ht : Cd.takes x.op = 2 := by rw [ho]; rfl
  unfold Cd.right at h
  split at h
  · cases h
  · simp only [Bool.and_eq_true, decide_eq_true_eq] at h
    exact h.2
theorem moves_any {w : World} {b : Nat} {m : Mc} {S : Nat → Prop} {x : MV} (h : MR w b m S x) (hm : OkM m) (i : Cd.I) {c : Int} (hr : Cd.right i c = true) (hop : i.op = 1 ∨ i.op = 17 ∨ i.op = 18 ∨ i.op = 19 ∨ i.op = 20 ∨ i.op = 30) :
    Calls Tryz.prog 69 #[.pointer (some ⟨b, 0, none⟩), .agg #[.int .i64 i.op, .int .i64 i.n, .string i.s]] w (Out w b m S (opM m i)) := by
  have hL : m.stack.length ≤ 1000 := Nat.le_trans hm.st (by decide)
  have hloc := right_local hr
  have hpl := right_place hr
  obtain ⟨op, n, s⟩ := i
  simp only at hop
  rcases hop with rfl | rfl | rfl | rfl | rfl | rfl
  · exact moves_halt h n s (by simp [opM])
  · obtain ⟨k, rfl⟩ : ∃ k : Nat, n = k := ⟨n.toNat, by have h1 := (hpl (by simp)).1; simp only at h1; omega⟩
    exact moves_jump h s (by simp [opM])
  · obtain ⟨k, rfl⟩ : ∃ k : Nat, n = k := ⟨n.toNat, by have h1 := (hpl (by simp)).1; simp only at h1; omega⟩
    exact moves_zero h s hL (by simp [opM])
  · obtain ⟨k, rfl⟩ : ∃ k : Nat, n = k := ⟨n.toNat, by have h1 := (hpl (by simp)).1; simp only at h1; omega⟩
    exact moves_call h s (by simp [opM])
  · exact moves_ret h n s (Nat.le_trans hm.cl (by decide)) (by rfl)
  · exact moves_fail h n s (by simp [opM])
theorem texts_any {w : World} {b : Nat} {m : Mc} {S : Nat → Prop} {x : MV} (h : MR w b m S x) (hE : EnvS w S) (hm : OkM m) (i : Cd.I) {c : Int} (hr : Cd.right i c = true) (hop : i.op = 3 ∨ i.op = 21 ∨ i.op = 22 ∨ i.op = 23 ∨ i.op = 24 ∨ i.op = 25) :
    Calls Tryz.prog 70 #[.pointer (some ⟨b, 0, none⟩), .agg #[.int .i64 i.op, .int .i64 i.n, .string i.s]] w (Out w b m S (opM m i)) := by
  have hL : m.stack.length ≤ 1000 := Nat.le_trans hm.st (by decide)
  have hloc := right_local hr
  have hpl := right_place hr
  obtain ⟨op, n, s⟩ := i
  simp only at hop
  rcases hop with rfl | rfl | rfl | rfl | rfl | rfl
  · exact texts_text h n s (by simp [opM, stackP])
  · exact texts_cat h n s hL hm.sv (by simp [opM, stackP])
  · exact texts_len h n s hL (by simp [opM, stackP])
  · exact texts_cut h n s hL hm.sv (by simp [opM, stackP])
  · exact texts_str h n s hL hm.sv hE (by simp [opM, stackP])
  · exact texts_num h n s hL hm.sv hE (by simp [opM, stackP])
theorem files_any {w : World} {b : Nat} {m : Mc} {S : Nat → Prop} {x : MV} (h : MR w b m S x) (hE : EnvS w S) (hm : OkM m) (i : Cd.I) {c : Int} (hr : Cd.right i c = true) (hop : i.op = 26 ∨ i.op = 27 ∨ i.op = 28 ∨ i.op = 29) :
    Calls Tryz.prog 71 #[.pointer (some ⟨b, 0, none⟩), .agg #[.int .i64 i.op, .int .i64 i.n, .string i.s]] w (Out w b m S (opM m i)) := by
  have hL : m.stack.length ≤ 1000 := Nat.le_trans hm.st (by decide)
  have hloc := right_local hr
  have hpl := right_place hr
  obtain ⟨op, n, s⟩ := i
  simp only at hop
  rcases hop with rfl | rfl | rfl | rfl
  · exact files_read h n s hL hm.view (by simp [opM, stackP])
  · exact files_count h n s (by simp [opM, stackP])
  · exact files_path h n s hL (by simp [opM, stackP])
  · exact files_write h n s hL hm.sv hE ⟨fun f hf => Nat.le_trans ((good_sizes hm.out).1 f hf).1 (by decide), Nat.le_trans (good_sizes hm.out).2 (by decide)⟩ (by simp [opM])
theorem values_any {w : World} {b : Nat} {m : Mc} {S : Nat → Prop} {x : MV} (h : MR w b m S x) (hm : OkM m) (i : Cd.I) {c : Int} (hr : Cd.right i c = true) (hop : i.op = 2 ∨ i.op = 4 ∨ i.op = 5 ∨ i.op = 6 ∨ i.op = 7 ∨ i.op = 8 ∨ i.op = 9 ∨ i.op = 10 ∨ i.op = 11 ∨ i.op = 12 ∨ i.op = 13 ∨ i.op = 14 ∨ i.op = 15 ∨ i.op = 16) :
    Calls Tryz.prog 72 #[.pointer (some ⟨b, 0, none⟩), .agg #[.int .i64 i.op, .int .i64 i.n, .string i.s]] w (Out w b m S (opM m i)) := by
  have hL : m.stack.length ≤ 1000 := Nat.le_trans hm.st (by decide)
  have hloc := right_local hr
  have hpl := right_place hr
  obtain ⟨op, n, s⟩ := i
  simp only at hop
  rcases hop with rfl | rfl | rfl | rfl | rfl | rfl | rfl | rfl | rfl | rfl | rfl | rfl | rfl | rfl
  · exact values_push h n s (by simp [opM, stackP])
  · exact values_pop h n s hL (by simp [opM, stackP])
  · exact values_dup h n s hL (by simp [opM, stackP])
  · exact values_swap h n s hL (by simp [opM, stackP])
  · obtain ⟨k, rfl⟩ : ∃ k : Nat, n = k := ⟨n.toNat, by have h1 := (hloc (by simp)).1; simp only at h1; omega⟩
    have hk : k < 16 := by have h1 := (hloc (by simp)).2; simp only at h1; omega
    obtain ⟨v, hv⟩ : ∃ v, m.cells[k]? = some v := ⟨m.cells[k]'(by rw [hm.c16]; exact hk), List.getElem?_eq_getElem _⟩
    exact values_load h s hv (by simp [opM, stackP, List.getD, hv])
  · obtain ⟨k, rfl⟩ : ∃ k : Nat, n = k := ⟨n.toNat, by have h1 := (hloc (by simp)).1; simp only at h1; omega⟩
    have hk : k < 16 := by have h1 := (hloc (by simp)).2; simp only at h1; omega
    exact values_store h s hk hL (by simp [opM])
  · exact values_add h n s hL (by simp [opM, stackP])
  · exact values_sub h n s hL (by simp [opM, stackP])
  · exact values_mul h n s hL (by simp [opM, stackP])
  · exact values_div h n s hL (by simp [opM, stackP])
  · exact values_mod h n s hL (by simp [opM, stackP])
  · exact values_less h n s hL (by simp [opM, stackP])
  · exact values_eq h n s hL (by simp [opM, stackP])
  · exact values_not h n s hL (by simp [opM, stackP])
end Vm
end Go.Proofs.YtbefgplaaghlbaaGreatDoor

/-
  The machine: one step.
-/
namespace Go.Proofs.YtbefgplaaghlbaaGreatDoor
open Go.RowKit Go.Shelf Go.Lib
namespace Vm
open Tr

/-- no panic, else as before -/
def noP (Q : Exit → Act → World → Prop) : Exit → Act → World → Prop
  | .panic _, _, _ => False
  | e, a, w => Q e a w
theorem noP_n (Q : Exit → Act → World → Prop) (a : Act) (w : World) : noP Q .normal a w = Q .normal a w := rfl
theorem noP_imp {Q : Exit → Act → World → Prop} (e : Exit) (a : Act) (w : World) (h : noP Q e a w) : Q e a w := by
  cases e <;> first | exact h | exact absurd h id
/-- what a step answers: r: what the instruction makes of the machine -/
def StepOut (w : World) (b : Nat) (m : Mc) (S : Nat → Prop) (r : Except Int Mc) (e : Ending) (w' : World) : Prop :=
  e = .returned (.tuple #[]) ∧ ∃ m' S' x', MR w' b m' S' x' ∧ Fr w w' S S' ∧ match r with
    | .ok m2 => m' = if m2.at_ = m.p.length then { m2 with done := true } else m2
    | .error c => m'.done = true ∧ m'.fault = c ∧ m'.steps = m.steps + 1
abbrev defsS (A : Nat) : List Deferred := [{ target := .fn (.func 68) #[.pointer (some ⟨A, 0, none⟩)], args := #[] }]
theorem step_gave {A b : Nat} {w w1 : World} {m m1 : Mc} {S S1 : Nat → Prop} {x1 : MV} {c : Int} {r : Except Int Mc} (h : MR w1 b m1 S1 x1) (hF : Fr w w1 S S1) (hA : w1.heap[A]? = some (.cells #[.pointer (some ⟨b, 0, none⟩)] 43 (0, 0))) (hr : r = .error c) (hs : m1.steps = m.steps + 1) (tmps : Array Value) :
    bodyPostD Tryz.prog Tryz.f44 (StepOut w b m S r) (.panic (stopV c)) { tmps := tmps, defers := defsS A } w1 := by
  refine leaves_cons (f := 68) (args := #[.pointer (some ⟨A, 0, none⟩)]) (by simp) (by simp [go_sem]) ?_
  refine (catch_panic c h hA).mono ?_
  rintro e u' w'' ⟨rfl, rfl, h2, hF2⟩
  refine ⟨.tuple #[], by simp [results, Tryz.results44, go_sem], rfl, _, S1, x1, h2, hF.trans hF2, ?_⟩
  rw [hr]
  exact ⟨rfl, rfl, hs⟩
theorem step_done {A b : Nat} {w w1 : World} {m m1 m2 : Mc} {S S1 : Nat → Prop} {x1 : MV} {r : Except Int Mc} (h : MR w1 b m1 S1 x1) (hF : Fr w w1 S S1) (hr : r = .ok m2) (hm : m1 = if m2.at_ = m.p.length then { m2 with done := true } else m2) (tmps : Array Value) :
    bodyPostD Tryz.prog Tryz.f44 (StepOut w b m S r) .normal { tmps := tmps, defers := defsS A } w1 := by
  refine leaves_cons (f := 68) (args := #[.pointer (some ⟨A, 0, none⟩)]) (by simp) (by simp [go_sem]) ?_
  refine (catch_ret A w1).mono ?_
  rintro e u' w'' ⟨rfl, rfl, rfl⟩
  refine ⟨.tuple #[], by simp [results, Tryz.results44, go_sem], rfl, _, S1, x1, h, hF, ?_⟩
  rw [hr]
  exact hm
theorem st_keeps {m m2 : Mc} {q : Except Int (List V)} (h : m.st q = .ok m2) : ∃ st, q = .ok st ∧ m2 = { m with stack := st } := by
  cases q with
  | error c => cases h
  | ok st => cases h; exact ⟨st, rfl, rfl⟩
/-- what an instruction leaves as it was -/
theorem op_keeps {m m2 : Mc} {x : Cd.I} (h : opM m x = .ok m2) : m2.p = m.p ∧ m2.view = m.view ∧ m2.steps = m.steps ∧ m2.fault = m.fault := by
  unfold opM at h
  split at h
  · cases h; exact ⟨rfl, rfl, rfl, rfl⟩
  split at h
  · cases h; exact ⟨rfl, rfl, rfl, rfl⟩
  split at h
  · cases hk : kinds m.stack [false] with
    | error c => rw [hk] at h; cases h
    | ok q => rw [hk] at h; cases h; exact ⟨rfl, rfl, rfl, rfl⟩
  split at h
  · split at h
    · cases h; exact ⟨rfl, rfl, rfl, rfl⟩
    · cases h
  split at h
  · split at h
    · cases h
    · cases h; exact ⟨rfl, rfl, rfl, rfl⟩
  split at h
  · cases h
  split at h
  · cases hk : need m.stack 1 with
    | error c => rw [hk] at h; cases h
    | ok q => rw [hk] at h; cases h; exact ⟨rfl, rfl, rfl, rfl⟩
  split at h
  · cases hk : kinds m.stack [true, true] with
    | error c => rw [hk] at h; cases h
    | ok q =>
      rw [hk] at h
      cases hp : putT m.out ((q.2.getD 0 (.num 0)).s, (q.2.getD 1 (.num 0)).s) with
      | error c =>
        simp only [Except.bind, hp] at h
        cases h
      | ok o =>
        simp only [Except.bind, hp] at h
        cases h
        exact ⟨rfl, rfl, rfl, rfl⟩
  · obtain ⟨st, -, rfl⟩ := st_keeps h
    exact ⟨rfl, rfl, rfl, rfl⟩
set_option maxHeartbeats 8000000 in
set_option maxRecDepth 100000 in
theorem step_any {w : World} {b : Nat} {m : Mc} {S : Nat → Prop} {x : MV} (h : MR w b m S x) (hE : EnvS w S) (hm : OkM m) (i : Cd.I) {c : Int} (hi : m.p[m.at_]? = some i) (hr : Cd.right i c = true) (hsm : m.p.length ≤ 256 ∧ m.steps ≤ 4096) {r : Except Int Mc} (hrr : r = opM { m with at_ := m.at_ + 1, steps := m.steps + 1 } i) :
    Calls Tryz.prog 44 #[.pointer (some ⟨b, 0, none⟩)] w (StepOut w b m S r) := by
  have HRR := Lib.hid hrr
  clear hrr
  have hmf : ∀ (fn : Fn) (first cap : Array Value) (w : World), (Instr.makeFunc fn first cap).run Tryz.prog w = .ok (.func fn first cap) w := fun _ _ _ _ => rfl
  have hW : Below w.heap.size w (w.alloc (.cells #[.pointer (some ⟨b, 0, none⟩)] 43)) := (Below.refl _ _).alloc (Nat.le_refl _) _
  have hn := heap_alloc_new w (.cells #[.pointer (some ⟨b, 0, none⟩)] 43)
  have h1 := h.keep hW
  have a0 := (blk_cell hn).1
  obtain ⟨c0, -, -, -, -⟩ := h1.cells5
  obtain ⟨c53, c54, -, -⟩ := h1.cells4
  obtain ⟨sl, cap, hpv, hpf⟩ := h1.prog.1.form
  obtain ⟨g, o, rfl, hg, hi3⟩ := hpf m.at_ i hi
  obtain ⟨d0, d1, d2⟩ := hi3
  rw [hpv] at c0
  have hat : m.at_ < m.p.length := (List.getElem?_eq_some_iff.1 hi).1
  have HR := Lib.hid hr
  have H1 := Lib.hid h1
  have H0 := Lib.hid h
  have HW := Lib.hid hW
  have HN := Lib.hid hn
  have HM := Lib.hid hm
  have HPV := Lib.hid hpv
  obtain ⟨hpl, hst⟩ := hsm
  have hst1 : m.steps ≤ 4096 := hst
  clear h h1 hW hn hpf hi hr hm hpv hst
  obtain ⟨op, n, s⟩ := i
  simp only at d0 d1 d2
  go_enter_defers Tryz.func44, Tryz.ntmps44
  go_wp2_with fail
  generalize w.alloc (.cells #[.pointer (some ⟨b, 0, none⟩)] 43) = W at *
  have hD := (Below.refl W.heap.size W).drew
  have ea := Sx.ext_cell a0
  have e0 := Sx.ext_cell c0
  have e1 := Sx.ext_cell c53
  have e2 := Sx.ext_cell d0
  have e3 := Sx.ext_cell d1
  have e4 := Sx.ext_cell d2
  refine wp_mono ?_ noP_imp
  refine Mix.region (fun w' => ∃ Y, w' = Sx.ext W Y) 12 [0, 0, 0, 0, 0, 0, 0, 0, 0, 0, 1, 1] [true, false] (by kernel_rfl) (fun _ _ d _ _ h => by cases d <;> exact h) (by rfl) (by kernel_rfl) ⟨W.drew, Sx.ext_of hD⟩ ?_
  simp only [Mix.selP_cons, Mix.selP_nil, Mix.sel_cons, Mix.sel_nil, Nat.reduceBEq, Nat.reduceAdd, cond_true, cond_false, List.drop_succ_cons, List.drop_nil]
  refine Mix.parts_q ?_
  repeat (go_big_quiet_step (fail))
  refine wpQuiet_nil ?_
  clear e0 e1 e2 e3 e4 ea
  refine Mix.parts_e ?_
  refine Mix.eff_step (fun K hK => ?_)
  go_simp
  have hA2 : Below W.heap.size W (W.alloc (.cells #[.int .i64 0, .int .i64 0, .string ⟨#[]⟩] 38)).drew := ((Below.refl W.heap.size W).alloc (Nat.le_refl _) _).drew
  refine hK _ _ ⟨_, Sx.ext_of hA2⟩ ?_
  clear hK K hA2
  refine Mix.eff_step (fun K hK => ?_)
  go_simp
  have hA3 : Below W.heap.size W (W.alloc (.cells #[.int .i64 op, .int .i64 n, .string s] 38)).drew := ((Below.refl W.heap.size W).alloc (Nat.le_refl _) _).drew
  have hn3 : (W.alloc (.cells #[.int .i64 op, .int .i64 n, .string s] 38)).drew.heap[W.heap.size]? = some (.cells #[.int .i64 op, .int .i64 n, .string s] 38 (0, 0)) := heap_alloc_new _ _
  refine hK _ _ ⟨_, Sx.ext_of hA3⟩ ?_
  clear hK K hD
  have HA3 := Lib.hid hA3
  have HN3 := Lib.hid hn3
  have hAl := (Array.getElem?_eq_some_iff.1 HN.out).1
  have HL := Lib.hid hAl
  generalize (W.alloc (.cells #[.int .i64 op, .int .i64 n, .string s] 38)).drew = W2 at *
  have h3 := H1.out.keep hA3
  have HNA := Lib.hid ((hA3.block _ hAl).trans HN.out)
  have b0 := (blk_cell HNA.out).1
  have c53' := h3.cells4.1
  have c54' := h3.cells4.2.1
  have z53 := h3.frz 53
  have z54 := h3.frz 54
  have H3 := Lib.hid h3
  have HF3 := Lib.hid (Fr.of (S := S) (HW.out.trans (hA3.mono HW.out.size)))
  clear hA3 hn3 hAl c0 c53 c54 d0 d1 d2 a0 h3
  refine Mix.eff_nil (Mix.parts_n ?_)
  refine wpList_nil ?_
  rw [noP_n]
  have hne : w.heap.size ≠ b := by have := H0.out.hS b H0.out.sb; omega
  have hnx : W.heap.size ≠ b := by have := H1.out.hS b H1.out.sb; omega
  have q1 : ((m.at_ + 1 : Nat) : Int) = (m.at_ : Int) + 1 := by push_cast; rfl
  have q2 : ((m.steps + 1 : Nat) : Int) = (m.steps : Int) + 1 := by push_cast; rfl
  have h4 := (H3.out.at_ (m.at_ + 1))
  rw [q1] at h4
  have c54'' := h4.cells4.2.1
  have z54' := h4.frz 54
  have h5 := h4.steps (m.steps + 1)
  rw [q2] at h5
  have hk5 : ∀ k, k ≠ b → ((W2.setCell ⟨b, 53, none⟩ (.int .i64 ((m.at_ : Int) + 1))).setCell ⟨b, 54, none⟩ (.int .i64 ((m.steps : Int) + 1))).heap[k]? = W2.heap[k]? := fun k hk => (Below.heap_setCell _ _ _ _ hk).trans (Below.heap_setCell _ _ _ _ hk)
  have n5 := (hk5 _ hnx).trans HN3.out
  have m5 := (hk5 _ hne).trans HNA.out
  obtain ⟨k0, k1, k2, -⟩ := val_cells n5
  have b5 := (blk_cell m5).1
  have HF5 := Lib.hid ((HF3.out.set (p := ⟨b, 53, none⟩) H3.out.sb (.int .i64 ((m.at_ : Int) + 1))).set (p := ⟨b, 54, none⟩) H3.out.sb (.int .i64 ((m.steps : Int) + 1)))
  have H5 := Lib.hid h5
  have HM5 := Lib.hid m5
  have hE5 : EnvS ((W2.setCell ⟨b, 53, none⟩ (.int .i64 ((m.at_ : Int) + 1))).setCell ⟨b, 54, none⟩ (.int .i64 ((m.steps : Int) + 1))) S := hE.fr HF5.out
  have hm5 : OkM { m with at_ := m.at_ + 1, steps := m.steps + 1 } := ⟨HM.out.st, HM.out.sv, HM.out.cv, HM.out.c16, HM.out.cl, HM.out.view, HM.out.out⟩
  have HMV := Lib.hid (moves_any h5 hm5 ⟨op, n, s⟩ HR.out)
  have HTX := Lib.hid (texts_any h5 hE5 hm5 ⟨op, n, s⟩ HR.out)
  have HFL := Lib.hid (files_any h5 hE5 hm5 ⟨op, n, s⟩ HR.out)
  have HVL := Lib.hid (values_any h5 hm5 ⟨op, n, s⟩ HR.out)
  have HWD := Lib.hid (right_word HR.out)
  have HAS := Lib.hid (show ¬ S w.heap.size ∧ w.heap.size < ((W2.setCell ⟨b, 53, none⟩ (.int .i64 ((m.at_ : Int) + 1))).setCell ⟨b, 54, none⟩ (.int .i64 ((m.steps : Int) + 1))).heap.size from ⟨fun h => absurd (H0.out.hS _ h) (by omega), (Array.getElem?_eq_some_iff.1 m5).1⟩)
  clear h4 h5 q1 q2 hk5 n5 m5 hE5 hm5
  go_wp2_with fail
  all_goals
    clear c53' c54' c54'' z53 z54 z54'
    generalize (W2.setCell ⟨b, 53, none⟩ (.int .i64 ((m.at_ : Int) + 1))).setCell ⟨b, 54, none⟩ (.int .i64 ((m.steps : Int) + 1)) = W5 at *
    have hwd := HWD.out
    (try simp only [beq_iff_eq, beq_eq_false_iff_ne, ne_eq] at *)
  all_goals first
    | refine (HMV.out (by (try simp only); omega)).mono ?_
    | refine (HTX.out (by (try simp only); omega)).mono ?_
    | refine (HFL.out (by (try simp only); omega)).mono ?_
    | refine (HVL.out (by (try simp only); omega)).mono ?_
  all_goals
    intro e w6 ho
    rw [← HRR.out] at ho
    clear b5 k0 k1 k2 b0
  all_goals
    cases r with
    | error c =>
      obtain ⟨rfl, m', S', x', h6, hF6, hs6⟩ := ho
      exact step_gave h6 (HF5.out.trans hF6) ((hF6.block _ HAS.out.2 HAS.out.1).trans HM5.out) rfl hs6 _
    | ok m2 =>
      obtain ⟨rfl, S', x', h6, hF6⟩ := ho
      obtain ⟨hp2, -, -, -⟩ := op_keeps HRR.out.symm
      have b6 := (hF6.block _ HAS.out.2 HAS.out.1).trans HM5.out
      have a6 := (blk_cell b6).1
      obtain ⟨c0, -, -, -, -⟩ := h6.cells5
      obtain ⟨c53, -, c55, -⟩ := h6.cells4
      have z55 := h6.frz 55
      obtain ⟨sl6, cap6, hpv6, -⟩ := h6.prog.1.form
      rw [hpv6, hp2] at c0
      have H6 := Lib.hid h6
      have HF6 := Lib.hid (HF5.out.trans hF6)
      have HB6 := Lib.hid b6
      clear h6 hF6 b6 hpv6 hp2
      by_cases he : m2.at_ = m.p.length
      · have hq : ((m2.at_ : Int) == m.p.length) = true := by rw [he]; exact beq_self_eq_true _
        go_wp2_with fail
        go_quiet (fail)
        have hB := Sx.below_drewN (Below.refl w6.heap.size w6) nq
        have H7 := Lib.hid (H6.out.keep hB)
        have a7 := Sx.keep_cell hB a6
        have HB7 := Lib.hid ((hB.block _ (Array.getElem?_eq_some_iff.1 HB6.out).1).trans HB6.out)
        have HF7 := Lib.hid (HF6.out.trans (Fr.of hB))
        have d55 := H7.out.cells4.2.2.1
        have y55 := H7.out.frz 55
        have hnb : w.heap.size ≠ b := hne
        clear hB a6 c0 c53 c55 z55
        generalize w6.drewN nq = w7 at *
        go_wp2_with fail
        exact step_done (H7.out.done true) (HF7.out.set (p := ⟨b, 55, none⟩) H7.out.sb (.bool true)) rfl (by rw [if_pos he]) _
      · have hq : ((m2.at_ : Int) == m.p.length) = false := by rw [beq_eq_false_iff_ne]; omega
        go_wp2_with fail
        go_quiet (fail)
        have hB := Sx.below_drewN (Below.refl w6.heap.size w6) nq
        have H7 := Lib.hid (H6.out.keep hB)
        have HF7 := Lib.hid (HF6.out.trans (Fr.of hB))
        clear hB a6 c0 c53 c55 z55
        generalize w6.drewN nq = w7 at *
        go_wp2_with fail
        exact step_done H7.out HF7.out rfl (by rw [if_neg he]) _
end Vm
end Go.Proofs.YtbefgplaaghlbaaGreatDoor
