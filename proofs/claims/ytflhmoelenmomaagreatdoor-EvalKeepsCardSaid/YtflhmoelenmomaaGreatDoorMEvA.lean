/-
  Walk: the names that an expression sees; find.
-/
import Derived.Test.YtflhmoelenmomaaGreatDoorMEvP
import Derived.Lib.Hide
import Derived.Test.YtflhmoelenmomaaGreatDoorMRcQ
namespace Go.Proofs.YtflhmoelenmomaaGreatDoor
open Go.RowKit Go.Lib
namespace Ev
open Rc

def pn : Value → Nat
  | .pointer (some a) => a.block + 1
  | _ => 0
/-- a chain of bound names in memory, newest first -/
inductive Lk (W : World) : Value → Sees → Prop
  | nil : Lk W (.pointer none) []
  | cons (g : Nat) (a t : ByteArray) (p : Value) (l : Sees) (hb : W.heap[g]? = some (.cells #[.string a, .string t, p] 91 (0, 0))) (hp : pn p ≤ g) (h : Lk W p l) : Lk W (.pointer (some ⟨g, 0, none⟩)) ((a, t) :: l)
theorem Lk.keep {W W' : World} {v : Value} {l : Sees} (h : Lk W v l) (hB : Below W.heap.size W W') : Lk W' v l := by
  induction h with
  | nil => exact .nil
  | cons g a t p l hb hp _ ih => exact .cons g a t p l ((hB.block g (Array.getElem?_eq_some_iff.1 hb).1).trans hb) hp ih
theorem Lk.form {W : World} {v : Value} {l : Sees} (h : Lk W v l) : ∃ o, v = .pointer o := by
  cases h <;> exact ⟨_, rfl⟩
theorem obj_three {W : World} {g : Nat} {u0 u1 u2 : Value} {T : TypeId} (h : W.heap[g]? = some (.cells #[u0, u1, u2] T (0, 0))) :
    W.cell? ⟨g, 0, none⟩ = some u0 ∧ W.cell? ⟨g, 1, none⟩ = some u1 ∧ W.cell? ⟨g, 2, none⟩ = some u2 ∧ W.frozen? ⟨g, 0, none⟩ = false ∧ W.frozen? ⟨g, 1, none⟩ = false ∧ W.frozen? ⟨g, 2, none⟩ = false :=
  ⟨by simp [World.cell?, h], by simp [World.cell?, h], by simp [World.cell?, h], by simp [World.frozen?, h], by simp [World.frozen?, h], by simp [World.frozen?, h]⟩
set_option maxHeartbeats 1000000 in
set_option maxRecDepth 100000 in
theorem find_any (l : Sees) (p : Value) (y : ByteArray) (W : World) (h : Lk W p l) :
    Calls Tryz.prog 40 #[p, .string y] W fun e W' => e = .returned (.tuple #[.string ((look l y).getD ⟨#[]⟩), .bool (look l y).isSome]) ∧ Below W.heap.size W W' := by
  obtain ⟨o, rfl⟩ := h.form
  go_enter Tryz.func40, Tryz.ntmps40
  go_wp2_with fail
  go_loopw [0] (fun v wr => W = wr ∧ ∃ l', Lk W v l' ∧ look l y = look l' y) (fun v _ => pn v)
  case atStart => exact ⟨rfl, l, h, rfl⟩
  case round =>
    obtain ⟨rfl, l', hL, he⟩ := hrel
    cases hL with
    | nil =>
      have HE := Lib.hid he
      clear he h
      go_wp2_with fail
      go_ret2
      rw [HE.out]
      exact ⟨rfl, Below.refl _ _⟩
    | cons g a t p' l2 hb hp hL2 =>
      obtain ⟨c0, c1, c2, -, -, -⟩ := obj_three hb
      by_cases hay : a = y
      · have HE := Lib.hid (show look l y = some t by rw [he, look, if_pos hay])
        have i1 : (a.toList == y.toList) = true := by rw [hay]; exact beq_self_eq_true _
        clear he h
        go_wp2_with fail
        go_ret2
        rw [HE.out]
        exact ⟨rfl, Below.refl _ _⟩
      · have HE := Lib.hid (show look l y = look l2 y by rw [he, look, if_neg hay])
        have i1 : (a.toList == y.toList) = false := beq_eq_false_iff_ne.2 fun e => hay (by
          rw [ByteArray.toList_eq, ByteArray.toList_eq] at e
          exact ByteArray.ext (Array.toList_inj.1 e))
        clear he h
        go_wp2_with fail
        exact ⟨⟨trivial, l2, hL2, HE.out⟩, Nat.lt_succ_of_le hp⟩
end Ev
end Go.Proofs.YtflhmoelenmomaaGreatDoor

/-
  Walk: the reference's Mean.
-/
namespace Go.Proofs.YtflhmoelenmomaaGreatDoor
open Go.RowKit Go.Lib
namespace Ev
open Rc

/-- names that stand for texts in memory, the oldest first -/
structure NS (W : World) (v : Value) (l : Sees) : Prop where
  form : ∃ sl cap, v = .slice sl l.length cap ∧ l.length ≤ cap ∧ (sl = none → cap = 0) ∧ ∀ (i : Nat) p, l.reverse[i]? = some p → ∃ b o, sl = some ⟨b, o, none⟩ ∧ b < W.heap.size ∧ W.cell? ⟨b, o + i * 2, none⟩ = some (.string p.1) ∧ W.cell? ⟨b, o + i * 2 + 1, none⟩ = some (.string p.2)
theorem NS.keep {W W' : World} {v : Value} {l : Sees} (h : NS W v l) (hB : Below W.heap.size W W') : NS W' v l := by
  obtain ⟨sl, cap, h1, h2, h3, h4⟩ := h.form
  refine ⟨sl, cap, h1, h2, h3, fun i p hp => ?_⟩
  obtain ⟨b, o, e, hb, c0, c1⟩ := h4 i p hp
  exact ⟨b, o, e, Nat.lt_of_lt_of_le hb hB.size, (hB.cell (p := ⟨b, o + i * 2, none⟩) hb).trans c0, (hB.cell (p := ⟨b, o + i * 2 + 1, none⟩) hb).trans c1⟩
theorem ns_nil (W : World) : NS W (.slice none 0 0) [] := ⟨none, 0, rfl, Nat.le_refl _, fun _ => rfl, fun i p h => by simp at h⟩
/-- what Mean answers -/
def ansV : M → Value
  | .ok s n => .tuple #[.string s, .int .i64 (n : Int), .int .i64 0]
  | .bad n e => .tuple #[.string ⟨#[]⟩, .int .i64 (n : Int), .int .i64 e]
def bx (W : World) (k : Int) (s : ByteArray) (sl : Option Addr) (n cap : Nat) : World := W.alloc (.cells #[.int .i64 k, .string s, .slice sl n cap] 24)
theorem obj3 {W : World} {g : Nat} {u0 u1 u2 : Value} {T : TypeId} (h : W.heap[g]? = some (.cells #[u0, u1, u2] T (0, 0))) :
    W.cell? ⟨g, 0, none⟩ = some u0 ∧ W.cell? ⟨g, 1, none⟩ = some u1 ∧ W.cell? ⟨g, 2, none⟩ = some u2 ∧ W.frozen? ⟨g, 0, none⟩ = false ∧ W.frozen? ⟨g, 1, none⟩ = false ∧ W.frozen? ⟨g, 2, none⟩ = false :=
  ⟨by simp [World.cell?, h], by simp [World.cell?, h], by simp [World.cell?, h], by simp [World.frozen?, h], by simp [World.frozen?, h], by simp [World.frozen?, h]⟩
theorem mean_results {tmps : Array Value} {X : World} {x : ByteArray} {n e : Int} (t6 : tmps[6]? = some (.string x)) (t7 : tmps[7]? = some (.int .i64 n)) (t8 : tmps[8]? = some (.int .i64 e)) :
    (results Tryz.f24 tmps).run Tryz.prog X = .ok (.tuple #[.string x, .int .i64 n, .int .i64 e]) X := by
  simp [results, Tryz.results24, go_sem, t6, t7, t8]
set_option maxHeartbeats 2000000 in
set_option maxRecDepth 100000 in
theorem rmean_full (k : Int) (s : ByteArray) (sl : Option Addr) (m cap : Nat) (nv : Value) (W : World) :
    Calls Tryz.prog 24 #[.agg #[.int .i64 k, .string s, .slice sl m cap], nv, .int .i64 1000] W fun e W' => e = .returned (ansV (.bad 1000 52)) ∧ Below W.heap.size W W' := by
  have hA := (Below.refl W.heap.size W).alloc (Nat.le_refl _) (.cells #[.int .i64 k, .string s, .slice sl m cap] 24)
  go_enter Tryz.func24, Tryz.ntmps24
  go_wp2_with fail
  refine bodyPost_ret (mean_results rfl rfl rfl) rfl ?_
  exact ⟨rfl, hA⟩
set_option maxHeartbeats 2000000 in
set_option maxRecDepth 100000 in
theorem rmean_text (s : ByteArray) (sl : Option Addr) (m cap n : Nat) (nv : Value) (W : World) (hn : n < 1000) (hs : s.size ≤ 140737488355328) :
    Calls Tryz.prog 24 #[.agg #[.int .i64 1, .string s, .slice sl m cap], nv, .int .i64 n] W fun e W' => e = .returned (ansV (fin s (n + 1))) ∧ Below W.heap.size W W' := by
  have hA := (Below.refl W.heap.size W).alloc (Nat.le_refl _) (.cells #[.int .i64 1, .string s, .slice sl m cap] 24)
  have i1 : ((n : Int) == 1000) = false := beq_eq_false_iff_ne.2 (by omega)
  by_cases h : 256 < s.size
  · have HF := Lib.hid (show fin s (n + 1) = .bad (n + 1) 43 by unfold fin; rw [if_pos h])
    have i2 : (256 : Int) < s.size := by omega
    go_enter Tryz.func24, Tryz.ntmps24
    go_wp2_with fail
    refine bodyPost_ret (mean_results rfl rfl rfl) rfl ?_
    rw [HF.out]
    exact ⟨rfl, hA⟩
  · have HF := Lib.hid (show fin s (n + 1) = .ok s (n + 1) by unfold fin; rw [if_neg h])
    have i2 : ¬ (256 : Int) < s.size := by omega
    go_enter Tryz.func24, Tryz.ntmps24
    go_wp2_with fail
    refine bodyPost_ret (mean_results rfl rfl rfl) rfl ?_
    rw [HF.out]
    exact ⟨rfl, hA⟩
/-- the names from the newest on, so many looked at -/
theorem look_skip {l : Sees} {y : ByteArray} : ∀ {j : Nat}, (∀ i p, i < j → l[i]? = some p → p.1 ≠ y) → look l y = look (l.drop j) y
  | 0, _ => rfl
  | j + 1, h => by
    rw [look_skip (j := j) fun i p hi hp => h i p (by omega) hp]
    by_cases hj : j < l.length
    · rw [List.drop_eq_getElem_cons hj, look, if_neg (h j l[j] (by omega) (List.getElem?_eq_getElem hj))]
    · rw [List.drop_of_length_le (by omega), List.drop_of_length_le (by omega)]
/-- what a name means -/
def nameM (l : Sees) (s : ByteArray) (n : Nat) : M := match look l s with
  | some t => fin t n
  | none => .bad n 51
theorem nameM_none {l : Sees} {s : ByteArray} (h : look l s = none) (n : Nat) : nameM l s n = .bad n 51 := by
  unfold nameM
  rw [h]
theorem nameM_some {l : Sees} {s t : ByteArray} (h : look l s = some t) (ht : t.size ≤ 256) (n : Nat) : nameM l s n = .ok t n := by
  unfold nameM
  rw [h]
  unfold fin
  show (if 256 < t.size then M.bad n 43 else M.ok t n) = _
  rw [if_neg (by omega)]
set_option maxHeartbeats 4000000 in
set_option maxRecDepth 100000 in
theorem rmean_name (s : ByteArray) (sl : Option Addr) (m cap n : Nat) (nv : Value) (l : Sees) (W : World) (hn : n < 1000) (hl : l.length ≤ 1000) (hN : NS W nv l) (hsm : ∀ p ∈ l, p.2.size ≤ 256) :
    Calls Tryz.prog 24 #[.agg #[.int .i64 2, .string s, .slice sl m cap], nv, .int .i64 n] W fun e W' => e = .returned (ansV (nameM l s (n + 1))) ∧ Below W.heap.size W W' := by
  have hA := (Below.refl W.heap.size W).alloc (Nat.le_refl _) (.cells #[.int .i64 2, .string s, .slice sl m cap] 24)
  obtain ⟨c0, c1, c2, f0, f1, f2⟩ := obj3 (heap_alloc_new W (.cells #[.int .i64 2, .string s, .slice sl m cap] 24))
  have i1 : ((n : Int) == 1000) = false := beq_eq_false_iff_ne.2 (by omega)
  have HN := Lib.hid (hN.keep hA)
  obtain ⟨sv, cv, rfl, -, -, -⟩ := hN.form
  have hA2 := Lib.hid hA
  clear hN hA
  go_enter Tryz.func24, Tryz.ntmps24
  go_wp2_with fail
  go_loopw [9, 10, 11] (fun o e i wr => Below (W.alloc (.cells #[.int .i64 2, .string s, .slice sl m cap] 24)).heap.size (W.alloc (.cells #[.int .i64 2, .string s, .slice sl m cap] 24)) wr ∧ ((∃ k : Nat, k ≤ l.length ∧ i = .int .i64 ((k : Int) - 1) ∧ e = .int .i64 51 ∧ o = .string ⟨#[]⟩ ∧ look l s = look (l.drop (l.length - k)) s) ∨ (∃ (t : ByteArray) (q : Int), -1 ≤ q ∧ q ≤ 1000 ∧ i = .int .i64 q ∧ e = .int .i64 0 ∧ o = .string t ∧ look l s = some t ∧ t.size ≤ 256))) (fun _ e i _ => if RowKit.intOf e = 0 then 0 else (RowKit.intOf i + 1).toNat + 1)
  case atStart => exact ⟨Below.refl _ _, .inl ⟨l.length, Nat.le_refl _, rfl, rfl, rfl, by rw [Nat.sub_self]; rfl⟩⟩
  case round =>
    obtain ⟨hb1, hst⟩ := hrel
    have hbW := hA2.out.trans (hb1.mono hA2.out.size)
    have c0 := (hb1.cell (p := ⟨W.heap.size, 0, none⟩) (by simp)).trans c0
    have c1 := (hb1.cell (p := ⟨W.heap.size, 1, none⟩) (by simp)).trans c1
    have c2 := (hb1.cell (p := ⟨W.heap.size, 2, none⟩) (by simp)).trans c2
    rcases hst with ⟨k, hk, rfl, rfl, rfl, hlk⟩ | ⟨t, q, hq0, hq1, rfl, rfl, rfl, hlk, htz⟩
    · cases k with
      | zero =>
        have HL := Lib.hid (nameM_none (show look l s = none by rw [hlk, Nat.sub_zero, List.drop_length]; rfl) (n + 1))
        clear hlk
        go_wp2_with fail
        refine bodyPost_ret (mean_results rfl rfl rfl) rfl ?_
        rw [HL.out]
        exact ⟨rfl, hbW⟩
      | succ k =>
        have hj : l.length - (k + 1) < l.length := by omega
        obtain ⟨p, hp⟩ : ∃ p, l[l.length - (k + 1)]? = some p := ⟨_, List.getElem?_eq_getElem hj⟩
        have hpr : l.reverse[k]? = some p := by
          rw [List.getElem?_reverse (by omega), show l.length - 1 - k = l.length - (k + 1) by omega]
          exact hp
        have hmem : p ∈ l := List.mem_of_getElem? hp
        obtain ⟨sl', cap', e1, hcap, -, hcell⟩ := (HN.out.keep hb1).form
        cases e1
        obtain ⟨b, o, rfl, hb, d0, d1⟩ := hcell k p hpr
        have hi : (((k + 1 : Nat) : Int) - 1) = (k : Int) := by omega
        rw [hi]
        have hdrop : l.drop (l.length - (k + 1)) = p :: l.drop (l.length - k) := by
          rw [List.drop_eq_getElem_cons hj, show l.length - (k + 1) + 1 = l.length - k by omega]
          congr 1
          exact (List.getElem?_eq_some_iff.1 hp).2
        rw [hdrop, look] at hlk
        have hkl : (k : Int) < (l.length : Int) := by omega
        have hpz := hsm p hmem
        obtain ⟨p1, p2⟩ := p
        by_cases hps : p1 = s
        · rw [if_pos hps] at hlk
          have i2 : (p1.toList == s.toList) = true := by rw [hps]; exact beq_self_eq_true _
          have HL := Lib.hid hlk
          clear hlk hdrop hp hpr hcell hmem
          go_wp2_with fail
          go_quiet (fail)
          go_wp2_with fail
          refine ⟨⟨Sx.below_drewN hb1 _, .inr ⟨p2, (k : Int) - 1, by omega, by omega, rfl, rfl, rfl, HL.out, hpz⟩⟩, ?_⟩
          simp [RowKit.intOf]
        · rw [if_neg hps] at hlk
          have i2 : (p1.toList == s.toList) = false := beq_eq_false_iff_ne.2 fun e => hps (by
            rw [ByteArray.toList_eq, ByteArray.toList_eq] at e
            exact ByteArray.ext (Array.toList_inj.1 e))
          have HL := Lib.hid hlk
          clear hlk hdrop hp hpr hcell hmem
          go_wp2_with fail
          go_quiet (fail)
          go_wp2_with fail
          refine ⟨⟨Sx.below_drewN hb1 _, .inl ⟨k, by omega, rfl, rfl, rfl, HL.out⟩⟩, ?_⟩
          simp [RowKit.intOf]
    · have HL := Lib.hid (nameM_some hlk htz (n + 1))
      have htz2 : ¬ (256 : Int) < t.size := by omega
      clear hlk
      go_wp2_with fail
      all_goals
        refine bodyPost_ret (mean_results rfl rfl rfl) rfl ?_
        rw [HL.out]
        exact ⟨rfl, hbW⟩
end Ev
end Go.Proofs.YtflhmoelenmomaaGreatDoor

/-
  Walk: the reference's Mean: sums.
-/
namespace Go.Proofs.YtflhmoelenmomaaGreatDoor
open Go.RowKit Go.Lib
namespace Ev
open Rc

/-- what Mean answers of x, wherever it lies -/
def MH (x : E) : Prop := ∀ (W : World) (S : Nat → Prop) (v nv : Value) (l : Sees) (n : Nat), (∀ b, S b → b < W.heap.size) → RepX W S x v → NS W nv l → n ≤ 1000 → l.length ≤ n → (∀ p ∈ l, p.2.size ≤ 256) →
  Calls Tryz.prog 24 #[v, nv, .int .i64 n] W fun e W' => e = .returned (ansV (mean x l n)) ∧ Below W.heap.size W W'
set_option maxHeartbeats 4000000 in
set_option maxRecDepth 100000 in
theorem rmean_cat (s : ByteArray) (ks : List E) (ih : ∀ x ∈ ks, MH x) (hsm : ∀ x ∈ ks, ∀ l n t n', mean x l n = .ok t n' → t.size ≤ 256) (hkl : ks.length ≤ 20000) (W : World) (S : Nat → Prop) (v nv : Value) (l : Sees) (n : Nat) (hS : ∀ b, S b → b < W.heap.size) (hr : RepX W S (.mk 3 s ks) v) (hN : NS W nv l) (hn : n < 1000) (hl : l.length ≤ n) (hls : ∀ p ∈ l, p.2.size ≤ 256) :
    Calls Tryz.prog 24 #[v, nv, .int .i64 n] W fun e W' => e = .returned (ansV (meanCat ks l (n + 1) ⟨#[]⟩)) ∧ Below W.heap.size W W' := by
  cases hr with
  | mk _ _ _ sl cap x1 y1 z1 hcap hc hrk =>
    have hA := (Below.refl W.heap.size W).alloc (Nat.le_refl _) (.cells #[.int .i64 3, .string s, .slice sl ks.length cap] 24)
    obtain ⟨c0, c1, c2, f0, f1, f2⟩ := obj3 (heap_alloc_new W (.cells #[.int .i64 3, .string s, .slice sl ks.length cap] 24))
    have i1 : ((n : Int) == 1000) = false := beq_eq_false_iff_ne.2 (by omega)
    have HN := Lib.hid hN
    have HC := Lib.hid hc
    have HR := Lib.hid hrk
    have HS := Lib.hid hS
    have HI := Lib.hid ih
    have HM := Lib.hid hsm
    have HL := Lib.hid hls
    obtain ⟨sv, cv, rfl, -, -, -⟩ := hN.form
    have hA2 := Lib.hid hA
    clear hN hA hc hrk hS ih hsm hls
    go_enter Tryz.func24, Tryz.ntmps24
    go_wp2_with fail
    go_loopw [2, 9, 10, 67] (fun bg o e i wr => ∃ (k n' : Nat) (out : ByteArray), k ≤ ks.length ∧ i = .int .i64 (k : Int) ∧ bg = .int .i64 (n' : Int) ∧ o = .string out ∧ e = .int .i64 0 ∧ meanCat (ks.drop k) l n' out = meanCat ks l (n + 1) ⟨#[]⟩ ∧ out.size ≤ 256 * k ∧ n + 1 ≤ n' ∧ n' ≤ 1000 ∧ Below (W.heap.size + 1) (W.alloc (.cells #[.int .i64 3, .string s, .slice sl ks.length cap] 24)) wr) (fun _ _ _ i _ => ks.length - (RowKit.intOf i).toNat)
    case atStart => exact ⟨0, n + 1, ⟨#[]⟩, Nat.zero_le _, rfl, by push_cast; rfl, rfl, rfl, rfl, Nat.le_refl _, Nat.le_refl _, by omega, Below.refl _ _⟩
    case round =>
      obtain ⟨k, n', out, hk, rfl, rfl, rfl, rfl, hm, hos, hn1, hn2, hb⟩ := hrel
      have hbW := hA2.out.trans (hb.mono (by omega))
      by_cases hlt : k < ks.length
      · obtain ⟨u, hu⟩ : ∃ u, ks[k]? = some u := ⟨ks[k], List.getElem?_eq_getElem hlt⟩
        obtain ⟨b, o, e1, hSb, d0, d1, d2⟩ := HC.out k u hu
        have hru := HR.out k u hu
        obtain ⟨kd, σ, sl', m', cap', hv⟩ := hru.vals
        have hv1 := congrArg (fun v => match v with | .agg a => a.toList | _ => []) hv
        simp at hv1
        obtain ⟨hx1, hy1, hz1⟩ := hv1
        subst e1
        have hbl := HS.out b hSb
        have g0 := (hbW.cell (p := ⟨b, o + k * 3, none⟩) hbl).trans (d0.trans (congrArg some hx1))
        have g1 := (hbW.cell (p := ⟨b, o + k * 3 + 1, none⟩) hbl).trans (d1.trans (congrArg some hy1))
        have g2 := (hbW.cell (p := ⟨b, o + k * 3 + 2, none⟩) hbl).trans (d2.trans (congrArg some hz1))
        rw [hv] at hru
        have hb3 := hbW.alloc hbW.size (.cells #[.int .i64 kd, .string σ, .slice sl' m' cap'] 24)
        have hq := HI.out u (List.mem_of_getElem? hu) (wr.alloc (.cells #[.int .i64 kd, .string σ, .slice sl' m' cap'] 24)) S _ _ l n' (fun b hb => Nat.lt_of_lt_of_le (HS.out b hb) hb3.size) (hru.move fun b hb => ⟨hb, hb3.block b (HS.out b hb)⟩) (HN.out.keep hb3) hn2 (by omega) HL.out
        have hdr : ks.drop k = u :: ks.drop (k + 1) := by
          obtain ⟨h1, h2⟩ := List.getElem?_eq_some_iff.1 hu
          rw [List.drop_eq_getElem_cons h1, h2]
        rw [hdr, meanCat] at hm
        have hrg := mean_rg u l n' hn2
        cases hmn : mean u l n' with
        | bad n2 e2 =>
          rw [hmn] at hm hq hrg
          simp only [ansV] at hq
          have HF := Lib.hid hm
          have he2 : ¬ e2 = 0 := by
            have := mean_er u l n' n2 e2 hmn
            omega
          have hk2 : n2 ≤ 1000 := hrg.2.1
          clear hm hru hu d0 d1 d2 hv hx1 hy1 hz1 hSb hbl hdr
          go_wp2_with (go_at_call 24; refine hq.mono ?_; rintro e W3 ⟨rfl, hB3⟩; have hB4 := hb3.trans (hB3.mono hb3.size))
          refine bodyPost_ret (mean_results rfl rfl rfl) rfl ?_
          rw [← HF.out]
          exact ⟨rfl, hB4⟩
        | ok t n2 =>
          rw [hmn] at hm hq hrg
          simp only [ansV] at hq
          have htz := HM.out u (List.mem_of_getElem? hu) _ _ _ _ hmn
          have hadd : ∀ w : World, (Op.stringOp .add out t).run Tryz.prog w = .ok (.string (out ++ t)) w := fun w => run_string_add_sum _ _ _ (by omega)
          have HF := Lib.hid hm
          have hn3 : n' ≤ n2 := hrg.1
          have hn4 : n2 ≤ 1000 := hrg.2.1
          clear hm hru hu d0 d1 d2 hv hx1 hy1 hz1 hSb hbl hdr hrg
          go_wp2_with (go_at_call 24; refine hq.mono ?_; rintro e W3 ⟨rfl, hB3⟩; have hB4 := hb3.trans (hB3.mono hb3.size))
          refine ⟨⟨k + 1, n2, out ++ t, hlt, by push_cast; rfl, rfl, rfl, rfl, HF.out, by rw [ByteArray.size_append]; omega, by omega, hn4, ?_⟩, ?_⟩
          · have h1 : W.heap.size + 1 ≤ wr.heap.size := by have := hb.size; simp at this; exact this
            exact (hb.alloc h1 _).trans (hB3.mono (by simp; omega))
          · simp only [RowKit.intOf]
            omega
      · have hm2 : fin out n' = meanCat ks l (n + 1) ⟨#[]⟩ := by
          rw [← hm, List.drop_of_length_le (by omega), meanCat]
        have HF := Lib.hid hm2
        clear hm hm2
        by_cases h : 256 < out.size
        · have HG := Lib.hid (show fin out n' = .bad n' 43 by unfold fin; rw [if_pos h])
          have i2 : (256 : Int) < out.size := by omega
          clear h
          go_wp2_with fail
          refine bodyPost_ret (mean_results rfl rfl rfl) rfl ?_
          rw [← HF.out, HG.out]
          exact ⟨rfl, hbW⟩
        · have HG := Lib.hid (show fin out n' = .ok out n' by unfold fin; rw [if_neg h])
          have i2 : ¬ (256 : Int) < out.size := by omega
          clear h
          go_wp2_with fail
          refine bodyPost_ret (mean_results rfl rfl rfl) rfl ?_
          rw [← HF.out, HG.out]
          exact ⟨rfl, hbW⟩
end Ev
end Go.Proofs.YtflhmoelenmomaaGreatDoor
