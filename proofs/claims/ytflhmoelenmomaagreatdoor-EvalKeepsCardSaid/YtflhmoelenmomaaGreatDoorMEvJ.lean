/-
  The machine: done.
-/
import Derived.Test.YtflhmoelenmomaaGreatDoorMEvI
import Derived.Lib.Join
namespace Go.Proofs.YtflhmoelenmomaaGreatDoor
open Go.RowKit Go.Lib
namespace Ev
open Rc

theorem done_results {tmps : Array Value} {X : World} {x : ByteArray} {c : Bool} (t4 : tmps[4]? = some (.string x)) (t5 : tmps[5]? = some (.bool c)) :
    (results Tryz.f39 tmps).run Tryz.prog X = .ok (.tuple #[.string x, .bool c]) X := by
  simp [results, Tryz.results39, go_sem, t4, t5]
theorem own_cap {W : World} {B e size n n' cap : Nat} {a : Addr} {xs : List Value} (h : W.ownsRow B e size (.slice (some a) n cap) n' xs) : n ≤ cap := by
  rcases h.2 with ⟨h0, _⟩ | ⟨g, cap', cur, h0, _, _, h3, _⟩
  · simp at h0
  · simp at h0; omega
set_option maxHeartbeats 2000000 in
set_option maxRecDepth 100000 in
theorem done_long {W0 W : World} {S : Nat → Prop} {b : Nat} {sv : Value} {qs : List FV} {st : List Fr} {n : Nat} (h : MI W0 W S b sv qs st n 0) (hS : ∀ k, S k → k < W0.heap.size) (s : ByteArray) (hs : 256 < s.size) :
    Calls Tryz.prog 39 #[.pointer (some ⟨b, 0, none⟩), .string s] W fun e W' => e = .returned (.tuple #[.string ⟨#[]⟩, .bool false]) ∧ MI W0 W' S b sv qs st n 43 := by
  obtain ⟨c0, c1, c2, f0, f1, f2⟩ := obj3 h.obj
  have i1 : (256 : Int) < s.size := by omega
  have H1 := Lib.hid h
  have HS := Lib.hid hS
  clear h hS hs
  go_enter Tryz.func39, Tryz.ntmps39
  go_wp2_with fail
  refine bodyPost_ret (done_results rfl rfl) rfl ?_
  exact ⟨rfl, H1.out.fault HS.out 43⟩
theorem MI.row_at {W0 W : World} {S : Nat → Prop} {b g cap : Nat} {qs : List FV} {q : FV} {st : List Fr} {n : Nat} {flt : Int} {k : Nat} (h : MI W0 W S b (.slice (some ⟨g, 0, none⟩) (k + 1) cap) (qs ++ [q]) st n flt) (hk : qs.length = k) : ∀ j u, q.cells[j]? = some u → W.cell? ⟨g, k * 5 + j, none⟩ = some u := by
  intro j u hu
  subst hk
  have h1 := h.row.cells (g := g) rfl _ _ (rowF_at (qs ++ [q]) qs.length q (by simp) j u hu)
  have hadd : ∀ n, (⟨g, 0, none⟩ : Addr).add n = ⟨g, n, none⟩ := fun n => by unfold Addr.add; split <;> simp_all
  rwa [hadd] at h1
/-- the last frame's row -/
theorem MI.last {W0 W : World} {S : Nat → Prop} {b : Nat} {sv : Value} {qs : List FV} {f : Fr} {st : List Fr} {n : Nat} {flt : Int} (h : MI W0 W S b sv qs (f :: st) n flt) : ∃ qs' q g cap, qs = qs' ++ [q] ∧ sv = .slice (some ⟨g, 0, none⟩) (qs'.length + 1) cap ∧ qs'.length = st.length ∧ FO W S (b + 1) q f := by
  have hl : qs.length = st.length + 1 := by simpa using h.len
  obtain ⟨qs', q, rfl⟩ : ∃ qs' q, qs = qs' ++ [q] := ⟨qs.dropLast, qs.getLast (by intro e; rw [e] at hl; simp at hl), (List.dropLast_concat_getLast _).symm⟩
  have hl' : qs'.length = st.length := by simpa using hl
  obtain ⟨g, cap, hv, _⟩ := h.row.form (by simp)
  refine ⟨qs', q, g, cap, rfl, by rw [hv]; simp, hl', h.fr qs'.length q f (by simp) (by rw [hl']; simp)⟩
set_option maxHeartbeats 2000000 in
set_option maxRecDepth 100000 in
theorem done_last {W0 W : World} {S : Nat → Prop} {b : Nat} {sv : Value} {qs : List FV} {f : Fr} {n : Nat} (h : MI W0 W S b sv qs [f] n 0) (hS : ∀ k, S k → k < W0.heap.size) (s : ByteArray) (hs : s.size ≤ 256) :
    Calls Tryz.prog 39 #[.pointer (some ⟨b, 0, none⟩), .string s] W fun e W' => e = .returned (.tuple #[.string s, .bool true]) ∧ ∃ sv' qs', MI W0 W' S b sv' qs' [] n 0 := by
  obtain ⟨qs', q, g, cap, rfl, rfl, hl, -⟩ := h.last
  obtain rfl : qs' = [] := List.eq_nil_of_length_eq_zero (by simpa using hl)
  obtain ⟨c0, c1, c2, f0, f1, f2⟩ := obj3 h.obj
  have hcap : 1 ≤ cap := own_cap h.row
  have i1 : ¬ (256 : Int) < s.size := by omega
  have hbl := h.lt
  have H1 := Lib.hid h
  have HS := Lib.hid hS
  have e0 := Kp.cell (w := W) (K := fun k => k = b) (a := ⟨b, 0, none⟩) rfl c0
  clear h hS hs hl
  simp only [List.length_nil, Nat.zero_add] at *
  go_enter Tryz.func39, Tryz.ntmps39
  go_wp2_with fail
  refine Mix.region (fun w' => ∃ Y, w' = Kp.kp W (fun k => k = b) Y) 12 [0, 0, 0, 0, 0, 0, 0, 0, 0, 0, 0, 0, 9, 9, 9] [true] (by kernel_rfl) (fun _ _ d _ _ h => by cases d <;> exact h) (by rfl) (by kernel_rfl) (Kp.of fun _ _ => rfl) ?_
  simp only [Mix.selP_cons, Mix.selP_nil, Mix.sel_cons, Mix.sel_nil, Nat.reduceBEq, Nat.reduceAdd, cond_true, cond_false, List.drop_succ_cons, List.drop_zero]
  refine Mix.parts_q ?_
  repeat (go_big_quiet_step (fail))
  refine wpQuiet_nil ?_
  refine Mix.parts_n ?_
  have hP := (show MI W0 W S b (.slice (some ⟨g, 0, none⟩) (([] : List FV).length + 1) cap) ([] ++ [q]) [f] n 0 from H1.out).pop HS.out
  have hPd : MI W0 ((W.setCell ⟨b, 0, none⟩ (.slice (some ⟨g, 0, none⟩) 0 cap)).drew) S b (.slice (some ⟨g, 0, none⟩) 0 cap) [] [] n 0 := hP.keep HS.out (Below.refl _ _).drew
  have HP := Lib.hid hPd
  clear hP hPd e0
  go_wp2_with fail
  refine bodyPost_ret (done_results rfl rfl) rfl ?_
  exact ⟨rfl, _, _, HP.out⟩
set_option maxHeartbeats 2000000 in
set_option maxRecDepth 100000 in
theorem done_next {W0 W : World} {S : Nat → Prop} {b : Nat} {sv : Value} {qs : List FV} {f f' : Fr} {st : List Fr} {n : Nat} (h : MI W0 W S b sv qs (f :: f' :: st) n 0) (hl : st.length ≤ 1000) (hv : f'.vals.length ≤ 1000) (hS : ∀ k, S k → k < W0.heap.size) (s : ByteArray) (hs : s.size ≤ 256) :
    Calls Tryz.prog 39 #[.pointer (some ⟨b, 0, none⟩), .string s] W fun e W' => e = .returned (.tuple #[.string ⟨#[]⟩, .bool false]) ∧ ∃ sv' qs', MI W0 W' S b sv' qs' (⟨f'.x, f'.vals ++ [s], f'.sees⟩ :: st) n 0 := by
  obtain ⟨i0, hi0, hz0, hz1, hz2⟩ := info_ps info_string
  obtain ⟨qs1, q1, g, cap, rfl, rfl, hl1, -⟩ := h.last
  have hP := h.pop hS
  obtain ⟨qs', q, g', cap', rfl, hsv, hl2, hfo⟩ := hP.last
  have hP' : MI W0 ((W.setCell ⟨b, 0, none⟩ (.slice (some ⟨g, 0, none⟩) (qs'.length + 1) cap)).drew) S b (.slice (some ⟨g, 0, none⟩) (qs'.length + 1) cap) (qs' ++ [q]) (f' :: st) n 0 := by
    have := hP.keep hS (Below.refl _ _).drew
    simp only [List.length_append, List.length_cons, List.length_nil, Nat.zero_add] at this
    exact this
  obtain ⟨c0, c1, c2, f0, f1, f2⟩ := obj3 h.obj
  have hcap : (qs' ++ [q]).length + 1 ≤ cap := own_cap h.row
  have i1 : ¬ (256 : Int) < s.size := by omega
  have hbl := h.lt
  have hlo := h.lo
  have HS := Lib.hid hS
  have HP := Lib.hid hP'
  have hk : qs'.length ≤ 1000 := by omega
  simp only [List.length_append, List.length_cons, List.length_nil, Nat.zero_add] at *
  have e0 := Kp.cell (w := W) (K := fun k => k = b) (a := ⟨b, 0, none⟩) rfl c0
  generalize hK : qs'.length = k at *
  clear h hS hs hl hP hP' hfo hsv hl1 hl2
  go_enter Tryz.func39, Tryz.ntmps39
  go_wp2_with fail
  refine Mix.region (fun w' => ∃ Y, w' = Kp.kp W (fun k => k = b) Y) 12 [0, 0, 0, 0, 0, 0, 0, 0, 0, 0, 0, 0, 9, 9, 9] [true] (by kernel_rfl) (fun _ _ d _ _ h => by cases d <;> exact h) (by rfl) (by kernel_rfl) (Kp.of fun _ _ => rfl) ?_
  simp only [Mix.selP_cons, Mix.selP_nil, Mix.sel_cons, Mix.sel_nil, Nat.reduceBEq, Nat.reduceAdd, cond_true, cond_false, List.drop_succ_cons, List.drop_zero]
  refine Mix.parts_q ?_
  repeat (go_big_quiet_step (fail))
  refine wpQuiet_nil ?_
  refine Mix.parts_n ?_
  have hr0 := HP.out.row_at hK
  go_wp2_with fail
  clear e0 c0 c1 c2 f0 f1 f2
  have hP := HP.out
  clear HP
  obtain ⟨hgb, hgl⟩ := hP.svb (g := g) rfl
  generalize (W.setCell ⟨b, 0, none⟩ (.slice (some ⟨g, 0, none⟩) (k + 1) cap)).drew = w1 at *
  obtain ⟨c0, c1, c2, f0, f1, f2⟩ := obj3 hP.obj
  have HP := Lib.hid hP
  clear hP
  go_quiet (fail)
  have hP := HP.out.keep HS.out (below_drewN (Below.refl _ _) nq)
  clear c0 c1 c2 f0 f1 f2 hr0 HP
  generalize w1.drewN nq = w2 at *
  have hr0 := hP.row_at hK 3 _ rfl
  have hfz := (show w2.ownsRow (b + 1) 87 5 (.slice (some ⟨g, 0, none⟩) (k + 1) cap) (k + 1) (rowF (qs' ++ [q])) by have := hP.row; simp only [List.length_append, List.length_cons, List.length_nil, Nat.zero_add, hK] at this; exact this).frozenAt (k * 5 + 3)
  obtain ⟨hgb, hgl⟩ := hP.svb (g := g) rfl
  have hl5 : st.length = k := by
    have := hP.len
    simp at this
    omega
  have hfo : FO w2 S (b + 1) q f' := hP.fr k q f' (by rw [← hK]; simp) (by rw [← hl5]; simp)
  have hA := (Below.refl w2.heap.size w2).alloc (Nat.le_refl _) (.cells #[.string s] 9)
  have hP3 := hP.keep HS.out hA
  have hval : (w2.alloc (.cells #[.string s] 9)).ownsRow (b + 1) 9 1 (.slice q.va q.vn q.vc) f'.vals.length (f'.vals.map Value.string) := hfo.vals.alloc _
  have hs1 : (w2.alloc (.cells #[.string s] 9)).heap.size = w2.heap.size + 1 := by simp
  have HP3 := Lib.hid hP3
  have HV := Lib.hid hval
  have hb2 : b < w2.heap.size := hP.lt
  clear hP3 hval hfo hP
  go_wp2_with (first
    | (at_builtin; refine wpList_append_lies _ rfl _ _ 85 rfl (b + 1) 9 i0 _ 1 16 Tryz.underlying85 hi0 hz0 hz1 hz2 rfl (by decide) (.slice q.va q.vn q.vc) f'.vals.length _ rfl HV.out ⟨w2.heap.size, 0, none⟩ 1 1 [.string s] rfl rfl (cell_one_new _ _ _) (by intro u hu; simp at hu; subst hu; rfl) (by decide) ?c3 ?c4 ?c5 (w2.heap.size + 1) (by simp) ?_))
  case c3 => unfold maxLen; omega
  case c4 => omega
  case c5 => simp; omega
  intro G c w3 hown2 hgr hat hlt2
  have hT : TO w3 (b + 1) (.slice (some ⟨G, 0, none⟩) (f'.vals.length + 1) c) (f'.vals ++ [s]) := by
    unfold TO
    simpa using hown2
  have hV := (show MI W0 (w2.alloc (.cells #[.string s] 9)) S b (.slice (some ⟨g, 0, none⟩) (qs'.length + 1) cap) (qs' ++ [q]) (f' :: st) n 0 by rw [hK]; exact HP3.out).val HS.out hgr hT (by rw [hs1]; exact hat)
  rw [hK] at hV
  have hoff := HP3.out.off k q (by rw [← hK]; simp)
  have hgk : w3.heap[g]? = (w2.alloc (.cells #[.string s] 9)).heap[g]? := hgr.block g (by omega) fun e => by
    rcases hoff with h1 | h1
    · have h2 : (Value.slice q.va q.vn q.vc).ownBlock = none := h1
      rw [h2] at e; cases e
    · exact h1 e.symm
  have r3 : w3.cell? ⟨g, k * 5 + 3, none⟩ = some q.vs := (World.cell?_of_block hgk).trans ((hA.cell (p := ⟨g, k * 5 + 3, none⟩) hgl).trans hr0)
  have z3 : w3.frozen? ⟨g, k * 5 + 3, none⟩ = false := (World.frozen?_of_block hgk).trans ((World.frozen?_of_block (a := ⟨g, k * 5 + 3, none⟩) (hA.block g hgl)).trans hfz)
  have HVV := Lib.hid hV
  clear hV hT hown2 hgr hat hlt2 hoff hgk hr0 hfz hA HP3 HV
  go_wp2_with fail
  refine bodyPost_ret (done_results rfl rfl) rfl ?_
  exact ⟨rfl, _, _, HVV.out⟩
end Ev
end Go.Proofs.YtflhmoelenmomaaGreatDoor

/-
  The machine: what holds of the frames on the way; done and begin whatever comes.
-/
namespace Go.Proofs.YtflhmoelenmomaaGreatDoor
open Go.RowKit Go.Lib
namespace Ev
open Rc

structure Ok (st : List Fr) (n : Nat) : Prop where
  wf : ∀ f ∈ st, Wf f.x
  load : (st.map fun f => f.vals.length + 1).sum ≤ n
  small : ∀ f ∈ st, ∀ t ∈ f.vals, t.size ≤ 256
  top : n ≤ 1000
def RO : R → Prop
  | .go st n => Ok st n
  | _ => True
theorem begin_ok {x : E} {l : Sees} {st : List Fr} {n : Nat} (h : Ok st n) (hx : Wf x) : RO (beginM x l st n) := by
  unfold beginM
  split
  · trivial
  · refine ⟨fun f hf => ?_, ?_, fun f hf t ht => ?_, by have := h.top; omega⟩
    · rcases List.mem_cons.1 hf with rfl | hf
      · exact hx
      · exact h.wf f hf
    · have := h.load
      simp only [List.map_cons, List.sum_cons, List.length_nil]
      omega
    · rcases List.mem_cons.1 hf with rfl | hf
      · cases ht
      · exact h.small f hf t ht
theorem done_ok {s : ByteArray} {f : Fr} {st : List Fr} {n : Nat} (h : Ok (f :: st) n) : RO (doneM s st n) := by
  unfold doneM
  split
  · trivial
  · cases st with
    | nil => trivial
    | cons f' st =>
      have hl := h.load
      simp only [List.map_cons, List.sum_cons] at hl
      refine ⟨fun g hg => ?_, ?_, fun g hg t ht => ?_, h.top⟩
      · rcases List.mem_cons.1 hg with rfl | hg
        · exact h.wf f' (by simp)
        · exact h.wf g (by simp [hg])
      · simp only [List.map_cons, List.sum_cons, List.length_append, List.length_cons, List.length_nil]
        omega
      · rcases List.mem_cons.1 hg with rfl | hg
        · rcases List.mem_append.1 ht with ht | ht
          · exact h.small f' (by simp) t ht
          · simp at ht
            subst ht
            omega
        · exact h.small g (by simp [hg]) t ht
theorem wf_kid {x : E} (h : Wf x) {i : Nat} {u : E} (hu : x.kids[i]? = some u) : Wf u := by
  cases h with
  | mk k s ks _ hk => exact hk u (List.mem_of_getElem? hu)
theorem turn_ok {f : Fr} {st : List Fr} {n : Nat} (h : Ok (f :: st) n) : RO (turnM f st n) := by
  have hw := h.wf f (by simp)
  have hb : ∀ (i : Nat) (l : Sees), RO (match f.x.kids[i]? with | some k => beginM k l (f :: st) n | none => .bad n 0) := fun i l => by
    cases hk : f.x.kids[i]? with
    | none => trivial
    | some u => exact begin_ok h (wf_kid hw hk)
  unfold turnM
  split
  · exact done_ok h
  split
  · split
    · exact done_ok h
    · trivial
  split
  · exact done_ok h
  split
  · exact done_ok h
  split
  · exact hb 3 _
  split
  · exact hb 1 _
  · exact hb _ _
theorem Ok.len {st : List Fr} {n : Nat} (h : Ok st n) : st.length ≤ 1000 := by
  have h1 := h.load
  have h2 := h.top
  have : ∀ l : List Fr, l.length ≤ (l.map fun f => f.vals.length + 1).sum := by
    intro l
    induction l with
    | nil => simp
    | cons a l ih => simp only [List.map_cons, List.sum_cons, List.length_cons]; omega
  have := this st
  omega
theorem Ok.vals {st : List Fr} {n : Nat} (h : Ok st n) : ∀ f ∈ st, f.vals.length ≤ 1000 := by
  have h1 := h.load
  have h2 := h.top
  have : ∀ l : List Fr, ∀ f ∈ l, f.vals.length ≤ (l.map fun f => f.vals.length + 1).sum := by
    intro l
    induction l with
    | nil => simp
    | cons a l ih =>
      intro f hf
      simp only [List.map_cons, List.sum_cons]
      rcases List.mem_cons.1 hf with rfl | hf
      · omega
      · have := ih f hf
        omega
  intro f hf
  have := this st f hf
  omega
/-! what done and turn answer -/
def rs : R → ByteArray
  | .all s _ => s
  | _ => ⟨#[]⟩
def rb : R → Bool
  | .all _ _ => true
  | _ => false
/-- the machine in memory behind a turn -/
def TV (W0 : World) (S : Nat → Prop) (b : Nat) (r : R) (W' : World) : Prop := match r with
  | .go st n => ∃ sv qs, MI W0 W' S b sv qs st n 0
  | .all _ n => ∃ sv qs, MI W0 W' S b sv qs [] n 0
  | .bad n k => ∃ sv qs st, MI W0 W' S b sv qs st n k
theorem done_any {W0 W : World} {S : Nat → Prop} {b : Nat} {sv : Value} {qs : List FV} {f : Fr} {st : List Fr} {n : Nat} (h : MI W0 W S b sv qs (f :: st) n 0) (hok : Ok (f :: st) n) (hS : ∀ k, S k → k < W0.heap.size) (s : ByteArray) :
    Calls Tryz.prog 39 #[.pointer (some ⟨b, 0, none⟩), .string s] W fun e W' => e = .returned (.tuple #[.string (rs (doneM s st n)), .bool (rb (doneM s st n))]) ∧ TV W0 S b (doneM s st n) W' := by
  by_cases hs : 256 < s.size
  · rw [show doneM s st n = .bad n 43 by unfold doneM; rw [if_pos hs]]
    refine (done_long h hS s hs).mono ?_
    rintro e W' ⟨rfl, hM⟩
    exact ⟨rfl, _, _, _, hM⟩
  · rw [show doneM s st n = ret s st n by unfold doneM; rw [if_neg hs]]
    cases st with
    | nil =>
      refine (done_last h hS s (by omega)).mono ?_
      rintro e W' ⟨rfl, hM⟩
      exact ⟨rfl, hM⟩
    | cons f' st =>
      refine (done_next h (by have := hok.len; simp at this; omega) (hok.vals f' (by simp)) hS s (by omega)).mono ?_
      rintro e W' ⟨rfl, hM⟩
      exact ⟨rfl, hM⟩
theorem begin_any {W0 W : World} {S : Nat → Prop} {b n : Nat} {sv : Value} {qs : List FV} {st : List Fr} (h : MI W0 W S b sv qs st n 0) (hok : Ok st n) (hS : ∀ k, S k → k < W0.heap.size) (kd : Int) (s : ByteArray) (sl : Option Addr) (m cap : Nat) (sp : Option Addr) (x : E) (l : Sees) (hx : RepX W S x (.agg #[.int .i64 kd, .string s, .slice sl m cap])) (hL : Lk W (.pointer sp) l) :
    Calls Tryz.prog 21 #[.pointer (some ⟨b, 0, none⟩), .agg #[.int .i64 kd, .string s, .slice sl m cap], .pointer sp] W fun e W' => e = .returned (.tuple #[]) ∧ TV W0 S b (beginM x l st n) W' := by
  by_cases hn : n = 1000
  · subst hn
    refine (begin_full h hS kd s sl m cap (.pointer sp)).mono ?_
    rintro e W' ⟨rfl, hM⟩
    exact ⟨rfl, _, _, _, hM⟩
  · rw [show beginM x l st n = .go (⟨x, [], l⟩ :: st) (n + 1) by unfold beginM; rw [if_neg hn]]
    refine (begin_room h (by have := hok.top; omega) hok.len hS kd s sl m cap sp x l hx hL).mono ?_
    rintro e W' ⟨rfl, hM⟩
    exact ⟨rfl, hM⟩
/-! reading a frame -/
theorem FO.vn {W : World} {S : Nat → Prop} {B : Nat} {q : FV} {f : Fr} (h : FO W S B q f) : q.vn = f.vals.length := by
  rcases h.vals.2 with ⟨h1, h2⟩ | ⟨g, cap, cur, h1, _⟩
  · simp only [FV.vs, Value.slice.injEq] at h1
    omega
  · simp only [FV.vs, Value.slice.injEq] at h1
    omega
theorem FO.vcap {W : World} {S : Nat → Prop} {B : Nat} {q : FV} {f : Fr} (h : FO W S B q f) : f.vals.length ≤ q.vc := by
  rcases h.vals.2 with ⟨h1, h2⟩ | ⟨g, cap, cur, h1, _, _, h2, _⟩
  · omega
  · simp only [FV.vs, Value.slice.injEq] at h1
    omega
theorem FO.vat {W : World} {S : Nat → Prop} {B : Nat} {q : FV} {f : Fr} (h : FO W S B q f) (h0 : 0 < f.vals.length) : ∃ g, q.va = some ⟨g, 0, none⟩ ∧ B ≤ g ∧ g < W.heap.size ∧ ∀ i t, f.vals[i]? = some t → W.cell? ⟨g, i, none⟩ = some (.string t) := by
  obtain ⟨g, cap, h1, h2, h3⟩ := h.vals.form h0
  simp only [FV.vs, Value.slice.injEq] at h1
  refine ⟨g, h1.1, h2, h3, fun i t ht => ?_⟩
  have hadd : ∀ n, (⟨g, 0, none⟩ : Addr).add n = ⟨g, n, none⟩ := fun n => by unfold Addr.add; split <;> simp_all
  have := h.vals.cells (g := g) (by show (Value.slice q.va q.vn q.vc).ownBlock = _; rw [h1.1]; rfl) i (.string t) (by rw [List.getElem?_map, ht]; rfl)
  rwa [hadd] at this
theorem rep_mk {W : World} {S : Nat → Prop} {k : Int} {s : ByteArray} {ks : List E} {kd : Int} {σ : ByteArray} {sl : Option Addr} {m cap : Nat} (h : RepX W S (.mk k s ks) (.agg #[.int .i64 kd, .string σ, .slice sl m cap])) : kd = k ∧ σ = s ∧ m = ks.length ∧ ks.length ≤ cap := by
  cases h with
  | mk _ _ _ _ _ _ _ _ hcap _ _ => exact ⟨rfl, rfl, rfl, hcap⟩
/-- a kid in memory -/
theorem kid_at {W : World} {S : Nat → Prop} {k : Int} {s : ByteArray} {ks : List E} {kd : Int} {σ : ByteArray} {sl : Option Addr} {m cap : Nat} (hS : ∀ b, S b → b < W.heap.size) (h : RepX W S (.mk k s ks) (.agg #[.int .i64 kd, .string σ, .slice sl m cap])) {i : Nat} {u : E} (hu : ks[i]? = some u) :
    ∃ b o, sl = some ⟨b, o, none⟩ ∧ S b ∧ ∃ kd' σ' sl' m' cp', Kid W S b o i u kd' σ' sl' m' cp' := by
  cases h with
  | mk _ _ _ _ _ x1 y1 z1 hcap hc hrk =>
    obtain ⟨b', o', e, hSb, d0, d1, d2⟩ := hc i u hu
    have hru := hrk i u hu
    obtain ⟨kd, σ, sl', m', cap', hv⟩ := hru.vals
    have hv1 := congrArg (fun v => match v with | .agg a => a.toList | _ => []) hv
    simp at hv1
    obtain ⟨hx1, hy1, hz1⟩ := hv1
    rw [hv] at hru
    exact ⟨b', o', e, hSb, kd, σ, sl', m', cap', hS b' hSb, d0.trans (congrArg some hx1), d1.trans (congrArg some hy1), d2.trans (congrArg some hz1), hru⟩
theorem joinTail_nil (r : List (List UInt8)) : joinTail [] r = r.flatten := by simp [joinTail]
theorem flat_concat : ∀ (vs : List ByteArray) (a : ByteArray), (vs.foldl (· ++ ·) a).data.toList = a.data.toList ++ (vs.map (·.data.toList)).flatten
  | [], a => by simp
  | v :: vs, a => by
    rw [List.foldl_cons, flat_concat vs]
    simp
theorem join_concat (vs : List ByteArray) : (⟨(Lib.join (vs.map (·.data.toList)) []).toArray⟩ : ByteArray) = concat vs := by
  have h : Lib.join (vs.map (·.data.toList)) [] = (vs.map (·.data.toList)).flatten := by
    cases vs with
    | nil => rfl
    | cons v vs => rw [List.map_cons, join_cons, joinTail_nil, List.flatten_cons]
  rw [h]
  have := flat_concat vs ⟨#[]⟩
  unfold concat
  apply ByteArray.ext
  apply Array.toList_inj.1
  rw [this]
  simp
theorem flat_len : ∀ (vs : List ByteArray), (∀ t ∈ vs, t.size ≤ 256) → ((vs.map (·.data.toList)).flatten).length ≤ 256 * vs.length
  | [], _ => by simp
  | v :: vs, h => by
    have ih := flat_len vs fun t ht => h t (by simp [ht])
    have hv := h v (by simp)
    have : v.data.toList.length = v.size := rfl
    simp only [List.map_cons, List.flatten_cons, List.length_append, List.length_cons]
    omega
theorem join_len (vs : List ByteArray) (h : ∀ t ∈ vs, t.size ≤ 256) (hl : vs.length ≤ 1000) : (Lib.join (vs.map (·.data.toList)) []).length ≤ 140737488355328 := by
  have h1 : Lib.join (vs.map (·.data.toList)) [] = (vs.map (·.data.toList)).flatten := by
    cases vs with
    | nil => rfl
    | cons v vs => rw [List.map_cons, join_cons, joinTail_nil, List.flatten_cons]
  have h2 := flat_len vs h
  rw [h1]
  omega
end Ev
end Go.Proofs.YtflhmoelenmomaaGreatDoor
