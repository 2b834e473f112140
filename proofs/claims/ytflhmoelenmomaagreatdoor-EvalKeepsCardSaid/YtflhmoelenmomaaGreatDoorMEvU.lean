/-
  eval.Eval: the machine's loop.
-/
import Derived.Test.YtflhmoelenmomaaGreatDoorMEvT
import Derived.Test.YtflhmoelenmomaaGreatDoorMRpB
import Derived.Test.YtflhmoelenmomaaGreatDoorMRpR
namespace Go.Proofs.YtflhmoelenmomaaGreatDoor
open Go.RowKit Go.Lib
namespace Ev
open Rc

def Sz (st : List Fr) : Prop := ∀ f ∈ st, sizeW f.x ≤ 20000
def RZ : R → Prop
  | .go st _ => Sz st
  | _ => True
theorem begin_sz {x : E} {l : Sees} {st : List Fr} {n : Nat} (h : Sz st) (hx : sizeW x ≤ 20000) : RZ (beginM x l st n) := by
  unfold beginM
  split
  · trivial
  · intro f hf
    rcases List.mem_cons.1 hf with rfl | hf
    · exact hx
    · exact h f hf
theorem done_sz {s : ByteArray} {st : List Fr} {n : Nat} (h : Sz st) : RZ (doneM s st n) := by
  unfold doneM
  split
  · trivial
  · cases st with
    | nil => trivial
    | cons f st =>
      intro g hg
      rcases List.mem_cons.1 hg with rfl | hg
      · exact h f (by simp)
      · exact h g (by simp [hg])
theorem turn_sz {f : Fr} {st : List Fr} {n : Nat} (h : Sz (f :: st)) : RZ (turnM f st n) := by
  have hst : Sz st := fun g hg => h g (by simp [hg])
  have hb : ∀ (i : Nat) (l : Sees), RZ (match f.x.kids[i]? with | some k => beginM k l (f :: st) n | none => .bad n 0) := fun i l => by
    cases hk : f.x.kids[i]? with
    | none => trivial
    | some u =>
      have hf := h f (by simp)
      obtain ⟨⟨k, s, ks⟩, vs, sees⟩ := f
      have := sizeW_kid (k := k) (s := s) (List.mem_of_getElem? (show ks[i]? = some u from hk))
      exact begin_sz h (Nat.le_trans this hf)
  unfold turnM
  split
  · exact done_sz hst
  split
  · split
    · exact done_sz hst
    · trivial
  split
  · exact done_sz hst
  split
  · exact done_sz hst
  split
  · exact hb 3 _
  split
  · exact hb 1 _
  · exact hb _ _
/-- each turn leaves less to do -/
def mz (st : List Fr) (n : Nat) : Nat := 2 * (1000 - n) + st.length
def LessR (k : Nat) : R → Prop
  | .go st n => mz st n < k
  | _ => True
theorem begin_less {x : E} {l : Sees} {st : List Fr} {n : Nat} (hn : n ≤ 1000) : LessR (mz st n) (beginM x l st n) := by
  unfold beginM
  split
  · trivial
  · show 2 * (1000 - (n + 1)) + (st.length + 1) < 2 * (1000 - n) + st.length
    omega
theorem done_less {s : ByteArray} {f : Fr} {st : List Fr} {n : Nat} : LessR (mz (f :: st) n) (doneM s st n) := by
  unfold doneM
  split
  · trivial
  · cases st with
    | nil => trivial
    | cons f' st =>
      show 2 * (1000 - n) + (st.length + 1) < 2 * (1000 - n) + (st.length + 1 + 1)
      omega
theorem turn_less {f : Fr} {st : List Fr} {n : Nat} (hn : n ≤ 1000) : LessR (mz (f :: st) n) (turnM f st n) := by
  have hb : ∀ (i : Nat) (l : Sees), LessR (mz (f :: st) n) (match f.x.kids[i]? with | some k => beginM k l (f :: st) n | none => .bad n 0) := fun i l => by
    cases f.x.kids[i]? with
    | none => trivial
    | some u => exact begin_less hn
  unfold turnM
  split
  · exact done_less
  split
  · split
    · exact done_less
    · trivial
  split
  · exact done_less
  split
  · exact done_less
  split
  · exact hb 3 _
  split
  · exact hb 1 _
  · exact hb _ _
/-- the machine's state in the loop -/
structure LR (W0 : World) (S : Nat → Prop) (b : Nat) (m : M) (r : R) (w : World) : Prop where
  runs : Runs r m
  ok : RO r
  sz : RZ r
  tv : TV W0 S b r w
  not : ∀ s n, r ≠ .all s n
def sl0 : Value → Nat
  | .slice _ n _ => n
  | _ => 0
def msr (b : Nat) (w : World) : Nat := if RowKit.intOf ((w.cell? ⟨b, 2, none⟩).getD undef) = 0 then 2 * (1000 - (RowKit.intOf ((w.cell? ⟨b, 1, none⟩).getD undef)).toNat) + sl0 ((w.cell? ⟨b, 0, none⟩).getD undef) + 1 else 0
theorem msr_go {W0 w : World} {S : Nat → Prop} {b : Nat} {sv : Value} {qs : List FV} {st : List Fr} {n : Nat} (h : MI W0 w S b sv qs st n 0) : msr b w = mz st n + 1 := by
  obtain ⟨c0, c1, c2, -, -, -⟩ := obj3 h.obj
  unfold msr mz
  rw [c0, c1, c2]
  have hl : sl0 sv = st.length := by
    rcases h.row.2 with ⟨rfl, h0⟩ | ⟨g, cap, cur, rfl, _⟩
    · rw [← h.len, h0]; rfl
    · exact h.len
  simp [RowKit.intOf, hl]
theorem msr_bad {W0 w : World} {S : Nat → Prop} {b : Nat} {sv : Value} {qs : List FV} {st : List Fr} {n : Nat} {k : Int} (h : MI W0 w S b sv qs st n k) (hk : k ≠ 0) : msr b w = 0 := by
  obtain ⟨c0, c1, c2, -, -, -⟩ := obj3 h.obj
  unfold msr
  rw [c2]
  simp [RowKit.intOf, hk]
theorem runs_bad {n : Nat} {k : Int} {m : M} (h : Runs (.bad n k) m) : m = .bad n k := by
  cases h
  rfl
theorem runs_all {s : ByteArray} {n : Nat} {m : M} (h : Runs (.all s n) m) : m = .ok s n := by
  cases h
  rfl
end Ev
end Go.Proofs.YtflhmoelenmomaaGreatDoor

/-
  eval.Eval.
-/
namespace Go.Proofs.YtflhmoelenmomaaGreatDoor
open Go.RowKit Go.Lib
namespace Ev
open Rc

/-- what Eval answers -/
def evalV (x : E) : Value := .tuple #[.string (evalP x).1, .int .i64 ((evalP x).2.1 : Int), .int .i64 (evalP x).2.2]
theorem eval_results {tmps : Array Value} {X : World} {x : ByteArray} {n e : Int} (t2 : tmps[2]? = some (.string x)) (t3 : tmps[3]? = some (.int .i64 n)) (t4 : tmps[4]? = some (.int .i64 e)) :
    (results Tryz.f12 tmps).run Tryz.prog X = .ok (.tuple #[.string x, .int .i64 n, .int .i64 e]) X := by
  simp [results, Tryz.results12, go_sem, t2, t3, t4]
theorem mi_new (W1 : World) (S : Nat → Prop) : MI W1 (W1.alloc (.cells #[.slice none 0 0, .int .i64 0, .int .i64 0] 62)) S W1.heap.size (.slice none 0 0) [] [] 0 0 :=
  ⟨Nat.le_refl _, by simp, heap_alloc_new W1 _, World.ownsRow_nil _ _ _ _, rfl, fun i q f h => by simp at h, fun i j q p h => by simp at h, fun i q h => by simp at h, (Below.refl _ _).alloc (Nat.le_refl _) _⟩
theorem ok_nil : Ok [] 0 := ⟨fun f hf => absurd hf (by simp), by simp, fun f hf => absurd hf (by simp), by omega⟩
set_option maxHeartbeats 4000000 in
set_option maxRecDepth 100000 in
theorem eval_any {x : E} (hx : Sml x) (hw : sizeW x ≤ 20000) (W : World) (S : Nat → Prop) (v : Value) (hS : ∀ b, S b → b < W.heap.size) (hr : RepX W S x v) :
    Calls Tryz.prog 12 #[v] W fun e W' => e = .returned (evalV x) ∧ Below W.heap.size W W' := by
  obtain ⟨kd, s, sl, n, cap, rfl⟩ := hr.vals
  have hA := (Below.refl W.heap.size W).alloc (Nat.le_refl _) (.cells #[.int .i64 kd, .string s, .slice sl n cap] 24)
  obtain ⟨c0, c1, c2, f0, f1, f2⟩ := obj3 (heap_alloc_new W (.cells #[.int .i64 kd, .string s, .slice sl n cap] 24))
  have hg := good_any hx hw (W.alloc (.cells #[.int .i64 kd, .string s, .slice sl n cap] 24)) S _ (fun b hb => Nat.lt_of_lt_of_le (hS b hb) hA.size) (hr.move fun b hb => ⟨hb, hA.block b (hS b hb)⟩)
  have HA := Lib.hid hA
  have HS := Lib.hid hS
  have HR := Lib.hid hr
  cases hgd : goodE x with
  | false =>
    rw [hgd] at hg
    have HE := Lib.hid (show evalP x = (⟨#[]⟩, 0, 1) by unfold evalP; rw [if_pos hgd])
    clear hA hS hr hgd
    go_enter Tryz.func12, Tryz.ntmps12
    go_wp2_with (first
      | (go_at_call 17; with_reducible refine hg.mono ?_; rintro e W1 ⟨rfl, hB1⟩; have hB2 := HA.out.trans (hB1.mono HA.out.size); clear hg))
    refine bodyPost_ret (eval_results rfl rfl rfl) rfl ?_
    unfold evalV
    rw [HE.out]
    exact ⟨rfl, hB2⟩
  | true =>
    rw [hgd] at hg
    have hwf : Wf x := good_wf hgd
    have HW := Lib.hid hwf
    have HZ := Lib.hid hw
    have HE := Lib.hid (eval_good hgd)
    have hruns : Runs (beginM x [] [] 0) (mean x [] 0) := mean_runs x hwf [] 0 [] _ (by
      cases hm : mean x [] 0 with
      | ok s n => exact .all s n
      | bad n e => rfl)
    have HRU := Lib.hid hruns
    clear hA hS hr hgd hwf hruns
    go_enter Tryz.func12, Tryz.ntmps12
    go_wp2_with (first
      | (go_at_call 17; with_reducible refine hg.mono ?_; rintro e W1 ⟨rfl, hB1⟩; have hB2 := HA.out.trans (hB1.mono HA.out.size); have d0 := (hB1.cell (p := ⟨W.heap.size, 0, none⟩) (by simp)).trans c0; have d1 := (hB1.cell (p := ⟨W.heap.size, 1, none⟩) (by simp)).trans c1; have d2 := (hB1.cell (p := ⟨W.heap.size, 2, none⟩) (by simp)).trans c2; have hne : W.heap.size < W1.heap.size := (by have := hB1.size; simp at this; omega); have hA1 := (Below.refl W1.heap.size W1).alloc (Nat.le_refl _) (.cells #[.slice none 0 0, .int .i64 0, .int .i64 0] 62); replace d0 := (hA1.cell (p := ⟨W.heap.size, 0, none⟩) hne).trans d0; replace d1 := (hA1.cell (p := ⟨W.heap.size, 1, none⟩) hne).trans d1; replace d2 := (hA1.cell (p := ⟨W.heap.size, 2, none⟩) hne).trans d2; clear hA1; clear hg))
    have hb := begin_any (mi_new W1 S) ok_nil (fun k hk => Nat.lt_of_lt_of_le (HS.out k hk) hB2.size) kd s sl n cap none x [] (HR.out.move fun k hk => ⟨hk, (heap_alloc_old W1 _ (Nat.lt_of_lt_of_le (HS.out k hk) hB2.size)).trans (hB2.block k (HS.out k hk))⟩) .nil
    go_wp2_with (first
      | (go_at_call 21; refine hb.mono ?_; rintro e W2 ⟨rfl, hT⟩; clear hb))
    have hS1 : ∀ k, S k → k < W1.heap.size := fun k hk => Nat.lt_of_lt_of_le (HS.out k hk) hB2.size
    have hL : LR W1 S W1.heap.size (mean x [] 0) (beginM x [] [] 0) W2 := ⟨HRU.out, begin_ok ok_nil HW.out, begin_sz (fun f hf => absurd hf (by simp)) HZ.out, hT, fun s' n' h => by unfold beginM at h; split at h <;> cases h⟩
    have HS1 := Lib.hid hS1
    have HLL := Lib.hid hL
    clear hS1 hL hT d0 d1 d2 hne HRU HR
    clear c0 c1 c2 f0 f1 f2 hB1
    have HB2 := Lib.hid hB2
    clear hB2
    generalize hbk : W1.heap.size = b at *
    have HBK := Lib.hid hbk
    clear hbk
    go_loopw [6, 7] (fun s6 s7 wr => ∃ r, LR W1 S b (mean x [] 0) r wr) (fun _ _ wr => msr b wr)
    case atStart => exact ⟨_, HLL.out⟩
    case round =>
      obtain ⟨r, hL⟩ := hrel
      cases r with
      | all s n => exact absurd rfl (hL.not s n)
      | bad j k =>
        have hm := runs_bad hL.runs
        obtain ⟨sv, qs, st, hM⟩ := hL.tv
        have hk : k ≠ 0 := by have := mean_er x [] 0 j k hm; omega
        obtain ⟨c0, c1, c2, -, -, -⟩ := obj3 hM.obj
        have i1 : (k == 0) = false := beq_eq_false_iff_ne.2 hk
        have HEE := Lib.hid (show evalP x = (⟨#[]⟩, j, k) by rw [HE.out, hm])
        have hB := hM.below
        have hB3 := HB2.out.trans (hB.mono HB2.out.size)
        clear hL hm hk hM hB HLL
        go_wp2_with fail
        go_quiet (fail)
        go_wp2_with fail
        refine bodyPost_ret (eval_results rfl rfl rfl) rfl ?_
        unfold evalV
        rw [HEE.out]
        exact ⟨rfl, below_drewN hB3 _⟩
      | go st n =>
        obtain ⟨sv, qs, hM⟩ := hL.tv
        have hlt := hM.lt
        cases st with
        | nil => exact absurd hL.runs (by intro h; cases h)
        | cons f st =>
          obtain ⟨⟨k, s', ks⟩, vs, l⟩ := f
          have hr1 := hL.runs.turn
          have hkl : ks.length ≤ 1000000 := by
            have h1 := hL.sz ⟨.mk k s' ks, vs, l⟩ (by simp)
            have h2 := sizeWs_len ks
            rw [sizeW] at h1
            omega
          have ht := turn_any hM hL.ok (fun k hk => Nat.lt_of_lt_of_le (HS1.out k hk) (Nat.le_of_eq HBK.out.symm)) hkl _ rfl (fun j hj => by
            rw [hj] at hr1
            have := mean_er x [] 0 j 0 (runs_bad hr1)
            omega)
          have hok := turn_ok hL.ok
          have hsz := turn_sz (n := n) hL.sz
          have hls := turn_less (f := ⟨.mk k s' ks, vs, l⟩) (st := st) hL.ok.top
          have hms := msr_go hM
          generalize hR : turnM ⟨.mk k s' ks, vs, l⟩ st n = r' at *
          obtain ⟨c0, c1, c2, -, -, -⟩ := obj3 hM.obj
          have HRS := Lib.hid (And.intro hr1 (And.intro hok (And.intro hsz (And.intro hls hms))))
          clear hL hM hr1 hok hsz hls hms hR HLL hkl
          cases r' with
          | all t j =>
            have hm := runs_all HRS.out.1
            have HEE := Lib.hid (show evalP x = (t, j, 0) by rw [HE.out, hm])
            clear hm
            go_wp2_with (first
              | (go_at_call 22; refine ht.mono ?_; rintro e w9 ⟨rfl, hT⟩; obtain ⟨sv9, qs9, hM9⟩ := hT; obtain ⟨d0, d1, d2, -, -, -⟩ := obj3 hM9.obj; have hB9 := HB2.out.trans (hM9.below.mono HB2.out.size); clear hM9 ht c0 c1 c2; simp only [rs, rb]))
            go_quiet (fail)
            go_wp2_with fail
            refine bodyPost_ret (eval_results rfl rfl rfl) rfl ?_
            unfold evalV
            rw [HEE.out]
            exact ⟨rfl, below_drewN hB9 _⟩
          | bad j k' =>
            have hk0 : k' ≠ 0 := by have := mean_er x [] 0 j k' (runs_bad HRS.out.1); omega
            go_wp2_with (first
              | (go_at_call 22; refine ht.mono ?_; rintro e w9 ⟨rfl, hT⟩; have HT := Lib.hid hT; clear hT ht c0 c1 c2; simp only [rs, rb]))
            refine ⟨⟨_, HRS.out.1, trivial, trivial, HT.out, fun _ _ h => by cases h⟩, ?_⟩
            obtain ⟨sv9, qs9, st9, hM9⟩ := HT.out
            rw [msr_bad hM9 hk0, HRS.out.2.2.2.2]
            omega
          | go st' n' =>
            go_wp2_with (first
              | (go_at_call 22; refine ht.mono ?_; rintro e w9 ⟨rfl, hT⟩; have HT := Lib.hid hT; clear hT ht c0 c1 c2; simp only [rs, rb]))
            refine ⟨⟨_, HRS.out.1, HRS.out.2.1, HRS.out.2.2.1, HT.out, fun _ _ h => by cases h⟩, ?_⟩
            obtain ⟨sv9, qs9, hM9⟩ := HT.out
            rw [msr_go hM9, HRS.out.2.2.2.2]
            have : mz st' n' < mz (⟨.mk k s' ks, vs, l⟩ :: st) n := HRS.out.2.2.2.1
            omega
end Ev
end Go.Proofs.YtflhmoelenmomaaGreatDoor
