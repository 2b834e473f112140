/-
  The machine: turn.
-/
import Derived.Test.YtflhmoelenmomaaGreatDoorMEvJ
import Derived.Test.YtflhmoelenmomaaGreatDoorShelf
namespace Go.Proofs.YtflhmoelenmomaaGreatDoor
open Go.RowKit Go.Lib
namespace Ev
open Rc

theorem turn_results {tmps : Array Value} {X : World} {x : ByteArray} {c : Bool} (t2 : tmps[2]? = some (.string x)) (t3 : tmps[3]? = some (.bool c)) :
    (results Tryz.f22 tmps).run Tryz.prog X = .ok (.tuple #[.string x, .bool c]) X := by
  simp [results, Tryz.results22, go_sem, t2, t3]
theorem Lk.pn {W : World} {v : Value} {l : Sees} (h : Lk W v l) : Ev.pn v ≤ W.heap.size := by
  cases h with
  | nil => exact Nat.zero_le _
  | cons g a t p l hb _ _ => exact (Array.getElem?_eq_some_iff.1 hb).1
/-- behind begin: nothing is done yet -/
theorem tv_begin {W0 W' : World} {S : Nat → Prop} {b : Nat} {x : E} {l : Sees} {st : List Fr} {n : Nat} (hT : TV W0 S b (beginM x l st n) W') : Ending.returned (.tuple #[.string ⟨#[]⟩, .bool false]) = .returned (.tuple #[.string (rs (beginM x l st n)), .bool (rb (beginM x l st n))]) ∧ TV W0 S b (beginM x l st n) W' := by
  refine ⟨?_, hT⟩
  unfold beginM
  split <;> rfl
theorem set5 {w : World} {X : Nat} {u0 u1 u2 u3 u4 : Value} {T : TypeId} (h : w.heap[X]? = some (.cells #[u0, u1, u2, u3, u4] T (0, 0))) (v0 v1 v2 v3 v4 : Value) :
    (((((w.setCell ⟨X, 0, none⟩ v0).setCell ⟨X, 1, none⟩ v1).setCell ⟨X, 2, none⟩ v2).setCell ⟨X, 3, none⟩ v3).setCell ⟨X, 4, none⟩ v4).heap[X]? = some (.cells #[v0, v1, v2, v3, v4] T (0, 0)) :=
  heap_setCell_same _ X 4 _ _ _ (heap_setCell_same _ X 3 _ _ _ (heap_setCell_same _ X 2 _ _ _ (heap_setCell_same _ X 1 _ _ _ (heap_setCell_same _ X 0 _ _ _ h))))
theorem obj5 {W : World} {g : Nat} {u0 u1 u2 u3 u4 : Value} {T : TypeId} (h : W.heap[g]? = some (.cells #[u0, u1, u2, u3, u4] T (0, 0))) :
    W.cell? ⟨g, 0, none⟩ = some u0 ∧ W.cell? ⟨g, 1, none⟩ = some u1 ∧ W.cell? ⟨g, 2, none⟩ = some u2 ∧ W.cell? ⟨g, 3, none⟩ = some u3 ∧ W.cell? ⟨g, 4, none⟩ = some u4 :=
  ⟨by simp [World.cell?, h], by simp [World.cell?, h], by simp [World.cell?, h], by simp [World.cell?, h], by simp [World.cell?, h]⟩
set_option maxHeartbeats 4000000 in
set_option maxRecDepth 100000 in
theorem turn_any {W0 W : World} {S : Nat → Prop} {b : Nat} {sv : Value} {qs : List FV} {k : Int} {s : ByteArray} {ks : List E} {vs : List ByteArray} {l : Sees} {st : List Fr} {n : Nat} (h : MI W0 W S b sv qs (⟨.mk k s ks, vs, l⟩ :: st) n 0) (hok : Ok (⟨.mk k s ks, vs, l⟩ :: st) n) (hS : ∀ k, S k → k < W0.heap.size) (hkl : ks.length ≤ 1000000)
    (r : R) (hr : turnM ⟨.mk k s ks, vs, l⟩ st n = r) (hne : ∀ j, r ≠ .bad j 0) :
    Calls Tryz.prog 22 #[.pointer (some ⟨b, 0, none⟩)] W fun e W' => e = .returned (.tuple #[.string (rs r), .bool (rb r)]) ∧ TV W0 S b r W' := by
  obtain ⟨qs', q, g, cap, rfl, rfl, hl1, hfo0⟩ := h.last
  have hr0 := h.row_at rfl
  have hlo := h.lo
  obtain ⟨hgb, hgl⟩ := h.svb (g := g) rfl
  have hcap : qs'.length + 1 ≤ cap := own_cap h.row
  obtain ⟨hkd, hσ, hkn, hkc⟩ := rep_mk hfo0.rep
  have hvn : q.vn = vs.length := hfo0.vn
  have hvl : vs.length ≤ 1000 := hok.vals ⟨.mk k s ks, vs, l⟩ (by simp)
  have hsl := hok.len
  simp only [List.length_cons] at hsl
  obtain ⟨c0, c1, c2, f0, f1, f2⟩ := obj3 h.obj
  have r0 := hr0 0 _ rfl
  have r1 := hr0 1 _ rfl
  have r2 := hr0 2 _ rfl
  have r3 := hr0 3 _ rfl
  have r4 := hr0 4 _ rfl
  rw [hkd] at r0
  rw [hσ] at r1
  simp only [FV.ks, FV.vs, hkn, hvn] at r2 r3
  generalize hK : qs'.length = m at *
  have e0 := Kp.cell (w := W) (K := fun k => k = b ∨ k = g) (a := ⟨b, 0, none⟩) (.inl rfl) c0
  have e1 := Kp.cell (w := W) (K := fun k => k = b ∨ k = g) (a := ⟨g, m * 5 + 0, none⟩) (.inr rfl) r0
  have e2 := Kp.cell (w := W) (K := fun k => k = b ∨ k = g) (a := ⟨g, m * 5 + 1, none⟩) (.inr rfl) r1
  have e3 := Kp.cell (w := W) (K := fun k => k = b ∨ k = g) (a := ⟨g, m * 5 + 2, none⟩) (.inr rfl) r2
  have e4 := Kp.cell (w := W) (K := fun k => k = b ∨ k = g) (a := ⟨g, m * 5 + 3, none⟩) (.inr rfl) r3
  have e5 := Kp.cell (w := W) (K := fun k => k = b ∨ k = g) (a := ⟨g, m * 5 + 4, none⟩) (.inr rfl) r4
  simp only [Nat.add_zero] at e1
  have hbl := h.lt
  have hml : m ≤ 1000 := by omega
  have H1 := Lib.hid h
  have HS := Lib.hid hS
  have HR := Lib.hid hr
  have HN := Lib.hid hne
  have HO := Lib.hid hok
  have HK := Lib.hid hK
  have HL := Lib.hid hl1
  clear hK hl1 hkd hσ hkn hvn h hS hr hne hok hfo0 hr0 r0 r1 r2 r3 r4 c0 c1 c2 f0 f1 f2
  go_enter Tryz.func22, Tryz.ntmps22
  go_wp2_with fail
  refine Mix.region (fun w' => ∃ Y, w' = Kp.kp W (fun k => k = b ∨ k = g) Y) 13 [0, 0, 0, 0, 0, 0, 0, 0, 0, 0, 0, 0, 1, 9] [true, false] (by kernel_rfl) (fun _ _ d _ _ h => by cases d <;> exact h) (by rfl) (by kernel_rfl) (Kp.of fun _ _ => rfl) ?_
  simp only [Mix.selP_cons, Mix.selP_nil, Mix.sel_cons, Mix.sel_nil, Nat.reduceBEq, Nat.reduceAdd, cond_true, cond_false, List.drop_succ_cons, List.drop_zero]
  refine Mix.parts_q ?_
  repeat (go_big_quiet_step (fail))
  refine wpQuiet_nil ?_
  refine Mix.parts_e ?_
  refine Mix.eff_step (fun K hK => ?_)
  go_simp
  refine hK _ _ (Kp.of fun k' hk => heap_alloc_old W.drew _ (by show k' < W.heap.size; rcases hk with rfl | rfl <;> omega)) ?_
  clear hK K
  refine Mix.eff_nil (Mix.parts_n ?_)
  refine wpList_plain rfl fun K hK => ?_
  go_simp
  refine hK _ _ ?_
  clear hK K
  have hA := ((Below.refl W.heap.size W).alloc (Nat.le_refl _) (.cells #[.int .i64 k, .string s, .slice q.ka ks.length q.kc, .slice q.va vs.length q.vc, .pointer q.sp] 87)).drew
  have hX : ((W.alloc (.cells #[.int .i64 k, .string s, .slice q.ka ks.length q.kc, .slice q.va vs.length q.vc, .pointer q.sp] 87)).drew).heap[W.heap.size]? = some (.cells #[.int .i64 k, .string s, .slice q.ka ks.length q.kc, .slice q.va vs.length q.vc, .pointer q.sp] 87) := heap_alloc_new W _
  have hs1 : ((W.alloc (.cells #[.int .i64 k, .string s, .slice q.ka ks.length q.kc, .slice q.va vs.length q.vc, .pointer q.sp] 87)).drew).heap.size = W.heap.size + 1 := by simp
  have hM := H1.out.keep HS.out hA
  obtain ⟨x0, x1, x2, x3, x4⟩ := obj5 hX
  generalize (W.alloc (.cells #[.int .i64 k, .string s, .slice q.ka ks.length q.kc, .slice q.va vs.length q.vc, .pointer q.sp] 87)).drew = w1 at *
  generalize W.heap.size = X at *
  clear e0 e1 e2 e3 e4 e5 H1
  have hfo : FO w1 S (b + 1) q ⟨.mk k s ks, vs, l⟩ := hM.fr m q _ (by rw [← HK.out]; simp) (by rw [HL.out]; simp)
  have hSw : ∀ k, S k → k < w1.heap.size := fun k hk => by have := HS.out k hk; omega
  have hkeep : ∀ w', Below w1.heap.size w1 w' → MI W0 w' S b (.slice (some ⟨g, 0, none⟩) (m + 1) cap) (qs' ++ [q]) (⟨.mk k s ks, vs, l⟩ :: st) n 0 := fun w' h => hM.keep HS.out h
  have HD : ∀ (t : ByteArray) (w' : World), Below w1.heap.size w1 w' → Calls Tryz.prog 39 #[.pointer (some ⟨b, 0, none⟩), .string t] w' fun e W' => e = .returned (.tuple #[.string (rs (doneM t st n)), .bool (rb (doneM t st n))]) ∧ TV W0 S b (doneM t st n) W' :=
    fun t w' h => done_any (hkeep w' h) HO.out HS.out t
  have hB0 : Below w1.heap.size w1 w1 := Below.refl _ _
  have hB1 : Below w1.heap.size w1 w1.drew := (Below.refl _ _).drew
  have hsm : ∀ t ∈ vs, t.size ≤ 256 := HO.out.small ⟨.mk k s ks, vs, l⟩ (by simp)
  have hpart : partOk k s.data.toList ks.length = true := by
    cases HO.out.wf ⟨.mk k s ks, vs, l⟩ (by simp) with
    | mk _ _ _ h _ => exact h
  have HX := Lib.hid hX
  clear hX
  have HF := Lib.hid (And.intro hfo (And.intro hSw (And.intro hkeep (And.intro hsm hpart))))
  have HM := Lib.hid hM
  clear hfo hSw hkeep hsm hpart hM hA
  by_cases hk1 : k = 1
  · subst hk1
    have HE := Lib.hid (show doneM s st n = r from (turn1 (f := ⟨.mk 1 s ks, vs, l⟩) rfl).symm.trans HR.out)
    go_wp2_with (first
      | (go_at_call 39; with_reducible refine (HD _ _ hB0).mono ?_; rintro e w9 ⟨rfl, hT⟩))
    refine bodyPost_ret (turn_results rfl rfl) rfl ?_
    rw [← HE.out]
    exact ⟨rfl, hT⟩
  by_cases hk2 : k = 2
  · subst hk2
    have hq : (match look l s with | some t => doneM t st n | none => .bad n 51) = r := (turn2 (f := ⟨.mk 2 s ks, vs, l⟩) rfl).symm.trans HR.out
    have hf := find_any l (.pointer q.sp) s w1 HF.out.1.sees
    cases hlk : look l s with
    | none =>
      rw [hlk] at hq hf
      have HE := Lib.hid (show R.bad n 51 = r from hq)
      simp only [Option.getD_none, Option.isSome_none] at hf
      clear hq hlk
      go_wp2_with (first
        | (go_at_call 40; with_reducible refine hf.mono ?_; rintro e w2 ⟨rfl, hB2⟩; have hM2 := HF.out.2.2.1 w2 hB2; obtain ⟨c0, c1, c2, f0, f1, f2⟩ := obj3 hM2.obj; have HM2 := Lib.hid hM2; clear hM2 hf))
      refine bodyPost_ret (turn_results rfl rfl) rfl ?_
      rw [← HE.out]
      exact ⟨rfl, _, _, _, HM2.out.fault HS.out 51⟩
    | some t =>
      rw [hlk] at hq hf
      have HE := Lib.hid (show doneM t st n = r from hq)
      simp only [Option.getD_some, Option.isSome_some] at hf
      clear hq hlk
      go_wp2_with (first
        | (go_at_call 40; with_reducible refine hf.mono ?_; rintro e w2 ⟨rfl, hB2⟩; clear hf)
        | (go_at_call 39; with_reducible refine (HD _ _ hB2).mono ?_; rintro e w9 ⟨rfl, hT⟩))
      refine bodyPost_ret (turn_results rfl rfl) rfl ?_
      rw [← HE.out]
      exact ⟨rfl, hT⟩
  by_cases hk3 : k = 3
  · subst hk3
    by_cases hvk : vs.length = ks.length
    · have HE := Lib.hid (show doneM (concat vs) st n = r by
        rw [← HR.out]
        unfold turnM
        rw [if_neg (by simp [E.kind]), if_neg (by simp [E.kind]), if_pos ⟨rfl, hvk⟩])
      have h2 : 2 ≤ ks.length := by
        have := HF.out.2.2.2.2
        simp [partOk] at this
        exact this.1
      obtain ⟨G, hva, hG1, hG2, hGc⟩ := HF.out.1.vat (by show 0 < vs.length; omega)
      have hG2 : G < w1.heap.size := hG2
      have x3' : w1.cell? ⟨X, 3, none⟩ = some (.slice (some ⟨G, 0, none⟩) vs.length q.vc) := by rw [← hva]; exact x3
      have hj := Tryz.strings_Join G 0 q.vc vs ⟨#[]⟩ w1 (fun j x hx => by rw [Nat.zero_add]; exact hGc j x hx) hG2 (by omega) HF.out.1.vcap (join_len vs HF.out.2.2.2.1 hvl)
      rw [join_concat] at hj
      have i1 : ((vs.length : Int) == ks.length) = true := by rw [hvk]; exact beq_self_eq_true _
      clear x3 hvk hva hGc h2
      go_wp2_with (first
        | (go_at_call 41; with_reducible refine hj.mono ?_; rintro e w2 ⟨rfl, hB2⟩; clear hj)
        | (go_at_call 39; with_reducible refine (HD _ _ hB2).mono ?_; rintro e w9 ⟨rfl, hT⟩))
      refine bodyPost_ret (turn_results rfl rfl) rfl ?_
      rw [← HE.out]
      exact ⟨rfl, hT⟩
    · have hq : (match ks[vs.length]? with | some k => beginM k l (⟨.mk 3 s ks, vs, l⟩ :: st) n | none => .bad n 0) = r := by
        rw [← HR.out]
        unfold turnM
        rw [if_neg (by simp [E.kind]), if_neg (by simp [E.kind]), if_neg (by intro h; exact hvk h.2), if_neg (by simp [E.kind]), if_neg (by simp [E.kind]), if_neg (by simp [E.kind])]
        rfl
      have i1 : ((vs.length : Int) == ks.length) = false := beq_eq_false_iff_ne.2 (by omega)
      obtain ⟨u, hu⟩ : ∃ u, ks[vs.length]? = some u := by
        cases hk : ks[vs.length]? with
        | none => exact absurd (by rw [← hq, hk]) (HN.out n)
        | some u => exact ⟨u, rfl⟩
      have HE := Lib.hid (show beginM u l (⟨.mk 3 s ks, vs, l⟩ :: st) n = r by rw [← hq, hu])
      have hlt : vs.length < ks.length := (List.getElem?_eq_some_iff.1 hu).1
      have hwu : Wf u := wf_kid (HO.out.wf ⟨.mk 3 s ks, vs, l⟩ (by simp)) hu
      obtain ⟨bb, oo, hka, hSb, kd', σ', sl', m', cp', hkid⟩ := kid_at HF.out.2.1 HF.out.1.rep hu
      have x2' : w1.cell? ⟨X, 2, none⟩ = some (.slice (some ⟨bb, oo, none⟩) ks.length q.kc) := by rw [← hka]; exact x2
      have HB := fun (w' : World) (hB : Below w1.heap.size w1 w') => begin_any (HF.out.2.2.1 w' hB) HO.out HS.out kd' σ' sl' m' cp' q.sp u l (hkid.rep.move fun k hk => ⟨hk, hB.block k (HF.out.2.1 k hk)⟩) (HF.out.1.sees.keep hB)
      have hbX : bb < X := by have := HS.out bb hSb; omega
      have z0 := hkid.c0
      have z1 := hkid.c1
      have z2 := hkid.c2
      have HK2 := Lib.hid hkid
      clear hq hu x2 hkid hSb hwu hka
      clear hvk
      go_wp2_with fail
      go_quiet (fail)
      have hB3 := below_drewN hB0 nq
      have v0 := (hB3.cell (p := ⟨X, 0, none⟩) (by show X < w1.heap.size; omega)).trans x0
      have v2 := (hB3.cell (p := ⟨X, 2, none⟩) (by show X < w1.heap.size; omega)).trans x2'
      have v4 := (hB3.cell (p := ⟨X, 4, none⟩) (by show X < w1.heap.size; omega)).trans x4
      have v5 := (hB3.cell (p := ⟨bb, oo + vs.length * 3, none⟩) (by show bb < w1.heap.size; omega)).trans z0
      have v6 := (hB3.cell (p := ⟨bb, oo + vs.length * 3 + 1, none⟩) (by show bb < w1.heap.size; omega)).trans z1
      have v7 := (hB3.cell (p := ⟨bb, oo + vs.length * 3 + 2, none⟩) (by show bb < w1.heap.size; omega)).trans z2
      replace hB3 : Below w1.heap.size w1 (w1.drewN nq) := hB3
      generalize w1.drewN nq = w3 at *
      go_wp2_with fail
      have y2 := Kp.cell (w := w3) (K := fun k => k = X ∨ k = bb) (a := ⟨X, 2, none⟩) (.inl rfl) v2
      have y4 := Kp.cell (w := w3) (K := fun k => k = X ∨ k = bb) (a := ⟨X, 4, none⟩) (.inl rfl) v4
      have y5 := Kp.cell (w := w3) (K := fun k => k = X ∨ k = bb) (a := ⟨bb, oo + vs.length * 3, none⟩) (.inr rfl) v5
      have y6 := Kp.cell (w := w3) (K := fun k => k = X ∨ k = bb) (a := ⟨bb, oo + vs.length * 3 + 1, none⟩) (.inr rfl) v6
      have y7 := Kp.cell (w := w3) (K := fun k => k = X ∨ k = bb) (a := ⟨bb, oo + vs.length * 3 + 2, none⟩) (.inr rfl) v7
      refine Mix.region (fun w' => ∃ Y, w' = Kp.kp w3 (fun k => k = X ∨ k = bb) Y) 9 [0, 0, 0, 0, 0, 0, 0, 0, 0, 9] [true] (by kernel_rfl) (fun _ _ d _ _ h => by cases d <;> exact h) (by rfl) (by kernel_rfl) (Kp.of fun _ _ => rfl) ?_
      simp only [Mix.selP_cons, Mix.selP_nil, Mix.sel_cons, Mix.sel_nil, Nat.reduceBEq, Nat.reduceAdd, cond_true, cond_false, List.drop_succ_cons, List.drop_zero]
      refine Mix.parts_q ?_
      repeat (go_big_quiet_step (fail))
      refine wpQuiet_nil ?_
      refine Mix.parts_n ?_
      go_wp2_with (first
        | (go_at_call 21; with_reducible refine (HB _ (hB3.trans (Below.refl _ _).drew)).mono ?_; rintro e w9 ⟨rfl, hT⟩))
      refine bodyPost_ret (turn_results rfl rfl) rfl ?_
      rw [← HE.out]
      exact tv_begin hT
  by_cases hk4 : k = 4
  · subst hk4
    by_cases hvn : vs.length = 3
    · obtain ⟨G, hva, hG1, hG2, hGc⟩ := HF.out.1.vat (by show 0 < vs.length; omega)
      obtain ⟨t, ht⟩ : ∃ t, vs[2]? = some t := ⟨_, List.getElem?_eq_getElem (show 2 < vs.length by omega)⟩
      have HE := Lib.hid (show doneM t st n = r by
        rw [← HR.out]
        unfold turnM
        rw [if_neg (by simp [E.kind]), if_neg (by simp [E.kind]), if_neg (by simp [E.kind]), if_pos (Or.inl ⟨rfl, hvn⟩)]
        show _ = doneM (vs.getLast?.getD _) st n
        rw [List.getLast?_eq_getElem?, hvn, ht]
        rfl)
      have x3' : w1.cell? ⟨X, 3, none⟩ = some (.slice (some ⟨G, 0, none⟩) 3 q.vc) := by
        have h := x3
        rw [hva, hvn] at h
        exact h
      have hvc : 3 ≤ q.vc := by have := HF.out.1.vcap; rw [← hvn]; exact this
      have g1 : w1.cell? ⟨G, 2, none⟩ = some (.string t) := hGc 2 t ht
      simp only [hvn]
      clear x3 hva hGc hvn ht
      go_wp2_with (first
        | (go_at_call 39; with_reducible refine (HD _ _ hB0).mono ?_; rintro e w9 ⟨rfl, hT⟩))
      refine bodyPost_ret (turn_results rfl rfl) rfl ?_
      rw [← HE.out]
      exact ⟨rfl, hT⟩
    have i3 : ((vs.length : Int) == 3) = false := beq_eq_false_iff_ne.2 (by omega)
    by_cases hv2 : vs.length = 2
    · obtain ⟨G, hva, hG1, hG2, hGc⟩ := HF.out.1.vat (by show 0 < vs.length; omega)
      obtain ⟨t, ht⟩ : ∃ t, vs[0]? = some t := ⟨_, List.getElem?_eq_getElem (show 0 < vs.length by omega)⟩
      obtain ⟨t', ht'⟩ : ∃ t', vs[1]? = some t' := ⟨_, List.getElem?_eq_getElem (show 1 < vs.length by omega)⟩
      have i2 : ((vs.length : Int) == 2) = true := by rw [hv2]; rfl
      have x3' : w1.cell? ⟨X, 3, none⟩ = some (.slice (some ⟨G, 0, none⟩) vs.length q.vc) := by rw [← hva]; exact x3
      have g0 : w1.cell? ⟨G, 0, none⟩ = some (.string t) := hGc 0 t ht
      have g1 : w1.cell? ⟨G, 1, none⟩ = some (.string t') := hGc 1 t' ht'
      have hge : 2 ≤ vs.length := by omega
      by_cases htt : t = t'
      · have hq : (match ks[vs.length]? with | some k => beginM k l (⟨.mk 4 s ks, vs, l⟩ :: st) n | none => .bad n 0) = r := by
          rw [← HR.out]
          unfold turnM
          rw [if_neg (by simp [E.kind]), if_neg (by simp [E.kind]), if_neg (by simp [E.kind]), if_neg (by simp [E.kind]; omega), if_neg (by show ¬ ((4 : Int) = 4 ∧ vs.length = 2 ∧ vs[0]? ≠ vs[1]?); rw [ht, ht', htt]; simp), if_neg (by simp [E.kind])]
          rfl
        obtain ⟨u, hu⟩ : ∃ u, ks[vs.length]? = some u := by
          cases hk : ks[vs.length]? with
          | none => exact absurd (by rw [← hq, hk]) (HN.out n)
          | some u => exact ⟨u, rfl⟩
        have HE := Lib.hid (show beginM u l (⟨.mk 4 s ks, vs, l⟩ :: st) n = r by rw [← hq, hu])
        have hlt : vs.length < ks.length := (List.getElem?_eq_some_iff.1 hu).1
        have hwu : Wf u := wf_kid (HO.out.wf ⟨.mk 4 s ks, vs, l⟩ (by simp)) hu
        obtain ⟨bb, oo, hka, hSb, kd', σ', sl', m', cp', hkid⟩ := kid_at HF.out.2.1 HF.out.1.rep hu
        have x2' : w1.cell? ⟨X, 2, none⟩ = some (.slice (some ⟨bb, oo, none⟩) ks.length q.kc) := by rw [← hka]; exact x2
        have HB := fun (w' : World) (hB : Below w1.heap.size w1 w') => begin_any (HF.out.2.2.1 w' hB) HO.out HS.out kd' σ' sl' m' cp' q.sp u l (hkid.rep.move fun k hk => ⟨hk, hB.block k (HF.out.2.1 k hk)⟩) (HF.out.1.sees.keep hB)
        have hbX : bb < X := by have := HS.out bb hSb; omega
        have z0 := hkid.c0
        have z1 := hkid.c1
        have z2 := hkid.c2
        have HK2 := Lib.hid hkid
        clear hq hu x2 hkid hSb hwu hka
        have j1 : (t.toList == t'.toList) = true := by rw [htt]; exact beq_self_eq_true _
        clear hvn hv2 ht ht' hGc hva x3 htt
        go_wp2_with fail
        go_quiet (fail)
        have hB3 := below_drewN hB0 nq
        have v0 := (hB3.cell (p := ⟨X, 0, none⟩) (by show X < w1.heap.size; omega)).trans x0
        have v2 := (hB3.cell (p := ⟨X, 2, none⟩) (by show X < w1.heap.size; omega)).trans x2'
        have v4 := (hB3.cell (p := ⟨X, 4, none⟩) (by show X < w1.heap.size; omega)).trans x4
        have v5 := (hB3.cell (p := ⟨bb, oo + vs.length * 3, none⟩) (by show bb < w1.heap.size; omega)).trans z0
        have v6 := (hB3.cell (p := ⟨bb, oo + vs.length * 3 + 1, none⟩) (by show bb < w1.heap.size; omega)).trans z1
        have v7 := (hB3.cell (p := ⟨bb, oo + vs.length * 3 + 2, none⟩) (by show bb < w1.heap.size; omega)).trans z2
        replace hB3 : Below w1.heap.size w1 (w1.drewN nq) := hB3
        generalize w1.drewN nq = w3 at *
        go_wp2_with fail
        have y2 := Kp.cell (w := w3) (K := fun k => k = X ∨ k = bb) (a := ⟨X, 2, none⟩) (.inl rfl) v2
        have y4 := Kp.cell (w := w3) (K := fun k => k = X ∨ k = bb) (a := ⟨X, 4, none⟩) (.inl rfl) v4
        have y5 := Kp.cell (w := w3) (K := fun k => k = X ∨ k = bb) (a := ⟨bb, oo + vs.length * 3, none⟩) (.inr rfl) v5
        have y6 := Kp.cell (w := w3) (K := fun k => k = X ∨ k = bb) (a := ⟨bb, oo + vs.length * 3 + 1, none⟩) (.inr rfl) v6
        have y7 := Kp.cell (w := w3) (K := fun k => k = X ∨ k = bb) (a := ⟨bb, oo + vs.length * 3 + 2, none⟩) (.inr rfl) v7
        refine Mix.region (fun w' => ∃ Y, w' = Kp.kp w3 (fun k => k = X ∨ k = bb) Y) 9 [0, 0, 0, 0, 0, 0, 0, 0, 0, 9] [true] (by kernel_rfl) (fun _ _ d _ _ h => by cases d <;> exact h) (by rfl) (by kernel_rfl) (Kp.of fun _ _ => rfl) ?_
        simp only [Mix.selP_cons, Mix.selP_nil, Mix.sel_cons, Mix.sel_nil, Nat.reduceBEq, Nat.reduceAdd, cond_true, cond_false, List.drop_succ_cons, List.drop_zero]
        refine Mix.parts_q ?_
        repeat (go_big_quiet_step (fail))
        refine wpQuiet_nil ?_
        refine Mix.parts_n ?_
        go_wp2_with (first
          | (go_at_call 21; with_reducible refine (HB _ (hB3.trans (Below.refl _ _).drew)).mono ?_; rintro e w9 ⟨rfl, hT⟩))
        refine bodyPost_ret (turn_results rfl rfl) rfl ?_
        rw [← HE.out]
        exact tv_begin hT
      · have hq : (match ks[3]? with | some k => beginM k l (⟨.mk 4 s ks, vs, l⟩ :: st) n | none => .bad n 0) = r := by
          rw [← HR.out]
          unfold turnM
          rw [if_neg (by simp [E.kind]), if_neg (by simp [E.kind]), if_neg (by simp [E.kind]), if_neg (by simp [E.kind]; omega), if_pos (by show (4 : Int) = 4 ∧ vs.length = 2 ∧ vs[0]? ≠ vs[1]?; rw [ht, ht']; exact ⟨rfl, hv2, by simpa using htt⟩)]
          rfl
        obtain ⟨u, hu⟩ : ∃ u, ks[3]? = some u := by
          cases hk : ks[3]? with
          | none => exact absurd (by rw [← hq, hk]) (HN.out n)
          | some u => exact ⟨u, rfl⟩
        have HE := Lib.hid (show beginM u l (⟨.mk 4 s ks, vs, l⟩ :: st) n = r by rw [← hq, hu])
        have hlt : 3 < ks.length := (List.getElem?_eq_some_iff.1 hu).1
        have hwu : Wf u := wf_kid (HO.out.wf ⟨.mk 4 s ks, vs, l⟩ (by simp)) hu
        obtain ⟨bb, oo, hka, hSb, kd', σ', sl', m', cp', hkid⟩ := kid_at HF.out.2.1 HF.out.1.rep hu
        have x2' : w1.cell? ⟨X, 2, none⟩ = some (.slice (some ⟨bb, oo, none⟩) ks.length q.kc) := by rw [← hka]; exact x2
        have HB := fun (w' : World) (hB : Below w1.heap.size w1 w') => begin_any (HF.out.2.2.1 w' hB) HO.out HS.out kd' σ' sl' m' cp' q.sp u l (hkid.rep.move fun k hk => ⟨hk, hB.block k (HF.out.2.1 k hk)⟩) (HF.out.1.sees.keep hB)
        have hbX : bb < X := by have := HS.out bb hSb; omega
        have z0 := hkid.c0
        have z1 := hkid.c1
        have z2 := hkid.c2
        have HK2 := Lib.hid hkid
        clear hq hu x2 hkid hSb hwu hka
        have j1 : (t.toList == t'.toList) = false := beq_eq_false_iff_ne.2 fun e => htt (by
          rw [ByteArray.toList_eq, ByteArray.toList_eq] at e
          exact ByteArray.ext (Array.toList_inj.1 e))
        clear hvn hv2 ht ht' hGc hva x3 htt
        go_wp2_with fail
        go_quiet (fail)
        have hB3 := below_drewN hB0 nq
        have v0 := (hB3.cell (p := ⟨X, 0, none⟩) (by show X < w1.heap.size; omega)).trans x0
        have v2 := (hB3.cell (p := ⟨X, 2, none⟩) (by show X < w1.heap.size; omega)).trans x2'
        have v4 := (hB3.cell (p := ⟨X, 4, none⟩) (by show X < w1.heap.size; omega)).trans x4
        have v5 := (hB3.cell (p := ⟨bb, oo + 3 * 3, none⟩) (by show bb < w1.heap.size; omega)).trans z0
        have v6 := (hB3.cell (p := ⟨bb, oo + 3 * 3 + 1, none⟩) (by show bb < w1.heap.size; omega)).trans z1
        have v7 := (hB3.cell (p := ⟨bb, oo + 3 * 3 + 2, none⟩) (by show bb < w1.heap.size; omega)).trans z2
        replace hB3 : Below w1.heap.size w1 (w1.drewN nq) := hB3
        generalize w1.drewN nq = w3 at *
        go_wp2_with fail
        have y2 := Kp.cell (w := w3) (K := fun k => k = X ∨ k = bb) (a := ⟨X, 2, none⟩) (.inl rfl) v2
        have y4 := Kp.cell (w := w3) (K := fun k => k = X ∨ k = bb) (a := ⟨X, 4, none⟩) (.inl rfl) v4
        have y5 := Kp.cell (w := w3) (K := fun k => k = X ∨ k = bb) (a := ⟨bb, oo + 3 * 3, none⟩) (.inr rfl) v5
        have y6 := Kp.cell (w := w3) (K := fun k => k = X ∨ k = bb) (a := ⟨bb, oo + 3 * 3 + 1, none⟩) (.inr rfl) v6
        have y7 := Kp.cell (w := w3) (K := fun k => k = X ∨ k = bb) (a := ⟨bb, oo + 3 * 3 + 2, none⟩) (.inr rfl) v7
        simp only [Nat.reduceMul, Nat.reduceAdd, Nat.add_assoc] at y5 y6 y7
        refine Mix.region (fun w' => ∃ Y, w' = Kp.kp w3 (fun k => k = X ∨ k = bb) Y) 8 [0, 0, 0, 0, 0, 0, 0, 0, 9] [true] (by kernel_rfl) (fun _ _ d _ _ h => by cases d <;> exact h) (by rfl) (by kernel_rfl) (Kp.of fun _ _ => rfl) ?_
        simp only [Mix.selP_cons, Mix.selP_nil, Mix.sel_cons, Mix.sel_nil, Nat.reduceBEq, Nat.reduceAdd, cond_true, cond_false, List.drop_succ_cons, List.drop_zero]
        refine Mix.parts_q ?_
        repeat (go_big_quiet_step (fail))
        refine wpQuiet_nil ?_
        refine Mix.parts_n ?_
        go_wp2_with (first
          | (go_at_call 21; with_reducible refine (HB _ (hB3.trans (Below.refl _ _).drew)).mono ?_; rintro e w9 ⟨rfl, hT⟩))
        refine bodyPost_ret (turn_results rfl rfl) rfl ?_
        rw [← HE.out]
        exact tv_begin hT
    · have hq : (match ks[vs.length]? with | some k => beginM k l (⟨.mk 4 s ks, vs, l⟩ :: st) n | none => .bad n 0) = r := by
        rw [← HR.out]
        unfold turnM
        rw [if_neg (by simp [E.kind]), if_neg (by simp [E.kind]), if_neg (by simp [E.kind]), if_neg (by simp [E.kind]; omega), if_neg (by show ¬ ((4 : Int) = 4 ∧ vs.length = 2 ∧ vs[0]? ≠ vs[1]?); omega), if_neg (by simp [E.kind])]
        rfl
      obtain ⟨u, hu⟩ : ∃ u, ks[vs.length]? = some u := by
        cases hk : ks[vs.length]? with
        | none => exact absurd (by rw [← hq, hk]) (HN.out n)
        | some u => exact ⟨u, rfl⟩
      have HE := Lib.hid (show beginM u l (⟨.mk 4 s ks, vs, l⟩ :: st) n = r by rw [← hq, hu])
      have hlt : vs.length < ks.length := (List.getElem?_eq_some_iff.1 hu).1
      have hwu : Wf u := wf_kid (HO.out.wf ⟨.mk 4 s ks, vs, l⟩ (by simp)) hu
      obtain ⟨bb, oo, hka, hSb, kd', σ', sl', m', cp', hkid⟩ := kid_at HF.out.2.1 HF.out.1.rep hu
      have x2' : w1.cell? ⟨X, 2, none⟩ = some (.slice (some ⟨bb, oo, none⟩) ks.length q.kc) := by rw [← hka]; exact x2
      have HB := fun (w' : World) (hB : Below w1.heap.size w1 w') => begin_any (HF.out.2.2.1 w' hB) HO.out HS.out kd' σ' sl' m' cp' q.sp u l (hkid.rep.move fun k hk => ⟨hk, hB.block k (HF.out.2.1 k hk)⟩) (HF.out.1.sees.keep hB)
      have hbX : bb < X := by have := HS.out bb hSb; omega
      have z0 := hkid.c0
      have z1 := hkid.c1
      have z2 := hkid.c2
      have HK2 := Lib.hid hkid
      clear hq hu x2 hkid hSb hwu hka
      have i2 : ((vs.length : Int) == 2) = false := beq_eq_false_iff_ne.2 (by omega)
      clear hvn hv2
      go_wp2_with fail
      go_quiet (fail)
      have hB3 := below_drewN hB0 nq
      have v0 := (hB3.cell (p := ⟨X, 0, none⟩) (by show X < w1.heap.size; omega)).trans x0
      have v2 := (hB3.cell (p := ⟨X, 2, none⟩) (by show X < w1.heap.size; omega)).trans x2'
      have v4 := (hB3.cell (p := ⟨X, 4, none⟩) (by show X < w1.heap.size; omega)).trans x4
      have v5 := (hB3.cell (p := ⟨bb, oo + vs.length * 3, none⟩) (by show bb < w1.heap.size; omega)).trans z0
      have v6 := (hB3.cell (p := ⟨bb, oo + vs.length * 3 + 1, none⟩) (by show bb < w1.heap.size; omega)).trans z1
      have v7 := (hB3.cell (p := ⟨bb, oo + vs.length * 3 + 2, none⟩) (by show bb < w1.heap.size; omega)).trans z2
      replace hB3 : Below w1.heap.size w1 (w1.drewN nq) := hB3
      generalize w1.drewN nq = w3 at *
      go_wp2_with fail
      have y2 := Kp.cell (w := w3) (K := fun k => k = X ∨ k = bb) (a := ⟨X, 2, none⟩) (.inl rfl) v2
      have y4 := Kp.cell (w := w3) (K := fun k => k = X ∨ k = bb) (a := ⟨X, 4, none⟩) (.inl rfl) v4
      have y5 := Kp.cell (w := w3) (K := fun k => k = X ∨ k = bb) (a := ⟨bb, oo + vs.length * 3, none⟩) (.inr rfl) v5
      have y6 := Kp.cell (w := w3) (K := fun k => k = X ∨ k = bb) (a := ⟨bb, oo + vs.length * 3 + 1, none⟩) (.inr rfl) v6
      have y7 := Kp.cell (w := w3) (K := fun k => k = X ∨ k = bb) (a := ⟨bb, oo + vs.length * 3 + 2, none⟩) (.inr rfl) v7
      refine Mix.region (fun w' => ∃ Y, w' = Kp.kp w3 (fun k => k = X ∨ k = bb) Y) 9 [0, 0, 0, 0, 0, 0, 0, 0, 0, 9] [true] (by kernel_rfl) (fun _ _ d _ _ h => by cases d <;> exact h) (by rfl) (by kernel_rfl) (Kp.of fun _ _ => rfl) ?_
      simp only [Mix.selP_cons, Mix.selP_nil, Mix.sel_cons, Mix.sel_nil, Nat.reduceBEq, Nat.reduceAdd, cond_true, cond_false, List.drop_succ_cons, List.drop_zero]
      refine Mix.parts_q ?_
      repeat (go_big_quiet_step (fail))
      refine wpQuiet_nil ?_
      refine Mix.parts_n ?_
      go_wp2_with (first
        | (go_at_call 21; with_reducible refine (HB _ (hB3.trans (Below.refl _ _).drew)).mono ?_; rintro e w9 ⟨rfl, hT⟩))
      refine bodyPost_ret (turn_results rfl rfl) rfl ?_
      rw [← HE.out]
      exact tv_begin hT
  obtain rfl : k = 5 := by
    have := HF.out.2.2.2.2
    simp [partOk, hk1, hk2, hk3, hk4] at this
    exact this.1.1
  clear hk1 hk2 hk3 hk4
  by_cases hvn : vs.length = 2
  · obtain ⟨G, hva, hG1, hG2, hGc⟩ := HF.out.1.vat (by show 0 < vs.length; omega)
    obtain ⟨t, ht⟩ : ∃ t, vs[1]? = some t := ⟨_, List.getElem?_eq_getElem (show 1 < vs.length by omega)⟩
    have HE := Lib.hid (show doneM t st n = r by
      rw [← HR.out]
      unfold turnM
      rw [if_neg (by simp [E.kind]), if_neg (by simp [E.kind]), if_neg (by simp [E.kind]), if_pos (Or.inr ⟨rfl, hvn⟩)]
      show _ = doneM (vs.getLast?.getD _) st n
      rw [List.getLast?_eq_getElem?, hvn, ht]
      rfl)
    have x3' : w1.cell? ⟨X, 3, none⟩ = some (.slice (some ⟨G, 0, none⟩) 2 q.vc) := by
      have h := x3
      rw [hva, hvn] at h
      exact h
    have hvc : 2 ≤ q.vc := by have := HF.out.1.vcap; rw [← hvn]; exact this
    have g1 : w1.cell? ⟨G, 1, none⟩ = some (.string t) := hGc 1 t ht
    simp only [hvn]
    clear x3 hva hGc hvn ht
    go_wp2_with (first
      | (go_at_call 39; with_reducible refine (HD _ _ hB0).mono ?_; rintro e w9 ⟨rfl, hT⟩))
    refine bodyPost_ret (turn_results rfl rfl) rfl ?_
    rw [← HE.out]
    exact ⟨rfl, hT⟩
  have i3 : ((vs.length : Int) == 2) = false := beq_eq_false_iff_ne.2 (by omega)
  by_cases hv1 : vs.length = 1
  · obtain ⟨G, hva, hG1, hG2, hGc⟩ := HF.out.1.vat (by show 0 < vs.length; omega)
    obtain ⟨t, ht⟩ : ∃ t, vs[0]? = some t := ⟨_, List.getElem?_eq_getElem (show 0 < vs.length by omega)⟩
    have i2 : ((vs.length : Int) == 1) = true := by rw [hv1]; rfl
    have x3' : w1.cell? ⟨X, 3, none⟩ = some (.slice (some ⟨G, 0, none⟩) vs.length q.vc) := by rw [← hva]; exact x3
    have g0 : w1.cell? ⟨G, 0, none⟩ = some (.string t) := hGc 0 t ht
    have hge : 1 ≤ vs.length := by omega
    have hGl : G < w1.heap.size := hG2
    have hq : (match ks[1]? with | some k => beginM k ((s, t) :: l) (⟨.mk 5 s ks, vs, l⟩ :: st) n | none => .bad n 0) = r := by
      rw [← HR.out]
      unfold turnM
      rw [if_neg (by simp [E.kind]), if_neg (by simp [E.kind]), if_neg (by simp [E.kind]), if_neg (by simp [E.kind]; omega), if_neg (by simp [E.kind]), if_pos ⟨rfl, hv1⟩]
      simp only [E.s, ht, Option.getD_some]
      rfl
    obtain ⟨u, hu⟩ : ∃ u, ks[1]? = some u := by
      cases hk : ks[1]? with
      | none => exact absurd (by rw [← hq, hk]) (HN.out n)
      | some u => exact ⟨u, rfl⟩
    have HE := Lib.hid (show beginM u ((s, t) :: l) (⟨.mk 5 s ks, vs, l⟩ :: st) n = r by rw [← hq, hu])
    have hlt : 1 < ks.length := (List.getElem?_eq_some_iff.1 hu).1
    have hwu : Wf u := wf_kid (HO.out.wf ⟨.mk 5 s ks, vs, l⟩ (by simp)) hu
    obtain ⟨bb, oo, hka, hSb, kd', σ', sl', m', cp', hkid⟩ := kid_at HF.out.2.1 HF.out.1.rep hu
    have x2' : w1.cell? ⟨X, 2, none⟩ = some (.slice (some ⟨bb, oo, none⟩) ks.length q.kc) := by rw [← hka]; exact x2
    have hbX : bb < X := by have := HS.out bb hSb; omega
    have z0 := hkid.c0
    have z1 := hkid.c1
    have z2 := hkid.c2
    have HK2 := Lib.hid hkid
    clear hq hu x2 hkid hSb hwu hka
    have hGX : G ≠ X := fun e => by
      have := (HF.out.1.vals.lt G (by show (Value.slice q.va q.vn q.vc).ownBlock = _; rw [hva]; rfl))
      obtain ⟨cs, h2⟩ := own_type HF.out.1.vals (g := G) (by show (Value.slice q.va q.vn q.vc).ownBlock = _; rw [hva]; rfl)
      subst e
      rw [HX.out] at h2
      cases h2
    clear hvn hv1 ht hGc hva x3
    go_wp2_with fail
    go_quiet (fail)
    have hB3 := below_drewN hB0 nq
    have v0 := (hB3.cell (p := ⟨X, 0, none⟩) (by show X < w1.heap.size; omega)).trans x0
    have v1 := (hB3.cell (p := ⟨X, 1, none⟩) (by show X < w1.heap.size; omega)).trans x1
    have v2 := (hB3.cell (p := ⟨X, 2, none⟩) (by show X < w1.heap.size; omega)).trans x2'
    have v3 := (hB3.cell (p := ⟨X, 3, none⟩) (by show X < w1.heap.size; omega)).trans x3'
    have v4 := (hB3.cell (p := ⟨X, 4, none⟩) (by show X < w1.heap.size; omega)).trans x4
    have v5 := (hB3.cell (p := ⟨bb, oo + 1 * 3, none⟩) (by show bb < w1.heap.size; omega)).trans z0
    have v6 := (hB3.cell (p := ⟨bb, oo + 1 * 3 + 1, none⟩) (by show bb < w1.heap.size; omega)).trans z1
    have v7 := (hB3.cell (p := ⟨bb, oo + 1 * 3 + 2, none⟩) (by show bb < w1.heap.size; omega)).trans z2
    have v8 := (hB3.cell (p := ⟨G, 0, none⟩) hGl).trans g0
    have hs3 : (w1.drewN nq).heap.size = X + 1 := hs1
    generalize w1.drewN nq = w3 at *
    go_wp2_with fail
    have kX : (fun k => k = X ∨ k = bb ∨ k = G) X := .inl rfl
    have kb : (fun k => k = X ∨ k = bb ∨ k = G) bb := .inr (.inl rfl)
    have kG : (fun k => k = X ∨ k = bb ∨ k = G) G := .inr (.inr rfl)
    have y1 := Kp.cell (w := w3) (K := fun k => k = X ∨ k = bb ∨ k = G) (a := ⟨X, 1, none⟩) kX v1
    have y2 := Kp.cell (w := w3) (K := fun k => k = X ∨ k = bb ∨ k = G) (a := ⟨X, 2, none⟩) kX v2
    have y3 := Kp.cell (w := w3) (K := fun k => k = X ∨ k = bb ∨ k = G) (a := ⟨X, 3, none⟩) kX v3
    have y4 := Kp.cell (w := w3) (K := fun k => k = X ∨ k = bb ∨ k = G) (a := ⟨X, 4, none⟩) kX v4
    have y5 := Kp.cell (w := w3) (K := fun k => k = X ∨ k = bb ∨ k = G) (a := ⟨bb, oo + 1 * 3, none⟩) kb v5
    have y6 := Kp.cell (w := w3) (K := fun k => k = X ∨ k = bb ∨ k = G) (a := ⟨bb, oo + 1 * 3 + 1, none⟩) kb v6
    have y7 := Kp.cell (w := w3) (K := fun k => k = X ∨ k = bb ∨ k = G) (a := ⟨bb, oo + 1 * 3 + 2, none⟩) kb v7
    have y8 := Kp.cell (w := w3) (K := fun k => k = X ∨ k = bb ∨ k = G) (a := ⟨G, 0, none⟩) kG v8
    simp only [Nat.reduceMul, Nat.reduceAdd, Nat.add_assoc] at y5 y6 y7
    refine Mix.region (fun w' => ∃ Y, w' = Kp.kp w3 (fun k => k = X ∨ k = bb ∨ k = G) Y) 17 [0, 0, 0, 0, 0, 0, 0, 0, 0, 0, 0, 0, 0, 0, 0, 1, 1, 9] [true, false] (by kernel_rfl) (fun _ _ d _ _ h => by cases d <;> exact h) (by rfl) (by kernel_rfl) (Kp.of fun _ _ => rfl) ?_
    simp only [Mix.selP_cons, Mix.selP_nil, Mix.sel_cons, Mix.sel_nil, Nat.reduceBEq, Nat.reduceAdd, cond_true, cond_false, List.drop_succ_cons, List.drop_zero]
    refine Mix.parts_q ?_
    repeat (go_big_quiet_step (fail))
    refine wpQuiet_nil ?_
    refine Mix.parts_e ?_
    refine Mix.eff_step (fun K hK => ?_)
    go_simp
    refine hK _ _ (Kp.of fun _ _ => rfl) ?_
    clear hK K
    refine Mix.eff_step (fun K hK => ?_)
    go_simp
    have hB4 := hB3.trans (((Below.refl w3.heap.size w3).alloc (Nat.le_refl _) (.cells #[.string s, .string t, .pointer q.sp] 91)).drew.mono (by omega))
    have hN4 : ((w3.alloc (.cells #[.string s, .string t, .pointer q.sp] 91)).drew).heap[X + 1]? = some (.cells #[.string s, .string t, .pointer q.sp] 91) := by rw [← hs3]; exact heap_alloc_new w3 _
    refine hK _ _ (Kp.of fun k' hk => heap_alloc_old w3 _ (by rw [hs3]; rcases hk with rfl | rfl | rfl <;> omega)) ?_
    clear hK K
    refine Mix.eff_nil (Mix.parts_n ?_)
    have hBg := begin_any (HF.out.2.2.1 _ hB4) HO.out HS.out kd' σ' sl' m' cp' (some ⟨X + 1, 0, none⟩) u ((s, t) :: l) (HK2.out.rep.move fun k hk => ⟨hk, hB4.block k (HF.out.2.1 k hk)⟩) (.cons (X + 1) s t _ l hN4 (by have := (HF.out.1.sees.keep hB3).pn; rw [hs3] at this; exact this) (HF.out.1.sees.keep hB4))
    go_wp2_with (first
      | (go_at_call 21; with_reducible refine hBg.mono ?_; rintro e w9 ⟨rfl, hT⟩))
    refine bodyPost_ret (turn_results rfl rfl) rfl ?_
    rw [← HE.out]
    exact tv_begin hT
  · have hq : (match ks[vs.length]? with | some k => beginM k l (⟨.mk 5 s ks, vs, l⟩ :: st) n | none => .bad n 0) = r := by
      rw [← HR.out]
      unfold turnM
      rw [if_neg (by simp [E.kind]), if_neg (by simp [E.kind]), if_neg (by simp [E.kind]), if_neg (by simp [E.kind]; omega), if_neg (by simp [E.kind]), if_neg (by show ¬ ((5 : Int) = 5 ∧ vs.length = 1); omega)]
      rfl
    obtain ⟨u, hu⟩ : ∃ u, ks[vs.length]? = some u := by
      cases hk : ks[vs.length]? with
      | none => exact absurd (by rw [← hq, hk]) (HN.out n)
      | some u => exact ⟨u, rfl⟩
    have HE := Lib.hid (show beginM u l (⟨.mk 5 s ks, vs, l⟩ :: st) n = r by rw [← hq, hu])
    have hlt : vs.length < ks.length := (List.getElem?_eq_some_iff.1 hu).1
    have hwu : Wf u := wf_kid (HO.out.wf ⟨.mk 5 s ks, vs, l⟩ (by simp)) hu
    obtain ⟨bb, oo, hka, hSb, kd', σ', sl', m', cp', hkid⟩ := kid_at HF.out.2.1 HF.out.1.rep hu
    have x2' : w1.cell? ⟨X, 2, none⟩ = some (.slice (some ⟨bb, oo, none⟩) ks.length q.kc) := by rw [← hka]; exact x2
    have HB := fun (w' : World) (hB : Below w1.heap.size w1 w') => begin_any (HF.out.2.2.1 w' hB) HO.out HS.out kd' σ' sl' m' cp' q.sp u l (hkid.rep.move fun k hk => ⟨hk, hB.block k (HF.out.2.1 k hk)⟩) (HF.out.1.sees.keep hB)
    have hbX : bb < X := by have := HS.out bb hSb; omega
    have z0 := hkid.c0
    have z1 := hkid.c1
    have z2 := hkid.c2
    have HK2 := Lib.hid hkid
    clear hq hu x2 hkid hSb hwu hka
    have i2 : ((vs.length : Int) == 1) = false := beq_eq_false_iff_ne.2 (by omega)
    clear hvn hv1
    go_wp2_with fail
    go_quiet (fail)
    have hB3 := below_drewN hB0 nq
    have v0 := (hB3.cell (p := ⟨X, 0, none⟩) (by show X < w1.heap.size; omega)).trans x0
    have v2 := (hB3.cell (p := ⟨X, 2, none⟩) (by show X < w1.heap.size; omega)).trans x2'
    have v4 := (hB3.cell (p := ⟨X, 4, none⟩) (by show X < w1.heap.size; omega)).trans x4
    have v5 := (hB3.cell (p := ⟨bb, oo + vs.length * 3, none⟩) (by show bb < w1.heap.size; omega)).trans z0
    have v6 := (hB3.cell (p := ⟨bb, oo + vs.length * 3 + 1, none⟩) (by show bb < w1.heap.size; omega)).trans z1
    have v7 := (hB3.cell (p := ⟨bb, oo + vs.length * 3 + 2, none⟩) (by show bb < w1.heap.size; omega)).trans z2
    replace hB3 : Below w1.heap.size w1 (w1.drewN nq) := hB3
    generalize w1.drewN nq = w3 at *
    go_wp2_with fail
    have y2 := Kp.cell (w := w3) (K := fun k => k = X ∨ k = bb) (a := ⟨X, 2, none⟩) (.inl rfl) v2
    have y4 := Kp.cell (w := w3) (K := fun k => k = X ∨ k = bb) (a := ⟨X, 4, none⟩) (.inl rfl) v4
    have y5 := Kp.cell (w := w3) (K := fun k => k = X ∨ k = bb) (a := ⟨bb, oo + vs.length * 3, none⟩) (.inr rfl) v5
    have y6 := Kp.cell (w := w3) (K := fun k => k = X ∨ k = bb) (a := ⟨bb, oo + vs.length * 3 + 1, none⟩) (.inr rfl) v6
    have y7 := Kp.cell (w := w3) (K := fun k => k = X ∨ k = bb) (a := ⟨bb, oo + vs.length * 3 + 2, none⟩) (.inr rfl) v7
    refine Mix.region (fun w' => ∃ Y, w' = Kp.kp w3 (fun k => k = X ∨ k = bb) Y) 9 [0, 0, 0, 0, 0, 0, 0, 0, 0, 9] [true] (by kernel_rfl) (fun _ _ d _ _ h => by cases d <;> exact h) (by rfl) (by kernel_rfl) (Kp.of fun _ _ => rfl) ?_
    simp only [Mix.selP_cons, Mix.selP_nil, Mix.sel_cons, Mix.sel_nil, Nat.reduceBEq, Nat.reduceAdd, cond_true, cond_false, List.drop_succ_cons, List.drop_zero]
    refine Mix.parts_q ?_
    repeat (go_big_quiet_step (fail))
    refine wpQuiet_nil ?_
    refine Mix.parts_n ?_
    go_wp2_with (first
      | (go_at_call 21; with_reducible refine (HB _ (hB3.trans (Below.refl _ _).drew)).mono ?_; rintro e w9 ⟨rfl, hT⟩))
    refine bodyPost_ret (turn_results rfl rfl) rfl ?_
    rw [← HE.out]
    exact tv_begin hT
end Ev
end Go.Proofs.YtflhmoelenmomaaGreatDoor
