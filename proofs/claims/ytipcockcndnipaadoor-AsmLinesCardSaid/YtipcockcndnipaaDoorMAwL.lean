/-
  Walk: one line (asm's work.line).
-/
import Derived.Test.YtipcockcndnipaaDoorMAwI
import Derived.Test.YtipcockcndnipaaDoorMix
namespace Go.Proofs.YtipcockcndnipaaDoor
open Go.RowKit
namespace Aw
open As

theorem at_list {s : ByteArray} {k : Nat} (h : k < s.size) : s.data.toList[k]? = some s[k] := by
  have h' : k < s.data.size := h
  simp only [Array.getElem?_toList, Array.getElem?_eq_getElem h']
  rfl
open Classical in
/-- worlds in which block b is as in w -/
noncomputable def keepw (w : World) (b : Nat) (Y : World) : World := if Y.heap[b]? = w.heap[b]? then Y else w
theorem keepw_blk (w : World) (b : Nat) (Y : World) : (keepw w b Y).heap[b]? = w.heap[b]? := by
  unfold keepw
  split
  · assumption
  · rfl
theorem keepw_of {w w' : World} {b : Nat} (h : w'.heap[b]? = w.heap[b]?) : ∃ Y, w' = keepw w b Y := ⟨w', by unfold keepw; rw [if_pos h]⟩
/-- what line does -/
def LQ (W : World) (B bw bl : Nat) (r : Stp) (e : Ending) (W' : World) : Prop := FW W W' B bw bl ∧ match r with
  | .bad er => e = .returned (.int .i64 er)
  | .ok st => e = .returned (.int .i64 0) ∧ ∃ vp vl vw ll, WK W' B bw bl st vp vl vw ll
theorem lq_bad {W W' : World} {B bw bl : Nat} {r : Stp} {er : Int} {e : Ending} (h : r = .bad er) (he : e = .returned (.int .i64 er)) (hF : FW W W' B bw bl) : LQ W B bw bl r e W' := by
  subst h; exact ⟨hF, he⟩
theorem lq_ok {W W' : World} {B bw bl : Nat} {r : Stp} {st : St} {e : Ending} {vp vl vw : Value} {ll : List ShS.KV} (h : r = .ok st) (he : e = .returned (.int .i64 0)) (hF : FW W W' B bw bl) (hK : WK W' B bw bl st vp vl vw ll) : LQ W B bw bl r e W' := by
  subst h; exact ⟨hF, he, _, _, _, _, hK⟩
theorem Lb.add {labs : List (List UInt8 × Nat)} {ll : List ShS.KV} (h : Lb labs ll) {k : List UInt8} (hno : at? labs k = none) (n : Nat) : Lb (labs ++ [(k, n)]) (Shf.put Op.bytesLess ll k (n : Int)) :=
  ⟨Shf.put_srt Shf.ordS h.srt k _, fun k' => by
    rw [Shf.put_look Shf.ordS h.srt k _ k', h.look k']
    unfold at? at hno ⊢
    rw [List.find?_append]
    have hn : labs.find? (fun x => x.1 == k) = none := by
      cases hf : labs.find? (fun x => x.1 == k)
      · rfl
      · rw [hf] at hno; cases hno
    by_cases hk : k' = k
    · subst hk
      rw [if_pos rfl, hn]
      simp
    · rw [if_neg hk]
      have h2 : ([(k, n)] : List (List UInt8 × Nat)).find? (fun x => x.1 == k') = none := by
        have : (k == k') = false := by rw [beq_eq_false_iff_ne]; exact fun e => hk e.symm
        simp [this]
      rw [h2, Option.or_none], by
    have := Shf.put_len (lt := Op.bytesLess) ll k (n : Int)
    have := h.len
    simp only [List.length_append, List.length_cons, List.length_nil]
    omega⟩
theorem ne_obj {W : World} {a b : Nat} {c c' : Array Value} {t t' : TypeId} {f f' : Nat × Nat} (ha : W.heap[a]? = some (.cells c t f)) (hb : W.heap[b]? = some (.cells c' t' f')) (h : t ≠ t') : a ≠ b := fun e => by
  rw [e, hb] at ha
  injection ha with ha
  injection ha with _ ha _
  exact h ha.symm
theorem FW.of_fs {W W' : World} {B bw bl : Nat} {st : St} {vp vl vw : Value} {ll : List ShS.KV} (hK : WK W B bw bl st vp vl vw ll) (h : ShS.Fs W W' B bl) (hB : B ≤ W.heap.size) : FW W W' B bw bl :=
  ⟨h.os, h.tape, h.output, h.size, fun k hk _ h3 => h.block k (by omega) h3 (.inl hk), fun k o hk ho => by
    obtain ⟨vs, hvs, -⟩ := hK.sh
    exact (h.block k (Array.getElem?_eq_some_iff.1 hk).1 (fun e => by rw [e, hvs] at hk; cases hk; cases ho) (.inr fun cs e => by rw [hk] at e; cases e; cases ho)).trans hk⟩
theorem WK.fs {W W' : World} {B bw bl : Nat} {st : St} {vp vl vw : Value} {ll ll' : List ShS.KV} {labs' : List (List UInt8 × Nat)} (h : WK W B bw bl st vp vl vw ll) (g : ShS.Fs W W' B bl) (hs : ShS.SH W' B bl ll') (hl : Lb labs' ll') :
    WK W' B bw bl ⟨st.prog, st.wants, st.lines, labs'⟩ vp vl vw ll' := by
  obtain ⟨vs, hvs, -⟩ := h.sh
  have hty : ∀ {k : Nat} {cs : Array Value} {t : TypeId} {fr : Nat × Nat}, W.heap[k]? = some (.cells cs t fr) → t ≠ 85 → ∀ cs', W.heap[k]? ≠ some (.cells cs' 85 (0, 0)) := fun hk hne cs' e => by
    rw [hk] at e
    injection e with e
    injection e with _ e _
    exact hne e
  have own : ∀ {k e size n : Nat} {v : Value} {xs : List Value}, W.ownsRow B e size v n xs → e ≠ 85 → e ≠ 78 → v.ownBlock = some k → W'.heap[k]? = W.heap[k]? := fun hO h1 h2 hk => by
    obtain ⟨cs, hcs⟩ := own_type hO hk
    exact g.block _ (hO.lt _ hk).2 (ne_obj hcs hvs h2) (.inr (hty hcs h1))
  exact ⟨(g.block bw (Array.getElem?_eq_some_iff.1 h.blk).1 (ne_obj h.blk hvs (by decide)) (.inr (hty h.blk (by decide)))).trans h.blk, own_block h.op fun k hk => own h.op (by decide) (by decide) hk, own_block h.ol fun k hk => own h.ol (by decide) (by decide) hk, own_block h.ow fun k hk => own h.ow (by decide) (by decide) hk, hs, hl⟩
theorem WK.fs_blk {W W' : World} {B bw bl : Nat} {st : St} {vp vl vw : Value} {ll : List ShS.KV} (h : WK W B bw bl st vp vl vw ll) (g : ShS.Fs W W' B bl) : W'.heap[bw]? = W.heap[bw]? := by
  obtain ⟨vs, hvs, -⟩ := h.sh
  refine g.block bw (Array.getElem?_eq_some_iff.1 h.blk).1 (ne_obj h.blk hvs (by decide)) (.inr fun cs e => ?_)
  rw [h.blk] at e
  injection e with e
  injection e with _ e _
  exact absurd e (by decide)
theorem obj_four {W : World} {g : Nat} {u0 u1 u2 u3 : Value} {T : TypeId} (h : W.heap[g]? = some (.cells #[u0, u1, u2, u3] T (0, 0))) :
    W.cell? ⟨g, 0, none⟩ = some u0 ∧ W.cell? ⟨g, 1, none⟩ = some u1 ∧ W.cell? ⟨g, 2, none⟩ = some u2 ∧ W.cell? ⟨g, 3, none⟩ = some u3 ∧ W.frozen? ⟨g, 0, none⟩ = false ∧ W.frozen? ⟨g, 1, none⟩ = false ∧ W.frozen? ⟨g, 2, none⟩ = false ∧ W.frozen? ⟨g, 3, none⟩ = false :=
  ⟨by simp [World.cell?, h], by simp [World.cell?, h], by simp [World.cell?, h], by simp [World.cell?, h], by simp [World.frozen?, h], by simp [World.frozen?, h], by simp [World.frozen?, h], by simp [World.frozen?, h]⟩
/-- a line's number appended -/
theorem WK.lined {W w9 : World} {B bw bl n : Nat} {st : St} {vp vl vw v' : Value} {ll : List ShS.KV} {o : Obj} (h : WK W B bw bl st vp vl vw ll) (hown : w9.ownsRow B 3 1 v' (st.lines.length + 1) (rowN st.lines ++ [.int .i64 (n : Int)])) (hg : (W.alloc o).grownBy w9 vl.ownBlock) :
    WK (w9.setCell ⟨bw, 1, none⟩ v') B bw bl ⟨st.prog, st.wants, st.lines ++ [n], st.labs⟩ vp v' vw ll ∧ (B ≤ W.heap.size → FW W (w9.setCell ⟨bw, 1, none⟩ v') B bw bl) ∧ w9.frozen? ⟨bw, 1, none⟩ = false ∧ w9.cell? ⟨bw, 1, none⟩ = some vl := by
  have hA : ∀ k, k < W.heap.size → vl.ownBlock ≠ some k → w9.heap[k]? = W.heap[k]? := fun k hk hne => (hg.block k (by simp; omega) (fun e => hne e.symm)).trans (heap_alloc_old _ _ hk)
  have hb9 : w9.heap[bw]? = some (.cells #[vp, vl, vw, .pointer (some ⟨bl, 0, none⟩)] 57 (0, 0)) := (hA bw (Array.getElem?_eq_some_iff.1 h.blk).1 (ne_type h.ol h.blk (by decide))).trans h.blk
  have hne : ∀ {k e size n : Nat} {v : Value} {xs : List Value}, W.ownsRow B e size v n xs → e ≠ 3 → e ≠ 57 → v.ownBlock = some k → (w9.setCell ⟨bw, 1, none⟩ v').heap[k]? = W.heap[k]? := fun hO h1 h2 hk =>
    (Below.heap_setCell _ _ _ _ (by obtain ⟨cs, hcs⟩ := own_type hO hk; exact ne_obj hcs h.blk h2)).trans (hA _ (hO.lt _ hk).2 (own_apart hO h.ol h1 hk))
  refine ⟨⟨heap_setCell_same w9 bw 1 _ _ v' hb9, own_block h.op fun k hk => hne h.op (by decide) (by decide) hk, ?_, own_block h.ow fun k hk => hne h.ow (by decide) (by decide) hk, ?_, h.lb⟩, fun hB => ⟨hg.os, hg.tape, hg.output, by have := hg.size; simp at this; simp [World.setCell]; omega, fun k h1 h2 h3 => (Below.heap_setCell _ _ _ _ h2).trans (hA k (by omega) (fun e => by have h9 : B ≤ k := (h.ol.lt k e).1; omega)), fun k o hk ho => (Below.heap_setCell _ _ _ _ (fun e => by rw [show k = bw from e, h.blk] at hk; cases hk; cases ho)).trans ((hA k (Array.getElem?_eq_some_iff.1 hk).1 (fun e => by obtain ⟨cs, hcs⟩ := own_type h.ol e; rw [hcs] at hk; cases hk; cases ho)).trans hk)⟩, by simp [World.frozen?, hb9], by simp [World.cell?, hb9]⟩
  · have : w9.ownsRow B 3 1 v' (st.lines ++ [n]).length (rowN (st.lines ++ [n])) := by
      rw [show rowN (st.lines ++ [n]) = rowN st.lines ++ [.int .i64 (n : Int)] from List.map_append, List.length_append]
      exact hown
    exact own_block this fun k hk => Below.heap_setCell _ _ _ _ (fun e => ne_type this hb9 (by decide) (by rw [hk]; exact congrArg some e))
  · obtain ⟨v, hb, hO⟩ := h.sh
    exact ⟨v, ((Below.heap_setCell _ _ _ _ (ne_obj hb h.blk (by decide))).trans (hA bl (Array.getElem?_eq_some_iff.1 hb).1 (ne_type h.ol hb (by decide)))).trans hb, own_block hO fun k hk => hne hO (by decide) (by decide) hk⟩
set_option maxHeartbeats 8000000 in
set_option maxRecDepth 100000 in
theorem line_any (n : Nat) (s : ByteArray) (W : World) (B bw bl : Nat) (st : St) (vp vl vw : Value) (ll : List ShS.KV) (h : WK W B bw bl st vp vl vw ll) (hE : Env W) (hB : B ≤ W.heap.size) (hs : s.size ≤ 100000) (hp : st.prog.length ≤ 100000) (hwl : st.wants.length ≤ 100000) (hl : st.lines.length ≤ 100000) (hla : st.labs.length ≤ 100000) :
    Calls Tryd.prog 19 #[.pointer (some ⟨bw, 0, none⟩), .int .i64 (n : Int), .string s] W fun e W' => LQ W B bw bl (lineP n s.data.toList st) e W' := by
  obtain ⟨τ, b, hcs, hb, hτ⟩ : ∃ (τ : ByteArray) (b : Bool), (∀ w : World, Calls Tryd.prog 29 #[.string s, .string ⟨#[58]⟩] w fun e w' => e = .returned (.tuple #[.string τ, .bool b]) ∧ w' = w) ∧ b = decide (s.data.toList.getLast? = some 58) ∧ (b = true → τ = ⟨s.data.toList.dropLast.toArray⟩) := by
    by_cases hc : s.data.toList.getLast? = some 58
    · exact ⟨_, true, fun w => suf_tt s w (by omega) hc, (decide_eq_true hc).symm, fun _ => rfl⟩
    · exact ⟨s, false, fun w => suf_ff s w (by omega) hc, (decide_eq_false hc).symm, fun e => by cases e⟩
  have HB := Lib.hid hb
  have HT := Lib.hid hτ
  clear hb hτ
  have hz := Lib.size_eq s
  have HW := Lib.hid h
  obtain ⟨c0, c1, c2, c3, z0, z1, z2, z3⟩ := obj_four h.blk
  clear h
  by_cases he : s = ⟨#[]⟩
  · have HR := Lib.hid (show lineP n s.data.toList st = .ok st by unfold lineP; rw [if_pos (.inl (by rw [he]))])
    have k0 := Sx.emp_tt he
    clear he hz
    go_enter Tryd.func19, Tryd.ntmps19
    go_wp2_with (first
      | (go_at_call 29; refine (hcs _).mono ?_; rintro e w0 ⟨rfl, rfl⟩))
    go_ret
    exact lq_ok HR.out rfl (FW.refl _ _ _ _) HW.out
  have k0 := Sx.emp_ff he
  have h0 : 0 < s.size := by
    rcases Nat.eq_zero_or_pos s.size with e | e
    · exact absurd (ByteArray.ext (Array.eq_empty_of_size_eq_zero e)) he
    · exact e
  have hh : s.data.toList.head? = some s[0] := by
    rw [List.head?_eq_getElem?]
    exact at_list h0
  have hne : s.data.toList ≠ [] := fun e => by rw [e] at hh; cases hh
  by_cases g0 : s[0] = 59
  · have HR := Lib.hid (show lineP n s.data.toList st = .ok st by unfold lineP; rw [if_pos (.inr (by rw [hh, g0]))])
    have k1 : ((s[0].toNat : Int) == 59) = true := by rw [g0]; rfl
    clear he hz hh hne g0
    go_enter Tryd.func19, Tryd.ntmps19
    go_wp2_with (first
      | (go_at_call 29; refine (hcs _).mono ?_; rintro e w0 ⟨rfl, rfl⟩))
    go_ret
    exact lq_ok HR.out rfl (FW.refl _ _ _ _) HW.out
  have k1 : ((s[0].toNat : Int) == 59) = false := by
    rw [beq_eq_false_iff_ne]
    intro e
    exact g0 (u8_eq (n := 59) (by omega) (by decide))
  have HR := Lib.hid (show lineP n s.data.toList st = (if isLab s.data.toList = true then (if (at? st.labs s.data.toList.dropLast).isSome = true then .bad 11 else .ok { st with labs := st.labs ++ [(s.data.toList.dropLast, st.prog.length)] })
    else match insL s.data.toList with
      | none => .bad 50
      | some (x, want) => .ok ⟨st.prog ++ [x], st.wants ++ [want], st.lines ++ [n], st.labs⟩) by
    unfold lineP
    rw [if_neg (by rintro (e | e); exact hne e; rw [hh] at e; exact g0 (Option.some.inj e))]
    rfl)
  clear he hh hne g0
  have hins := ins_any s W B bw bl st vp vl vw ll HW.out hE hB hs hp hwl
  obtain ⟨i0, hi0, hz0, hz1, hz2⟩ := info_parts info_n
  by_cases g1 : isLab s.data.toList = true
  · have HR := Lib.hid (HR.out.trans (if_pos g1))
    have g2 : b = true ∧ Nm.nameL τ.data.toList = true := by
      unfold isLab at g1
      rw [Bool.and_eq_true] at g1
      have hb : b = true := by rw [HB.out]; exact g1.1
      exact ⟨hb, by rw [HT.out hb]; exact g1.2⟩
    obtain ⟨rfl, g3⟩ := g2
    have hN := fun w => Nm.name_any τ w
    rw [g3] at hN
    have hd : s.data.toList.dropLast = τ.data.toList := by rw [HT.out rfl]
    rw [hd] at HR
    obtain ⟨vp1, cp1, rfl⟩ := own_form HW.out.op
    clear HT HB g1 g3 hd hins hz
    have hlook := HW.out.lb.look τ.data.toList
    have hsrt := HW.out.lb.srt
    have hll := HW.out.lb.len
    have HP := Lib.hid (fun (w : World) (hw : Below W.heap.size W w) => by
      have hK := HW.out.below hw
      exact ShS.put_any τ (st.prog.length : Int) B bl ll w hK.sh hsrt (by omega) (Nat.le_trans hB hw.size))
    cases ho : at? st.labs τ.data.toList with
    | none =>
      have HR := Lib.hid (show lineP n s.data.toList st = .ok ⟨st.prog, st.wants, st.lines, st.labs ++ [(τ.data.toList, st.prog.length)]⟩ by rw [HR.out, ho]; rfl)
      have HL := Lib.hid (HW.out.lb.add ho st.prog.length)
      rw [ho] at hlook
      have hlook : Shf.look ll τ.data.toList = none := hlook
      have HLK := Lib.hid hlook
      clear ho hlook hsrt hll
      go_enter Tryd.func19, Tryd.ntmps19
      go_wp2_with (first
        | (go_at_call 29; refine (hcs _).mono ?_; rintro e w0 ⟨rfl, rfl⟩)
        | (go_at_call 30; refine (hN _).mono ?_; rintro e w1 ⟨rfl, hb1⟩; obtain ⟨c0, c1, c2, c3, z0, z1, z2, z3⟩ := obj_four (HW.out.below hb1).blk))
      have hK1 := HW.out.below hb1
      have hx := HP.out w1.drew hb1.drew
      have f0 := fun Y => (obj_four (hK1.blk ▸ keepw_blk w1 bw Y)).1
      have f3 := fun Y => (obj_four (hK1.blk ▸ keepw_blk w1 bw Y)).2.2.2.1
      clear c0 c1 c2 c3 z0 z1 z2 z3 HP
      refine Mix.region (fun w' => ∃ Y, w' = keepw w1 bw Y) 15 [0, 0, 0, 0, 0, 0, 0, 0, 0, 0, 1, 2, 2, 2, 2, 9] [true, false, true] (by kernel_rfl) (fun _ _ d _ _ h => by cases d <;> exact h) (by rfl) (by kernel_rfl) (keepw_of rfl) ?_
      simp only [Mix.selP_cons, Mix.selP_nil, Mix.sel_cons, Mix.sel_nil, Nat.reduceBEq, Nat.reduceAdd, cond_true, cond_false, List.drop_succ_cons, List.drop_zero]
      refine Mix.parts_q ?_
      repeat (go_big_quiet_step (fail))
      refine wpQuiet_nil ?_
      refine Mix.parts_e ?_
      refine Mix.eff_step (fun K hK => ?_)
      go_simp
      refine hx.mono ?_
      rintro e w2 hP
      rw [HLK.out] at hP
      obtain ⟨rfl, hS2, hF2⟩ := hP
      unfold ShS.GV
      have hK2 := (hK1.below (Below.refl _ _).drew).fs hF2 hS2 HL.out
      refine hK _ _ (keepw_of (hK2.blk.trans hK1.blk.symm)) ?_
      clear hK K f0 f3 hx
      refine Mix.eff_nil ?_
      refine Mix.parts_q ?_
      repeat (go_big_quiet_step (fail))
      refine wpQuiet_nil ?_
      refine Mix.parts_n ?_
      go_wp2_with fail
      go_ret
      exact lq_ok HR.out rfl ((FW.of_below hb1.drew hB).trans (FW.of_fs (hK1.below (Below.refl _ _).drew) hF2 (Nat.le_trans hB hb1.size))) hK2
    | some a =>
      have HR := Lib.hid (show lineP n s.data.toList st = .bad 11 by rw [HR.out, ho]; rfl)
      rw [ho] at hlook
      have hlook : Shf.look ll τ.data.toList = some (a : Int) := hlook
      have HLK := Lib.hid hlook
      clear ho hlook hsrt hll
      go_enter Tryd.func19, Tryd.ntmps19
      go_wp2_with (first
        | (go_at_call 29; refine (hcs _).mono ?_; rintro e w0 ⟨rfl, rfl⟩)
        | (go_at_call 30; refine (hN _).mono ?_; rintro e w1 ⟨rfl, hb1⟩; obtain ⟨c0, c1, c2, c3, z0, z1, z2, z3⟩ := obj_four (HW.out.below hb1).blk))
      have hK1 := HW.out.below hb1
      have hx := HP.out w1.drew hb1.drew
      have f0 := fun Y => (obj_four (hK1.blk ▸ keepw_blk w1 bw Y)).1
      have f3 := fun Y => (obj_four (hK1.blk ▸ keepw_blk w1 bw Y)).2.2.2.1
      clear c0 c1 c2 c3 z0 z1 z2 z3 HP
      refine Mix.region (fun w' => ∃ Y, w' = keepw w1 bw Y) 15 [0, 0, 0, 0, 0, 0, 0, 0, 0, 0, 1, 2, 2, 2, 2, 9] [true, false, true] (by kernel_rfl) (fun _ _ d _ _ h => by cases d <;> exact h) (by rfl) (by kernel_rfl) (keepw_of rfl) ?_
      simp only [Mix.selP_cons, Mix.selP_nil, Mix.sel_cons, Mix.sel_nil, Nat.reduceBEq, Nat.reduceAdd, cond_true, cond_false, List.drop_succ_cons, List.drop_zero]
      refine Mix.parts_q ?_
      repeat (go_big_quiet_step (fail))
      refine wpQuiet_nil ?_
      refine Mix.parts_e ?_
      refine Mix.eff_step (fun K hK => ?_)
      go_simp
      refine hx.mono ?_
      rintro e w2 hP
      rw [HLK.out] at hP
      obtain ⟨rfl, -, hF2⟩ := hP
      unfold ShS.GV
      refine hK _ _ (keepw_of ((hK1.below (Below.refl _ _).drew).fs_blk hF2)) ?_
      clear hK K f0 f3 hx
      refine Mix.eff_nil ?_
      refine Mix.parts_q ?_
      repeat (go_big_quiet_step (fail))
      refine wpQuiet_nil ?_
      refine Mix.parts_n ?_
      go_wp2_with fail
      go_ret
      exact lq_bad HR.out rfl ((FW.of_below hb1.drew hB).trans (FW.of_fs (hK1.below (Below.refl _ _).drew) hF2 (Nat.le_trans hB hb1.size)))
  · have HR := Lib.hid (HR.out.trans (if_neg g1))
    clear hz hins
    have HNL := Lib.hid (show b = true → Nm.nameL τ.data.toList = false by
      intro hbt
      cases hq : Nm.nameL τ.data.toList
      · rfl
      · exfalso
        rw [HT.out hbt] at hq
        exact g1 (by unfold isLab; rw [← HB.out, hbt]; exact hq))
    have HI := Lib.hid (fun (w : World) (hw : Below W.heap.size W w) => ins_any s w B bw bl st vp vl vw ll (HW.out.below hw) (hE.below hw) (Nat.le_trans hB hw.size) hs hp hwl)
    clear HT HB g1
    cases hi : insL s.data.toList with
    | none =>
      have HI2 := Lib.hid hi
      have HR := Lib.hid (show lineP n s.data.toList st = .bad 50 by rw [HR.out, hi])
      clear hi
      cases b with
      | true =>
        have hN := fun w => Nm.name_any τ w
        rw [HNL.out rfl] at hN
        go_enter Tryd.func19, Tryd.ntmps19
        go_wp2_with (first
          | (go_at_call 29; refine (hcs _).mono ?_; rintro e w0 ⟨rfl, rfl⟩)
          | (go_at_call 30; refine (hN _).mono ?_; rintro e w1 ⟨rfl, hb1⟩)
          | (go_at_call 32; have hQ := HI.out _ hb1; rw [HI2.out] at hQ; refine hQ.mono ?_; clear hQ; rintro e w2 ⟨hF2, rfl⟩))
        go_ret
        exact lq_bad HR.out rfl ((FW.of_below hb1 hB).trans hF2)
      | false =>
        go_enter Tryd.func19, Tryd.ntmps19
        go_wp2_with (first
          | (go_at_call 29; refine (hcs _).mono ?_; rintro e w0 ⟨rfl, rfl⟩; have hb1 := Below.refl w0.heap.size w0)
          | (go_at_call 32; have hQ := HI.out _ hb1; rw [HI2.out] at hQ; refine hQ.mono ?_; clear hQ; rintro e w2 ⟨hF2, rfl⟩))
        go_ret
        exact lq_bad HR.out rfl ((FW.of_below hb1 hB).trans hF2)
    | some xw =>
      obtain ⟨x, want⟩ := xw
      have HI2 := Lib.hid hi
      have HR := Lib.hid (show lineP n s.data.toList st = .ok ⟨st.prog ++ [x], st.wants ++ [want], st.lines ++ [n], st.labs⟩ by rw [HR.out, hi])
      clear hi
      obtain ⟨vl1, cp1, rfl⟩ := own_form HW.out.ol
      cases b with
      | true =>
        have hN := fun w => Nm.name_any τ w
        rw [HNL.out rfl] at hN
        go_enter Tryd.func19, Tryd.ntmps19
        go_wp2_with (first
          | (go_at_call 29; refine (hcs _).mono ?_; rintro e w0 ⟨rfl, rfl⟩)
          | (go_at_call 30; refine (hN _).mono ?_; rintro e w1 ⟨rfl, hb1⟩)
          | (go_at_call 32; have hQ := HI.out _ hb1; rw [HI2.out] at hQ; refine hQ.mono ?_; clear hQ; rintro e w2 ⟨hF2, rfl, vp', vw', hK2⟩; obtain ⟨c0, c1, c2, c3, z0, z1, z2, z3⟩ := obj_four hK2.blk; have HO := Lib.hid (hK2.ol.alloc (.cells #[.int .i64 (n : Int)] 3)))
          | (at_builtin; refine wpList_append_own _ rfl _ _ 54 rfl B 3 i0 _ 1 8 Tryd.underlying54 hi0 hz0 hz1 hz2 rfl (by decide) (.slice vl1 st.lines.length cp1) st.lines.length _ rfl HO.out ⟨w2.heap.size, 0, none⟩ 1 1 [.int .i64 (n : Int)] rfl rfl ?d1 ?d2 ?d3 ?d4 ?d5 ?_))
        case d1 =>
          intro j q hj
          match j, hj with
          | 0, hj => simp at hj; subst hj; simp [Addr.add]
        case d2 => intro q hq; simp at hq; subst hq; rfl
        case d3 => unfold maxLen; omega
        case d4 => omega
        case d5 => simp; have := hF2.size; have := hb1.size; omega
        intro v' w9 hown9 hg9 _
        obtain ⟨hK9, hF9, fz9, fc9⟩ := hK2.lined hown9 hg9
        obtain ⟨sl9, cp9, rfl⟩ := own_form hown9
        go_wp2_with fail
        go_ret
        exact lq_ok HR.out rfl (((FW.of_below hb1 hB).trans hF2).trans (hF9 (by have := hF2.size; have := hb1.size; omega))) hK9
      | false =>
        go_enter Tryd.func19, Tryd.ntmps19
        go_wp2_with (first
          | (go_at_call 29; refine (hcs _).mono ?_; rintro e w0 ⟨rfl, rfl⟩; have hb1 := Below.refl w0.heap.size w0)
          | (go_at_call 32; have hQ := HI.out _ hb1; rw [HI2.out] at hQ; refine hQ.mono ?_; clear hQ; rintro e w2 ⟨hF2, rfl, vp', vw', hK2⟩; obtain ⟨c0, c1, c2, c3, z0, z1, z2, z3⟩ := obj_four hK2.blk; have HO := Lib.hid (hK2.ol.alloc (.cells #[.int .i64 (n : Int)] 3)))
          | (at_builtin; refine wpList_append_own _ rfl _ _ 54 rfl B 3 i0 _ 1 8 Tryd.underlying54 hi0 hz0 hz1 hz2 rfl (by decide) (.slice vl1 st.lines.length cp1) st.lines.length _ rfl HO.out ⟨w2.heap.size, 0, none⟩ 1 1 [.int .i64 (n : Int)] rfl rfl ?d1 ?d2 ?d3 ?d4 ?d5 ?_))
        case d1 =>
          intro j q hj
          match j, hj with
          | 0, hj => simp at hj; subst hj; simp [Addr.add]
        case d2 => intro q hq; simp at hq; subst hq; rfl
        case d3 => unfold maxLen; omega
        case d4 => omega
        case d5 => simp; have := hF2.size; have := hb1.size; omega
        intro v' w9 hown9 hg9 _
        obtain ⟨hK9, hF9, fz9, fc9⟩ := hK2.lined hown9 hg9
        obtain ⟨sl9, cp9, rfl⟩ := own_form hown9
        go_wp2_with fail
        go_ret
        exact lq_ok HR.out rfl (((FW.of_below hb1 hB).trans hF2).trans (hF9 (by have := hF2.size; have := hb1.size; omega))) hK9
end Aw
end Go.Proofs.YtipcockcndnipaaDoor
