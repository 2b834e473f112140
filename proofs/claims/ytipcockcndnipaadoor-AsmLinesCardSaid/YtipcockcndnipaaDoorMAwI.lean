/-
  Walk: the instruction that a line is (asm's work.ins).
-/
import Derived.Test.YtipcockcndnipaaDoorMAwE
import Derived.Test.YtipcockcndnipaaDoorMAwU
import Derived.Test.YtipcockcndnipaaDoorMAwC
import Derived.Test.YtipcockcndnipaaDoorMAwM
import Derived.Deep.CutBlock
import Derived.Deep.DeepCutAuto
namespace Go.Proofs.YtipcockcndnipaaDoor
open Go.RowKit
namespace Aw
open As

/-- what ins does -/
def IQ (W : World) (B bw bl : Nat) (st : St) (vl : Value) (ll : List ShS.KV) (o : Option (Cd.I × List UInt8)) (e : Ending) (W' : World) : Prop := FW W W' B bw bl ∧ match o with
  | some (x, want) => e = .returned (.bool true) ∧ ∃ vp' vw', WK W' B bw bl ⟨st.prog ++ [x], st.wants ++ [want], st.lines, st.labs⟩ vp' vl vw' ll
  | none => e = .returned (.bool false)
theorem obj_cell {W : World} {g i : Nat} {c : Array Value} {T : TypeId} {v : Value} (h : W.heap[g]? = some (.cells c T (0, 0))) (hv : c[i]? = some v) : W.cell? ⟨g, i, none⟩ = some v := by simp [World.cell?, h, hv]
theorem obj_three {W : World} {g : Nat} {u0 u1 u2 : Value} {T : TypeId} (h : W.heap[g]? = some (.cells #[u0, u1, u2] T (0, 0))) :
    W.cell? ⟨g, 0, none⟩ = some u0 ∧ W.cell? ⟨g, 1, none⟩ = some u1 ∧ W.cell? ⟨g, 2, none⟩ = some u2 ∧ W.frozen? ⟨g, 0, none⟩ = false ∧ W.frozen? ⟨g, 1, none⟩ = false ∧ W.frozen? ⟨g, 2, none⟩ = false :=
  ⟨by simp [World.cell?, h], by simp [World.cell?, h], by simp [World.cell?, h], by simp [World.frozen?, h], by simp [World.frozen?, h], by simp [World.frozen?, h]⟩
theorem ins_mem {W w0 w1 w2 : World} {o : Obj} (hb0 : Below W.heap.size W w0) (hb1 : Below w0.heap.size w0 w1) (hb2 : Below (w1.alloc o).heap.size (w1.alloc o) w2) : W.heap.size ≤ w1.heap.size ∧ Below W.heap.size W w2 ∧ w2.heap[w1.heap.size]? = some o := by
  have h1 : W.heap.size ≤ w1.heap.size := Nat.le_trans hb0.size hb1.size
  exact ⟨h1, hb0.trans ((hb1.mono hb0.size).trans (((Below.refl _ _).alloc h1 _).trans (hb2.mono (by simp; omega)))), (hb2.block _ (by simp)).trans (heap_alloc_new _ _)⟩
theorem ins_keep {W w2 w3 : World} {b : Nat} {o : Obj} (hW : Below W.heap.size W w2) (hb : Below w2.heap.size w2 w3) (hx : w2.heap[b]? = some o) : Below W.heap.size W w3 ∧ w3.heap[b]? = some o :=
  ⟨hW.trans (hb.mono hW.size), (hb.block b (Array.getElem?_eq_some_iff.1 hx).1).trans hx⟩
theorem ins_set {w : World} {b i : Nat} {u0 u1 u2 v : Value} {T : TypeId} (hx : w.heap[b]? = some (.cells #[u0, u1, u2] T (0, 0))) : (w.setCell ⟨b, i, none⟩ v).heap[b]? = some (.cells (#[u0, u1, u2].setIfInBounds i v) T (0, 0)) := heap_setCell_same w b i _ _ v hx
/-- behind the region -/
theorem JM.done {m : MV} {a0 a : Act} {w0 w : World} {d : Mix.Done} (h : JM m a0 w0 d a w) (hd : ∀ i, i < 22 → d i = true) : ∃ u74 c8 u81 c15,
    a = ((((((((((((((((((((a0.put (some 67) (.pointer (some ⟨m.bw, 0, none⟩))).put (some 68) (.pointer (some ⟨m.bw, 0, none⟩))).put (some 69) (.pointer (some ⟨m.bw, 0, none⟩))).put (some 70) (.pointer (some ⟨m.bw, 0, none⟩))).put (some 71) (.pointer (some ⟨m.bw, 0, none⟩))).put (some 72) m.vp).put (some 73) (.agg (IC m.x))).put (some 74) u74).put (some 75) c8).put (some 76) (.pointer (some ⟨m.bw, 0, none⟩))).put (some 77) (.pointer (some ⟨m.bw, 0, none⟩))).put (some 78) (.pointer (some ⟨m.bw, 2, none⟩))).put (some 79) m.vw).put (some 80) (.string ⟨m.want.toArray⟩)).put (some 81) u81).put (some 82) c15).put (some 83) (.pointer (some ⟨m.bw, 0, none⟩))).put (some 84) (.pointer (some ⟨m.bw, 0, none⟩))).put (some 85) (.pointer (some ⟨m.bw, 0, none⟩))).put (some 86) (.pointer (some ⟨m.bw, 2, none⟩))) ∧ OI w m.B c8 (m.p ++ [m.x]) ∧ OS w m.B c15 (m.ws ++ [m.want]) ∧ w.heap[m.bw]? = some (.cells #[c8, m.vl, c15, .pointer (some ⟨m.bl, 0, none⟩)] 57 (0, 0)) ∧
    w.os = w0.os ∧ w.tape = w0.tape ∧ w.output = w0.output ∧ w0.heap.size ≤ w.heap.size ∧ ∀ k, k < w0.heap.size → k ≠ m.bw → m.vp.ownBlock ≠ some k → m.vw.ownBlock ≠ some k → w.heap[k]? = w0.heap[k]? := by
  obtain ⟨c8, c15, b7, b14, s⟩ := h.st
  obtain ⟨u74, h74⟩ := s.l74 (hd 7 (by decide))
  obtain ⟨u81, h81⟩ := s.l81 (hd 14 (by decide))
  obtain ⟨h8, hO8⟩ := s.p1 (hd 8 (by decide))
  obtain ⟨h15, hO15⟩ := s.w1_ (hd 15 (by decide))
  have hb := s.bwk
  rw [hd 18 (by decide), hd 21 (by decide), if_pos rfl, if_pos rfl] at hb
  refine ⟨u74, c8, u81, c15, ?_, hO8, hO15, hb, s.os, s.tape, s.output, s.size, s.keep⟩
  refine Mix.fold_eq [(67, (.pointer (some ⟨m.bw, 0, none⟩))), (68, (.pointer (some ⟨m.bw, 0, none⟩))), (69, (.pointer (some ⟨m.bw, 0, none⟩))), (70, (.pointer (some ⟨m.bw, 0, none⟩))), (71, (.pointer (some ⟨m.bw, 0, none⟩))), (72, m.vp), (73, (.agg (IC m.x))), (74, u74), (75, c8), (76, (.pointer (some ⟨m.bw, 0, none⟩))), (77, (.pointer (some ⟨m.bw, 0, none⟩))), (78, (.pointer (some ⟨m.bw, 2, none⟩))), (79, m.vw), (80, (.string ⟨m.want.toArray⟩)), (81, u81), (82, c15), (83, (.pointer (some ⟨m.bw, 0, none⟩))), (84, (.pointer (some ⟨m.bw, 0, none⟩))), (85, (.pointer (some ⟨m.bw, 0, none⟩))), (86, (.pointer (some ⟨m.bw, 2, none⟩)))] h.df h.sz ?_ ?_
  · intro p hp
    simp only [List.mem_cons, List.not_mem_nil, or_false] at hp
    obtain rfl | rfl | rfl | rfl | rfl | rfl | rfl | rfl | rfl | rfl | rfl | rfl | rfl | rfl | rfl | rfl | rfl | rfl | rfl | rfl := hp
    · exact (h.qv 0 rfl (hd 0 (by decide)))
    · exact (h.qv 1 rfl (hd 1 (by decide)))
    · exact (h.qv 2 rfl (hd 2 (by decide)))
    · exact (h.qv 3 rfl (hd 3 (by decide)))
    · exact (h.qv 4 rfl (hd 4 (by decide)))
    · exact (h.qv 5 rfl (hd 5 (by decide)))
    · exact (h.qv 6 rfl (hd 6 (by decide)))
    · exact h74
    · exact h8
    · exact (h.qv 9 rfl (hd 9 (by decide)))
    · exact (h.qv 10 rfl (hd 10 (by decide)))
    · exact (h.qv 11 rfl (hd 11 (by decide)))
    · exact (h.qv 12 rfl (hd 12 (by decide)))
    · exact (h.qv 13 rfl (hd 13 (by decide)))
    · exact h81
    · exact h15
    · exact (h.qv 16 rfl (hd 16 (by decide)))
    · exact (h.qv 17 rfl (hd 17 (by decide)))
    · exact (h.qv 19 rfl (hd 19 (by decide)))
    · exact (h.qv 20 rfl (hd 20 (by decide)))
  · intro k hk
    refine h.oth k ?_
    simp only [List.map_cons, List.map_nil, List.mem_cons, List.not_mem_nil, or_false, not_or] at hk
    simp only [MV.own, Bool.and_eq_false_iff, decide_eq_false_iff_not]
    omega
set_option maxHeartbeats 8000000 in
set_option maxRecDepth 100000 in
theorem ins_any (s : ByteArray) (W : World) (B bw bl : Nat) (st : St) (vp vl vw : Value) (ll : List ShS.KV) (h : WK W B bw bl st vp vl vw ll) (hE : Env W) (hB : B ≤ W.heap.size) (hs : s.size ≤ 100000) (hp : st.prog.length ≤ 100000) (hw : st.wants.length ≤ 100000) :
    Calls Tryd.prog 32 #[.pointer (some ⟨bw, 0, none⟩), .string s] W fun e W' => IQ W B bw bl st vl ll (insL s.data.toList) e W' := by
  have hc : Calls Tryd.prog 48 #[.string s, .string ⟨#[32]⟩] W fun e w' => e = .returned (CV s.data.toList) ∧ Below W.heap.size W w' := (cut_any s W (by omega)).mono fun e w' ⟨he, n, hw⟩ => ⟨he, by rw [hw]; exact Sx.below_drewN (Below.refl _ _) n⟩
  have hwl : (word s.data.toList).length ≤ 100000 := by
    have := List.Sublist.length_le (List.takeWhile_sublist (fun x => x != 32) (l := s.data.toList))
    rw [Lib.size_eq] at hs
    unfold word
    omega
  have hal : (arg s.data.toList).length ≤ 100000 := by
    have := List.Sublist.length_le (List.dropWhile_sublist (fun x => x != 32) (l := s.data.toList))
    rw [Lib.size_eq] at hs
    unfold arg
    rw [List.length_drop]
    omega
  obtain ⟨σw, hσw⟩ : ∃ σ : ByteArray, σ = ⟨(word s.data.toList).toArray⟩ := ⟨_, rfl⟩
  obtain ⟨σa, hσa⟩ : ∃ σ : ByteArray, σ = ⟨(arg s.data.toList).toArray⟩ := ⟨_, rfl⟩
  have hdw : σw.data.toList = word s.data.toList := by rw [hσw]
  have hda : σa.data.toList = arg s.data.toList := by rw [hσa]
  have hza : σa.size ≤ 100000 := by rw [Lib.size_eq, hda]; exact hal
  unfold CV at hc
  rw [← hσw, ← hσa] at hc
  obtain ⟨op, hop⟩ : ∃ op : Int, op = (Cd.opN (word s.data.toList) : Int) := ⟨_, rfl⟩
  obtain ⟨mo, hmo⟩ : ∃ mo, mo = more s.data.toList := ⟨_, rfl⟩
  rw [← hmo] at hc
  have HIL := Lib.hid (show insL s.data.toList = (if op = 0 ∨ mo = decide (Cd.takes op = 0) then none
      else if Cd.takes op = 2 then (unq σa.data.toList).map fun t => (⟨op, 0, ⟨t.toArray⟩⟩, [])
      else if Cd.takes op = 4 then (if Nm.nameL σa.data.toList = true then some (⟨op, 0, ⟨#[]⟩⟩, σa.data.toList) else none)
      else if Cd.takes op = 0 then some (⟨op, 0, ⟨#[]⟩⟩, [])
      else match Lib.atoiAll σa.data.toList with
        | .ok n => if Lib.itoa n = σa.data.toList then some (⟨op, n, ⟨#[]⟩⟩, []) else none
        | _ => none) by
    rw [hda, hop, hmo]
    unfold insL
    simp only [Int.natCast_eq_zero]
    rfl)
  have hopw := fun (w : World) (hT : Cd.Tab w) => Cd.op_any σw w hT
  rw [hdw, ← hop] at hopw
  have htk := fun (w : World) => Cd.takes_any op w
  clear hσw hσa hdw hda hwl hal hop hmo
  have HW := Lib.hid h
  clear h
  by_cases g0 : op = 0
  · have HR := Lib.hid (show insL s.data.toList = none by rw [HIL.out, if_pos (.inl g0)])
    clear HIL
    subst g0
    go_enter Tryd.func32, Tryd.ntmps32
    go_wp2_with (first
      | (go_at_call 48; refine hc.mono ?_; rintro e w0 ⟨rfl, hb0⟩; have hE0 := hE.below hb0)
      | (go_at_call 49; refine (hopw _ hE0.tab).mono ?_; rintro e w1 ⟨rfl, hb1⟩)
      | (go_at_call 9; refine (htk _).mono ?_; rintro e w2 ⟨rfl, hb2⟩; obtain ⟨hbx, hW2, hx⟩ := ins_mem hb0 hb1 hb2; clear hb0 hb1 hb2; obtain ⟨c0, c1, c2, z0, z1, z2⟩ := obj_three hx))
    go_ret
    exact ⟨FW.of_below hW2 hB, by rw [HR.out]; rfl⟩
  have ht5 : Cd.takes op = 0 ∨ Cd.takes op = 1 ∨ Cd.takes op = 2 ∨ Cd.takes op = 3 ∨ Cd.takes op = 4 := by
    unfold Cd.takes
    split
    · simp
    · split
      · simp
      · split
        · simp
        · split <;> simp
  have k0 : decide (op = 0) = false := decide_eq_false g0
  by_cases g1 : mo = decide (Cd.takes op = 0)
  · have HR := Lib.hid (show insL s.data.toList = none by rw [HIL.out, if_pos (.inr g1)])
    clear HIL
    by_cases g2 : Cd.takes op = 0
    · rw [g2] at htk
      obtain rfl : mo = true := by rw [g1, g2]; rfl
      clear g1 g2
      go_enter Tryd.func32, Tryd.ntmps32
      go_wp2_with (first
        | (go_at_call 48; refine hc.mono ?_; rintro e w0 ⟨rfl, hb0⟩; have hE0 := hE.below hb0)
        | (go_at_call 49; refine (hopw _ hE0.tab).mono ?_; rintro e w1 ⟨rfl, hb1⟩)
        | (go_at_call 9; refine (htk _).mono ?_; rintro e w2 ⟨rfl, hb2⟩; obtain ⟨hbx, hW2, hx⟩ := ins_mem hb0 hb1 hb2; clear hb0 hb1 hb2; obtain ⟨c0, c1, c2, z0, z1, z2⟩ := obj_three hx))
      all_goals (go_ret; exact ⟨FW.of_below hW2 hB, by rw [HR.out]; rfl⟩)
    · obtain rfl : mo = false := by rw [g1]; exact decide_eq_false g2
      have k1 : decide (Cd.takes op = 0) = false := decide_eq_false g2
      generalize Cd.takes op = tk at *
      clear g1 k1
      rcases ht5 with rfl | rfl | rfl | rfl | rfl
      · exact absurd rfl g2
      all_goals clear g2
      all_goals (
        go_enter Tryd.func32, Tryd.ntmps32
        go_wp2_with (first
          | (go_at_call 48; refine hc.mono ?_; rintro e w0 ⟨rfl, hb0⟩; have hE0 := hE.below hb0)
          | (go_at_call 49; refine (hopw _ hE0.tab).mono ?_; rintro e w1 ⟨rfl, hb1⟩)
          | (go_at_call 9; refine (htk _).mono ?_; rintro e w2 ⟨rfl, hb2⟩; obtain ⟨hbx, hW2, hx⟩ := ins_mem hb0 hb1 hb2; clear hb0 hb1 hb2; obtain ⟨c0, c1, c2, z0, z1, z2⟩ := obj_three hx))
        all_goals (go_ret; exact ⟨FW.of_below hW2 hB, by rw [HR.out]; rfl⟩))
  have HI2 := Lib.hid (HIL.out.trans (if_neg (fun h => h.elim g0 g1)))
  clear HIL
  obtain ⟨tk, htk'⟩ : ∃ tk, tk = Cd.takes op := ⟨_, rfl⟩
  rw [← htk'] at g1 HI2 htk ht5
  have k5 : mo = decide (tk ≠ 0) := by
    cases mo <;> by_cases h : tk = 0 <;> simp_all
  clear htk' g1
  subst k5
  go_enter Tryd.func32, Tryd.ntmps32
  have kk : ¬ ((op == 0) = true ∨ (!(!decide (tk = 0)) == (tk != 0)) = true) := by
    rintro (h | h)
    · exact g0 (by simpa using h)
    · by_cases h0 : tk = 0 <;> simp [h0] at h
  go_upto_block 0 with (first
    | (go_at_call 48; refine hc.mono ?_; rintro e w0 ⟨rfl, hb0⟩; have hE0 := hE.below hb0)
    | (go_at_call 49; refine (hopw _ hE0.tab).mono ?_; rintro e w1 ⟨rfl, hb1⟩)
    | (go_at_call 9; refine (htk _).mono ?_; rintro e w2 ⟨rfl, hb2⟩; obtain ⟨hbx, hW2, hx⟩ := ins_mem hb0 hb1 hb2; clear hb0 hb1 hb2; obtain ⟨c0, c1, c2, z0, z1, z2⟩ := obj_three hx))
  clear kk
  clear hc hopw htk k0 hE0 w0
  have hlx : w1.heap.size < w2.heap.size := (Array.getElem?_eq_some_iff.1 hx).1
  go_cut [10, 11] (fun s10 s11 wx => ∃ (x : Cd.I) (wt : List UInt8) (ok : Bool), s10 = .string ⟨wt.toArray⟩ ∧ s11 = .bool ok ∧ wx.heap[w1.heap.size]? = some (.cells (IC x) 23 (0, 0)) ∧ Below W.heap.size W wx ∧ insL s.data.toList = if ok = true then some (x, wt) else none)
  case first =>
    rcases ht5 with rfl | rfl | rfl | rfl | rfl
    · have HR := Lib.hid (show insL s.data.toList = some (⟨op, 0, ⟨#[]⟩⟩, []) by rw [HI2.out, if_neg (by decide), if_neg (by decide), if_pos rfl])
      clear HI2
      go_wp2_with fail
      go_meet
      exact ⟨_, [], true, rfl, rfl, hx, hW2, HR.out⟩
    · cases hx1 : Lib.atoiAll σa.data.toList with
      | ok v =>
        obtain ⟨v0, v1⟩ := Lib.atoiAll_bounds hx1
        have HX := Lib.hid hx1
        have HB := Lib.hid (show -9223372036854775808 ≤ v ∧ v ≤ 9223372036854775807 from ⟨by omega, by omega⟩)
        obtain ⟨τ, hτ⟩ : ∃ τ : ByteArray, τ = ⟨(Lib.itoa v).toArray⟩ := ⟨_, rfl⟩
        have hdt : τ.data.toList = Lib.itoa v := by rw [hτ]
        have hI := fun (w : World) (hE : Env w) => itoa_any v (by omega) (by omega) w hE
        rw [← hτ] at hI
        by_cases g : τ = σa
        · have HR := Lib.hid (show insL s.data.toList = some (⟨op, v, ⟨#[]⟩⟩, []) by rw [HI2.out, if_neg (by decide), if_neg (by decide), if_neg (by decide), HX.out]; exact if_pos (by rw [← hdt, g]))
          clear HI2 hx1 v0 v1 hτ hdt
          subst g
          go_wp2_with (first
            | (go_at_call 51; refine (atoi_ok _ (by omega) v HX.out _).mono ?_; rintro e w3 ⟨rfl, hb3⟩; obtain ⟨hW3, hx3⟩ := ins_keep hW2 hb3 hx; clear hb3 c0 c1 c2 z0 z1 z2)
            | (go_at_call 13; refine (hI _ (hE.below hW3)).mono ?_; rintro e w4 ⟨rfl, hb4⟩; obtain ⟨hW4, hx4⟩ := ins_keep hW3 hb4 hx3; clear hb4; obtain ⟨c0, c1, c2, z0, z1, z2⟩ := obj_three hx4))
          go_meet
          exact ⟨⟨op, v, ⟨#[]⟩⟩, [], true, rfl, rfl, ins_set hx4, hW4.setCell (by simpa using hbx) _, HR.out⟩
        · have HR := Lib.hid (show insL s.data.toList = none by
            rw [HI2.out, if_neg (by decide), if_neg (by decide), if_neg (by decide), HX.out]
            exact if_neg (fun e => g (by
              rw [hτ, e])))
          have hne := Sx.seq_ff g
          clear HI2 hx1 v0 v1 hτ hdt
          go_wp2_with (first
            | (go_at_call 51; refine (atoi_ok _ (by omega) v HX.out _).mono ?_; rintro e w3 ⟨rfl, hb3⟩; obtain ⟨hW3, hx3⟩ := ins_keep hW2 hb3 hx; clear hb3 c0 c1 c2 z0 z1 z2)
            | (go_at_call 13; refine (hI _ (hE.below hW3)).mono ?_; rintro e w4 ⟨rfl, hb4⟩; obtain ⟨hW4, hx4⟩ := ins_keep hW3 hb4 hx3; clear hb4; obtain ⟨c0, c1, c2, z0, z1, z2⟩ := obj_three hx4))
          go_meet
          exact ⟨⟨op, v, ⟨#[]⟩⟩, [], false, rfl, by first | rfl | rw [hne], ins_set hx4, hW4.setCell (by simpa using hbx) _, HR.out⟩
      | _ =>
        have HX := Lib.hid (show ∀ v, Lib.atoiAll σa.data.toList ≠ .ok v from fun v e => by rw [hx1] at e; cases e)
        have HR := Lib.hid (show insL s.data.toList = none by rw [HI2.out, if_neg (by decide), if_neg (by decide), if_neg (by decide), hx1])
        clear HI2 hx1
        go_wp2_with (first
          | (go_at_call 51; refine (atoi_bad _ (by omega) HX.out _ (hE.below hW2)).mono ?_; rintro e w3 ⟨v, N, rfl, v0, v1, hb3⟩; obtain ⟨hW3, hx3⟩ := ins_keep hW2 hb3 hx; clear hb3 c0 c1 c2 z0 z1 z2; obtain ⟨c0, c1, c2, z0, z1, z2⟩ := obj_three hx3))
        go_meet
        exact ⟨⟨op, v, ⟨#[]⟩⟩, [], false, rfl, rfl, ins_set hx3, hW3.setCell (by simpa using hbx) _, HR.out⟩
    · cases hq : unq σa.data.toList with
      | some t =>
        have hU := fun (w : World) => unq_any σa w (by omega)
        have HR := Lib.hid (show insL s.data.toList = some (⟨op, 0, ⟨t.toArray⟩⟩, []) by rw [HI2.out, if_pos rfl, hq]; rfl)
        rw [hq] at hU
        have hU : ∀ w : World, Calls Tryd.prog 50 #[.string σa] w fun e W' => e = .returned (.tuple #[.string ⟨t.toArray⟩, .bool true]) ∧ Below w.heap.size w W' := hU
        clear HI2 hq
        go_wp2_with (first
          | (go_at_call 50; refine (hU _).mono ?_; rintro e w3 ⟨rfl, hb3⟩; obtain ⟨hW3, hx3⟩ := ins_keep hW2 hb3 hx; clear hb3 c0 c1 c2 z0 z1 z2; obtain ⟨c0, c1, c2, z0, z1, z2⟩ := obj_three hx3))
        go_meet
        exact ⟨⟨op, 0, ⟨t.toArray⟩⟩, [], true, rfl, rfl, ins_set hx3, hW3.setCell (by simpa using hbx) _, HR.out⟩
      | none =>
        have hU := fun (w : World) => unq_any σa w (by omega)
        have HR := Lib.hid (show insL s.data.toList = none by rw [HI2.out, if_pos rfl, hq]; rfl)
        rw [hq] at hU
        have hU : ∀ w : World, Calls Tryd.prog 50 #[.string σa] w fun e W' => e = .returned (.tuple #[.string ⟨#[]⟩, .bool false]) ∧ Below w.heap.size w W' := hU
        clear HI2 hq
        go_wp2_with (first
          | (go_at_call 50; refine (hU _).mono ?_; rintro e w3 ⟨rfl, hb3⟩; obtain ⟨hW3, hx3⟩ := ins_keep hW2 hb3 hx; clear hb3 c0 c1 c2 z0 z1 z2; obtain ⟨c0, c1, c2, z0, z1, z2⟩ := obj_three hx3))
        go_meet
        exact ⟨⟨op, 0, ⟨#[]⟩⟩, [], false, rfl, rfl, ins_set hx3, hW3.setCell (by simpa using hbx) _, HR.out⟩
    · cases hx1 : Lib.atoiAll σa.data.toList with
      | ok v =>
        obtain ⟨v0, v1⟩ := Lib.atoiAll_bounds hx1
        have HX := Lib.hid hx1
        have HB := Lib.hid (show -9223372036854775808 ≤ v ∧ v ≤ 9223372036854775807 from ⟨by omega, by omega⟩)
        obtain ⟨τ, hτ⟩ : ∃ τ : ByteArray, τ = ⟨(Lib.itoa v).toArray⟩ := ⟨_, rfl⟩
        have hdt : τ.data.toList = Lib.itoa v := by rw [hτ]
        have hI := fun (w : World) (hE : Env w) => itoa_any v (by omega) (by omega) w hE
        rw [← hτ] at hI
        by_cases g : τ = σa
        · have HR := Lib.hid (show insL s.data.toList = some (⟨op, v, ⟨#[]⟩⟩, []) by rw [HI2.out, if_neg (by decide), if_neg (by decide), if_neg (by decide), HX.out]; exact if_pos (by rw [← hdt, g]))
          clear HI2 hx1 v0 v1 hτ hdt
          subst g
          go_wp2_with (first
            | (go_at_call 51; refine (atoi_ok _ (by omega) v HX.out _).mono ?_; rintro e w3 ⟨rfl, hb3⟩; obtain ⟨hW3, hx3⟩ := ins_keep hW2 hb3 hx; clear hb3 c0 c1 c2 z0 z1 z2)
            | (go_at_call 13; refine (hI _ (hE.below hW3)).mono ?_; rintro e w4 ⟨rfl, hb4⟩; obtain ⟨hW4, hx4⟩ := ins_keep hW3 hb4 hx3; clear hb4; obtain ⟨c0, c1, c2, z0, z1, z2⟩ := obj_three hx4))
          go_meet
          exact ⟨⟨op, v, ⟨#[]⟩⟩, [], true, rfl, rfl, ins_set hx4, hW4.setCell (by simpa using hbx) _, HR.out⟩
        · have HR := Lib.hid (show insL s.data.toList = none by
            rw [HI2.out, if_neg (by decide), if_neg (by decide), if_neg (by decide), HX.out]
            exact if_neg (fun e => g (by
              rw [hτ, e])))
          have hne := Sx.seq_ff g
          clear HI2 hx1 v0 v1 hτ hdt
          go_wp2_with (first
            | (go_at_call 51; refine (atoi_ok _ (by omega) v HX.out _).mono ?_; rintro e w3 ⟨rfl, hb3⟩; obtain ⟨hW3, hx3⟩ := ins_keep hW2 hb3 hx; clear hb3 c0 c1 c2 z0 z1 z2)
            | (go_at_call 13; refine (hI _ (hE.below hW3)).mono ?_; rintro e w4 ⟨rfl, hb4⟩; obtain ⟨hW4, hx4⟩ := ins_keep hW3 hb4 hx3; clear hb4; obtain ⟨c0, c1, c2, z0, z1, z2⟩ := obj_three hx4))
          go_meet
          exact ⟨⟨op, v, ⟨#[]⟩⟩, [], false, rfl, by first | rfl | rw [hne], ins_set hx4, hW4.setCell (by simpa using hbx) _, HR.out⟩
      | _ =>
        have HX := Lib.hid (show ∀ v, Lib.atoiAll σa.data.toList ≠ .ok v from fun v e => by rw [hx1] at e; cases e)
        have HR := Lib.hid (show insL s.data.toList = none by rw [HI2.out, if_neg (by decide), if_neg (by decide), if_neg (by decide), hx1])
        clear HI2 hx1
        go_wp2_with (first
          | (go_at_call 51; refine (atoi_bad _ (by omega) HX.out _ (hE.below hW2)).mono ?_; rintro e w3 ⟨v, N, rfl, v0, v1, hb3⟩; obtain ⟨hW3, hx3⟩ := ins_keep hW2 hb3 hx; clear hb3 c0 c1 c2 z0 z1 z2; obtain ⟨c0, c1, c2, z0, z1, z2⟩ := obj_three hx3))
        go_meet
        exact ⟨⟨op, v, ⟨#[]⟩⟩, [], false, rfl, rfl, ins_set hx3, hW3.setCell (by simpa using hbx) _, HR.out⟩
    · have HR := Lib.hid (show insL s.data.toList = if Nm.nameL σa.data.toList = true then some (⟨op, 0, ⟨#[]⟩⟩, σa.data.toList) else none by rw [HI2.out, if_neg (by decide), if_pos rfl])
      have hN := fun (w : World) => Nm.name_any σa w
      obtain ⟨ok, hok⟩ : ∃ ok, ok = Nm.nameL σa.data.toList := ⟨_, rfl⟩
      rw [← hok] at hN HR
      clear HI2 hok
      go_wp2_with (first
        | (go_at_call 30; refine (hN _).mono ?_; rintro e w3 ⟨rfl, hb3⟩; obtain ⟨hW3, hx3⟩ := ins_keep hW2 hb3 hx; clear hb3 c0 c1 c2 z0 z1 z2; obtain ⟨c0, c1, c2, z0, z1, z2⟩ := obj_three hx3))
      go_meet
      exact ⟨⟨op, 0, ⟨#[]⟩⟩, σa.data.toList, ok, rfl, rfl, hx3, hW3, HR.out⟩
  case rest =>
    obtain ⟨x, wt, ok, rfl, rfl, hx, hW2, hR⟩ := hcut
    have HK := HW.out.below hW2
    have h0 : M0 ⟨bw, w1.heap.size, bl, B, st.prog, st.wants, x, wt, vp, vl, vw⟩ wc := ⟨HK.blk, hx, HK.op, HK.ow, fun e => by
      have h9 : w1.heap.size < W.heap.size := (HW.out.op.lt _ e).2
      omega⟩
    have hlb : bw < wc.heap.size := (Array.getElem?_eq_some_iff.1 HK.blk).1
    go_wp2_with fail
    clear HI2 ht5
    refine Mix.region_inv (by kernel_rfl) (JM ⟨bw, w1.heap.size, bl, B, st.prog, st.wants, x, wt, vp, vl, vw⟩ ?a0 wc) (by kernel_rfl) ?h0 ?hs ?he
    case h0 => exact JM.start h0
    case hs =>
      intro d i o a w hcl ho hdi hdep hJ
      have T0 : a.tmps[0]? = some (.pointer (some ⟨bw, 0, none⟩)) := (hJ.oth 0 rfl).trans rfl
      have T8 : a.tmps[8]? = some (.pointer (some ⟨w1.heap.size, 0, none⟩)) := (hJ.oth 8 rfl).trans rfl
      have T10 : a.tmps[10]? = some (.string ⟨wt.toArray⟩) := (hJ.oth 10 rfl).trans rfl
      have hi : i < 22 := (List.getElem?_eq_some_iff.1 ho).1
      match i, hi, ho with
      | 0, _, ho =>
          have ho' := ho
          simp only [List.getElem?_cons_zero, Option.some.injEq] at ho'
          subst ho'
          refine Mix.op_value (v := .pointer (some ⟨bw, 0, none⟩)) ho rfl ?_ (hJ.read (Nat.le_of_ble_eq_true rfl) (i := 0) rfl)
          go_simp
      | 1, _, ho =>
          have ho' := ho
          simp only [List.getElem?_cons_zero, List.getElem?_cons_succ, Option.some.injEq] at ho'
          subst ho'
          refine Mix.op_value (v := .pointer (some ⟨bw, 0, none⟩)) ho rfl ?_ (hJ.read (Nat.le_of_ble_eq_true rfl) (i := 1) rfl)
          go_simp
      | 2, _, ho =>
          have ho' := ho
          simp only [List.getElem?_cons_zero, List.getElem?_cons_succ, Option.some.injEq] at ho'
          subst ho'
          refine Mix.op_value (v := .pointer (some ⟨bw, 0, none⟩)) ho rfl ?_ (hJ.read (Nat.le_of_ble_eq_true rfl) (i := 2) rfl)
          go_simp
      | 3, _, ho =>
          have ho' := ho
          simp only [List.getElem?_cons_zero, List.getElem?_cons_succ, Option.some.injEq] at ho'
          subst ho'
          have T69 : a.tmps[69]? = some (.pointer (some ⟨bw, 0, none⟩)) := hJ.qv 2 rfl (hdep ⟨2, .data⟩ (by simp) rfl)
          refine Mix.op_value (v := .pointer (some ⟨bw, 0, none⟩)) ho rfl ?_ (hJ.read (Nat.le_of_ble_eq_true rfl) (i := 3) rfl)
          go_simp
      | 4, _, ho =>
          have ho' := ho
          simp only [List.getElem?_cons_zero, List.getElem?_cons_succ, Option.some.injEq] at ho'
          subst ho'
          have T70 : a.tmps[70]? = some (.pointer (some ⟨bw, 0, none⟩)) := hJ.qv 3 rfl (hdep ⟨3, .data⟩ (by simp) rfl)
          refine Mix.op_value (v := .pointer (some ⟨bw, 0, none⟩)) ho rfl ?_ (hJ.read (Nat.le_of_ble_eq_true rfl) (i := 4) rfl)
          go_simp
      | 5, _, ho =>
          have ho' := ho
          simp only [List.getElem?_cons_zero, List.getElem?_cons_succ, Option.some.injEq] at ho'
          subst ho'
          have T71 : a.tmps[71]? = some (.pointer (some ⟨bw, 0, none⟩)) := hJ.qv 4 rfl (hdep ⟨4, .data⟩ (by simp) rfl)
          have n18 : d 18 = false := by cases hd : d 18 with | false => rfl | true => exact absurd (hcl 18 _ rfl hd ⟨5, .phase⟩ (by simp) rfl) (by simp [hdi])
          obtain ⟨c8, c15, b7, b14, ss⟩ := hJ.st
          have hbw := ss.bwk
          have A0 : w.cell? ⟨bw, 0, none⟩ = some vp := by simp [World.cell?, hbw, n18]
          clear hbw ss
          refine Mix.op_value (v := vp) ho rfl ?_ (hJ.read (Nat.le_of_ble_eq_true rfl) (i := 5) rfl)
          go_simp
      | 6, _, ho =>
          have ho' := ho
          simp only [List.getElem?_cons_zero, List.getElem?_cons_succ, Option.some.injEq] at ho'
          subst ho'
          obtain ⟨c8, c15, b7, b14, ss⟩ := hJ.st
          obtain ⟨X0, X1, X2, -, -, -⟩ := obj_three ss.bxk
          clear ss
          refine Mix.op_value (v := .agg (IC x)) ho rfl ?_ (hJ.read (Nat.le_of_ble_eq_true rfl) (i := 6) rfl)
          go_simp
      | 7, _, ho =>
          have ho' := ho
          simp only [List.getElem?_cons_zero, List.getElem?_cons_succ, Option.some.injEq] at ho'
          subst ho'
          have T73 : a.tmps[73]? = some (.agg (IC x)) := hJ.qv 6 rfl (hdep ⟨6, .data⟩ (by simp) rfl)
          have n8 : d 8 = false := by cases hd : d 8 with | false => rfl | true => exact absurd (hcl 8 _ rfl hd ⟨7, .data⟩ (by simp) rfl) (by simp [hdi])
          refine Mix.op_value (v := .slice (some ⟨w.heap.size, 0, none⟩) 1 1) ho rfl ?_ (hJ.lay7 (Nat.le_of_ble_eq_true rfl) n8)
          go_simp
      | 8, _, ho =>
          have ho' := ho
          simp only [List.getElem?_cons_zero, List.getElem?_cons_succ, Option.some.injEq] at ho'
          subst ho'
          have T72 : a.tmps[72]? = some (vp) := hJ.qv 5 rfl (hdep ⟨5, .data⟩ (by simp) rfl)
          have n15 : d 15 = false := by cases hd : d 15 with | false => rfl | true => exact absurd (hcl 15 _ rfl hd ⟨8, .chain⟩ (by simp) rfl) (by simp [hdi])
          have n18 : d 18 = false := by cases hd : d 18 with | false => rfl | true => exact absurd (hcl 18 _ rfl hd ⟨8, .data⟩ (by simp) rfl) (by simp [hdi])
          have n21 : d 21 = false := by cases hd : d 21 with | false => rfl | true => exact absurd (hcl 21 _ rfl hd ⟨15, .data⟩ (by simp) rfl) (by simp [n15])
          have E72 := Mix.eval_of T72
          obtain ⟨c8, c15, b7, b14, ss⟩ := hJ.st
          obtain ⟨T74, B74, -⟩ := ss.s7 (hdep ⟨7, .data⟩ (by simp) rfl) hdi
          have E74 := Mix.eval_of T74
          obtain ⟨i0, hi0, hz0, hz1, hz2⟩ := info_parts info_i
          have hsz := ss.size
          refine Mix.op_wp ho rfl ?_
          refine Mix.wp_append_at w (.tmp 72) (.tmp 74) 28 rfl B 23 i0 _ 3 32 Tryd.underlying28 hi0 hz0 hz1 hz2 rfl (by decide) vp st.prog.length (rowI st.prog) E72 (ss.p0 hdi) ⟨b7, 0, none⟩ 1 1 [.int .i64 x.op, .int .i64 x.n, .string x.s] E74 rfl (World.news_of_block (cs := IC x) B74) (by intro u hu; simp only [List.mem_cons, List.not_mem_nil, or_false] at hu; obtain rfl | rfl | rfl := hu <;> rfl) (by unfold maxLen; omega) (by omega) (by have := hW2.size; omega) ?_
          intro v' w' h2 h3 h5
          refine hJ.app8 (Nat.le_of_ble_eq_true rfl) h0 hdi n15 n18 n21 ?_ h3
          show w'.ownsRow B 23 3 v' (st.prog ++ [x]).length (rowI (st.prog ++ [x]))
          rw [rowI_app, List.length_append]
          exact h2
      | 9, _, ho =>
          have ho' := ho
          simp only [List.getElem?_cons_zero, List.getElem?_cons_succ, Option.some.injEq] at ho'
          subst ho'
          refine Mix.op_value (v := .pointer (some ⟨bw, 0, none⟩)) ho rfl ?_ (hJ.read (Nat.le_of_ble_eq_true rfl) (i := 9) rfl)
          go_simp
      | 10, _, ho =>
          have ho' := ho
          simp only [List.getElem?_cons_zero, List.getElem?_cons_succ, Option.some.injEq] at ho'
          subst ho'
          have T76 : a.tmps[76]? = some (.pointer (some ⟨bw, 0, none⟩)) := hJ.qv 9 rfl (hdep ⟨9, .data⟩ (by simp) rfl)
          refine Mix.op_value (v := .pointer (some ⟨bw, 0, none⟩)) ho rfl ?_ (hJ.read (Nat.le_of_ble_eq_true rfl) (i := 10) rfl)
          go_simp
      | 11, _, ho =>
          have ho' := ho
          simp only [List.getElem?_cons_zero, List.getElem?_cons_succ, Option.some.injEq] at ho'
          subst ho'
          have T77 : a.tmps[77]? = some (.pointer (some ⟨bw, 0, none⟩)) := hJ.qv 10 rfl (hdep ⟨10, .data⟩ (by simp) rfl)
          refine Mix.op_value (v := .pointer (some ⟨bw, 2, none⟩)) ho rfl ?_ (hJ.read (Nat.le_of_ble_eq_true rfl) (i := 11) rfl)
          go_simp
      | 12, _, ho =>
          have ho' := ho
          simp only [List.getElem?_cons_zero, List.getElem?_cons_succ, Option.some.injEq] at ho'
          subst ho'
          have T78 : a.tmps[78]? = some (.pointer (some ⟨bw, 2, none⟩)) := hJ.qv 11 rfl (hdep ⟨11, .data⟩ (by simp) rfl)
          have n21 : d 21 = false := by cases hd : d 21 with | false => rfl | true => exact absurd (hcl 21 _ rfl hd ⟨12, .phase⟩ (by simp) rfl) (by simp [hdi])
          obtain ⟨c8, c15, b7, b14, ss⟩ := hJ.st
          have hbw := ss.bwk
          have A0 : w.cell? ⟨bw, 2, none⟩ = some vw := by simp [World.cell?, hbw, n21]
          clear hbw ss
          refine Mix.op_value (v := vw) ho rfl ?_ (hJ.read (Nat.le_of_ble_eq_true rfl) (i := 12) rfl)
          go_simp
      | 13, _, ho =>
          have ho' := ho
          simp only [List.getElem?_cons_zero, List.getElem?_cons_succ, Option.some.injEq] at ho'
          subst ho'
          refine Mix.op_value (v := .string ⟨wt.toArray⟩) ho rfl ?_ (hJ.read (Nat.le_of_ble_eq_true rfl) (i := 13) rfl)
          go_simp
      | 14, _, ho =>
          have ho' := ho
          simp only [List.getElem?_cons_zero, List.getElem?_cons_succ, Option.some.injEq] at ho'
          subst ho'
          have T80 : a.tmps[80]? = some (.string ⟨wt.toArray⟩) := hJ.qv 13 rfl (hdep ⟨13, .data⟩ (by simp) rfl)
          have n15 : d 15 = false := by cases hd : d 15 with | false => rfl | true => exact absurd (hcl 15 _ rfl hd ⟨14, .data⟩ (by simp) rfl) (by simp [hdi])
          refine Mix.op_value (v := .slice (some ⟨w.heap.size, 0, none⟩) 1 1) ho rfl ?_ (hJ.lay14 (Nat.le_of_ble_eq_true rfl) n15)
          go_simp
      | 15, _, ho =>
          have ho' := ho
          simp only [List.getElem?_cons_zero, List.getElem?_cons_succ, Option.some.injEq] at ho'
          subst ho'
          have T79 : a.tmps[79]? = some (vw) := hJ.qv 12 rfl (hdep ⟨12, .data⟩ (by simp) rfl)
          have y8 := hdep ⟨8, .chain⟩ (by simp) rfl
          have n18 : d 18 = false := by cases hd : d 18 with | false => rfl | true => exact absurd (hcl 18 _ rfl hd ⟨15, .chain⟩ (by simp) rfl) (by simp [hdi])
          have n21 : d 21 = false := by cases hd : d 21 with | false => rfl | true => exact absurd (hcl 21 _ rfl hd ⟨15, .data⟩ (by simp) rfl) (by simp [hdi])
          have E79 := Mix.eval_of T79
          obtain ⟨c8, c15, b7, b14, ss⟩ := hJ.st
          obtain ⟨T81, B81, -⟩ := ss.s14 (hdep ⟨14, .data⟩ (by simp) rfl) hdi
          have E81 := Mix.eval_of T81
          obtain ⟨i0, hi0, hz0, hz1, hz2⟩ := info_parts info_s
          have hsz := ss.size
          refine Mix.op_wp ho rfl ?_
          refine Mix.wp_append_at w (.tmp 79) (.tmp 81) 55 rfl B 9 i0 _ 1 16 Tryd.underlying55 hi0 hz0 hz1 hz2 rfl (by decide) vw st.wants.length (rowS st.wants) E79 (ss.w0_ hdi) ⟨b14, 0, none⟩ 1 1 [.string ⟨wt.toArray⟩] E81 rfl (World.news_of_block (cs := #[.string ⟨wt.toArray⟩]) B81) (by intro u hu; simp only [List.mem_cons, List.not_mem_nil, or_false] at hu; subst hu; rfl) (by unfold maxLen; omega) (by omega) (by have := hW2.size; omega) ?_
          intro v' w' h2 h3 h5
          refine hJ.app15 (Nat.le_of_ble_eq_true rfl) y8 hdi n18 n21 ?_ h3
          show w'.ownsRow B 9 1 v' (st.wants ++ [wt]).length (rowS (st.wants ++ [wt]))
          rw [show rowS (st.wants ++ [wt]) = rowS st.wants ++ rowS [wt] from List.map_append, List.length_append]
          exact h2
      | 16, _, ho =>
          have ho' := ho
          simp only [List.getElem?_cons_zero, List.getElem?_cons_succ, Option.some.injEq] at ho'
          subst ho'
          have T67 : a.tmps[67]? = some (.pointer (some ⟨bw, 0, none⟩)) := hJ.qv 0 rfl (hdep ⟨0, .data⟩ (by simp) rfl)
          refine Mix.op_value (v := .pointer (some ⟨bw, 0, none⟩)) ho rfl ?_ (hJ.read (Nat.le_of_ble_eq_true rfl) (i := 16) rfl)
          go_simp
      | 17, _, ho =>
          have ho' := ho
          simp only [List.getElem?_cons_zero, List.getElem?_cons_succ, Option.some.injEq] at ho'
          subst ho'
          have T83 : a.tmps[83]? = some (.pointer (some ⟨bw, 0, none⟩)) := hJ.qv 16 rfl (hdep ⟨16, .data⟩ (by simp) rfl)
          refine Mix.op_value (v := .pointer (some ⟨bw, 0, none⟩)) ho rfl ?_ (hJ.read (Nat.le_of_ble_eq_true rfl) (i := 17) rfl)
          go_simp
      | 18, _, ho =>
          have ho' := ho
          simp only [List.getElem?_cons_zero, List.getElem?_cons_succ, Option.some.injEq] at ho'
          subst ho'
          have T84 : a.tmps[84]? = some (.pointer (some ⟨bw, 0, none⟩)) := hJ.qv 17 rfl (hdep ⟨17, .data⟩ (by simp) rfl)
          have y8 := hdep ⟨8, .data⟩ (by simp) rfl
          have y15 := hdep ⟨15, .chain⟩ (by simp) rfl
          have n21 : d 21 = false := by cases hd : d 21 with | false => rfl | true => exact absurd (hcl 21 _ rfl hd ⟨18, .chain⟩ (by simp) rfl) (by simp [hdi])
          obtain ⟨c8, c15, b7, b14, ss⟩ := hJ.st
          obtain ⟨T75, O8⟩ := ss.p1 y8
          have hbw := ss.bwk
          obtain ⟨sl8, cap8, rfl⟩ := own_form O8
          have zf : w.frozen? ⟨bw, 0, none⟩ = false := by simp [World.frozen?, hbw]
          have zc : w.cell? ⟨bw, 0, none⟩ = some vp := by simp [World.cell?, hbw, hdi]
          clear hbw ss
          refine Mix.op_skip ho rfl rfl ?_ (hJ.st18 y8 y15 hdi n21 T75)
          go_simp
      | 19, _, ho =>
          have ho' := ho
          simp only [List.getElem?_cons_zero, List.getElem?_cons_succ, Option.some.injEq] at ho'
          subst ho'
          have T68 : a.tmps[68]? = some (.pointer (some ⟨bw, 0, none⟩)) := hJ.qv 1 rfl (hdep ⟨1, .data⟩ (by simp) rfl)
          refine Mix.op_value (v := .pointer (some ⟨bw, 0, none⟩)) ho rfl ?_ (hJ.read (Nat.le_of_ble_eq_true rfl) (i := 19) rfl)
          go_simp
      | 20, _, ho =>
          have ho' := ho
          simp only [List.getElem?_cons_zero, List.getElem?_cons_succ, Option.some.injEq] at ho'
          subst ho'
          have T85 : a.tmps[85]? = some (.pointer (some ⟨bw, 0, none⟩)) := hJ.qv 19 rfl (hdep ⟨19, .data⟩ (by simp) rfl)
          refine Mix.op_value (v := .pointer (some ⟨bw, 2, none⟩)) ho rfl ?_ (hJ.read (Nat.le_of_ble_eq_true rfl) (i := 20) rfl)
          go_simp
      | 21, _, ho =>
          have ho' := ho
          simp only [List.getElem?_cons_zero, List.getElem?_cons_succ, Option.some.injEq] at ho'
          subst ho'
          have T86 : a.tmps[86]? = some (.pointer (some ⟨bw, 2, none⟩)) := hJ.qv 20 rfl (hdep ⟨20, .data⟩ (by simp) rfl)
          have y15 := hdep ⟨15, .data⟩ (by simp) rfl
          have y18 := hdep ⟨18, .chain⟩ (by simp) rfl
          have y8 := hcl 15 _ rfl y15 ⟨8, .chain⟩ (by simp) rfl
          obtain ⟨c8, c15, b7, b14, ss⟩ := hJ.st
          obtain ⟨T82, O15⟩ := ss.w1_ y15
          have hbw := ss.bwk
          obtain ⟨sl15, cap15, rfl⟩ := own_form O15
          have zf : w.frozen? ⟨bw, 2, none⟩ = false := by simp [World.frozen?, hbw]
          have zc : w.cell? ⟨bw, 2, none⟩ = some vw := by simp [World.cell?, hbw, hdi]
          clear hbw ss
          refine Mix.op_skip ho rfl rfl ?_ (hJ.st21 y8 y15 y18 hdi T82)
          go_simp
      | k + 22, hi, _ => exact absurd hi (by omega)
    case he =>
      intro d a w hall hJ
      obtain ⟨u74, c8, u81, c15, rfl, hO8, hO15, hbw, e1, e2, e3, e4, hkeep⟩ := hJ.done hall
      clear hJ hall
      have hF : FW W w B bw bl := (FW.of_below (bl := bl) hW2 hB).trans ⟨e1, e2, e3, e4, fun k h1 h2 h3 => hkeep k (by have := hW2.size; show k < wc.heap.size; omega) h2 (fun e => by have h9 : B ≤ k := (HW.out.op.lt _ e).1; omega) (fun e => by have h9 : B ≤ k := (HW.out.ow.lt _ e).1; omega), fun k o hk ho => (hkeep k (Array.getElem?_eq_some_iff.1 hk).1 (fun e => by rw [show k = bw from e, HK.blk] at hk; cases hk; cases ho) (fun e => by obtain ⟨cs, hcs⟩ := own_type HK.op e; rw [hcs] at hk; cases hk; cases ho) (fun e => by obtain ⟨cs, hcs⟩ := own_type HK.ow e; rw [hcs] at hk; cases hk; cases ho)).trans hk⟩
      have HH := Lib.hid (show WK w B bw bl ⟨st.prog ++ [x], st.wants ++ [wt], st.lines, st.labs⟩ c8 vl c15 ll from
        have hne : ∀ k, vl.ownBlock = some k → w.heap[k]? = wc.heap[k]? := fun k hk => hkeep k (HK.ol.lt k hk).2 (fun e => ne_type HK.ol HK.blk (by decide) (by rw [hk, e])) (fun e => own_apart HK.ol HK.op (by decide) hk e) (fun e => own_apart HK.ol HK.ow (by decide) hk e)
        ⟨hbw, hO8, own_block HK.ol hne, hO15, by
          obtain ⟨v, hb, hO⟩ := HK.sh
          exact ⟨v, (hkeep bl (Array.getElem?_eq_some_iff.1 hb).1 (fun e => by
            have h9 := HK.blk
            rw [← (show bl = bw from e), hb] at h9
            injection h9 with h9
            injection h9 with _ h9 _
            exact absurd h9 (by decide)) (ne_type HK.op hb (by decide)) (ne_type HK.ow hb (by decide))).trans hb, own_block hO fun k hk => hkeep k (hO.lt k hk).2 (fun e => ne_type hO HK.blk (by decide) (by rw [hk, e])) (fun e => own_apart hO HK.op (by decide) hk e) (fun e => own_apart hO HK.ow (by decide) hk e)⟩, HK.lb⟩)
      have HF := Lib.hid hF
      clear hF hkeep hbw hO8 hO15 e1 e2 e3 e4 h0 HK hlb hx hW2 HW
      cases ok with
      | true =>
        go_wp2_with fail
        go_ret
        exact ⟨HF.out, rfl, _, _, HH.out⟩
      | false =>
        go_wp2_with fail
        go_ret
        exact ⟨HF.out, by rw [hR]; rfl⟩
end Aw
end Go.Proofs.YtipcockcndnipaaDoor
