/-
  joined: what a list of gaps holds, in the normal form.
-/
import Derived.Test.YtlmmhhkhoaoheaaGreatDoorSgS
import Derived.Test.YtlmmhhkhoaoheaaGreatDoorMix
import Derived.Deep.AppendLies
namespace Go.Proofs.YtlmmhhkhoaoheaaGreatDoor
open Go.RowKit Go.Shelf Go.Lib
namespace Sg

theorem step_bd {out : List G} {g : G} (h : ∀ x ∈ out, Bd x) (hg : Bd g) : ∀ x ∈ stepJ out g, Bd x := by
  unfold stepJ
  split
  · exact h
  · rcases snoc_cases out with rfl | ⟨a, l, rfl⟩
    · simp only [List.getLast?_nil]
      intro x hx
      rw [List.mem_singleton.1 hx]
      exact hg
    · rw [List.getLast?_concat, List.dropLast_concat]
      dsimp only
      split
      · intro x hx
        rcases List.mem_append.1 hx with hx | hx
        · exact h x (List.mem_append_left _ hx)
        · have hl := h l (List.mem_append_right _ (.head _))
          rw [List.mem_singleton.1 hx]
          refine ⟨hl.1, ?_⟩
          have h1 := hl.2
          have h2 := hg.2
          constructor
          · simp only; omega
          · simp only; omega
      · intro x hx
        rcases List.mem_append.1 hx with hx | hx
        · exact h x hx
        · rw [List.mem_singleton.1 hx]
          exact hg
theorem step_len (out : List G) (g : G) : (stepJ out g).length ≤ out.length + 1 := by
  unfold stepJ
  split
  · omega
  · rcases snoc_cases out with rfl | ⟨a, l, rfl⟩
    · simp
    · rw [List.getLast?_concat, List.dropLast_concat]
      dsimp only
      split <;> simp
theorem GO.isl {W : World} {B : Nat} {v : Value} {l : List G} (h : GO W B v l) : ∃ sl cap, v = .slice sl l.length cap := by
  rcases h.form with ⟨rfl, h1⟩ | ⟨g, cap, rfl, _⟩
  · exact ⟨none, 0, by rw [h1]; rfl⟩
  · exact ⟨_, _, rfl⟩
def accJ (l : List G) (k : Nat) : List G := (l.take k).foldl stepJ []
theorem acc_succ {l : List G} {k : Nat} {g : G} (h : l[k]? = some g) : accJ l (k + 1) = stepJ (accJ l k) g := by
  unfold accJ
  rw [List.take_add_one, h, List.foldl_append]
  rfl
theorem acc_bd {l : List G} (h : ∀ x ∈ l, Bd x) : ∀ k, (∀ x ∈ accJ l k, Bd x) ∧ (accJ l k).length ≤ k
  | 0 => ⟨fun x hx => (by cases hx), Nat.le_refl _⟩
  | k + 1 => by
    have ih := acc_bd h k
    cases hk : l[k]? with
    | none =>
      have : accJ l (k + 1) = accJ l k := by unfold accJ; rw [List.take_add_one, hk]; simp
      rw [this]
      exact ⟨ih.1, by omega⟩
    | some g =>
      rw [acc_succ hk]
      exact ⟨step_bd ih.1 (h g (List.mem_of_getElem? hk)), Nat.le_trans (step_len _ g) (by omega)⟩
theorem acc_all (l : List G) : accJ l l.length = joinF l := by unfold accJ joinF; rw [List.take_length]
theorem GO.push {w : World} {B : Nat} {v : Value} {l : List G} (h : GO w B v l) (g : G) (hn : l.length ≤ 1000000) (hBw : B ≤ w.heap.size) {ops : Array Oper} {rest : List Oper} {o : Oper} {a : Act} {Q : Exit → Act → World → Prop} (hgd : o.guard = none) (sl xo : Operand)
    (ho : o.op = .call { callee := .builtin .append, args := #[sl, xo], argTypes := #[23, 23] }) (hv : a.eval sl = v) {A : Nat} (hx : a.eval xo = .slice (some ⟨A, 0, none⟩) 1 1) (hA : A = w.heap.size)
    (hK : ∀ v' w', GO w' B v' (l ++ [g]) → (∀ w0, Below B w0 w → Below B w0 w') → wpList Tryz.prog ops Q rest (a.put o.dst v') w') : wpList Tryz.prog ops Q (o :: rest) a (w.alloc (.cells #[.int .i64 g.1, .int .i64 g.2] 42)) := by
  subst hA
  obtain ⟨i0, hi0, hz⟩ := Option.map_eq_some_iff.1 info_gap
  obtain ⟨z1, z2⟩ := Prod.mk.inj hz
  obtain ⟨z2, z3⟩ := Prod.mk.inj z2
  have h1 : GO (w.alloc (.cells #[.int .i64 g.1, .int .i64 g.2] 42)) B v l := h.below ((Below.refl _ _).alloc (Nat.le_refl _) _)
  refine wpList_append_own _ hgd sl xo 23 ho B 42 i0 _ 2 16 Tryz.underlying23 hi0 z1 z2 z3 rfl (by decide) v l.length _ hv h1 ⟨w.heap.size, 0, none⟩ 1 1 [.int .i64 g.1, .int .i64 g.2] hx rfl (World.news_of_block (cs := #[.int .i64 g.1, .int .i64 g.2]) (heap_alloc_new w _)) ?_ (by unfold maxLen; omega) (by omega) (by simp; omega) ?_
  · intro q hq
    simp only [List.mem_cons, List.not_mem_nil, or_false] at hq
    rcases hq with rfl | rfl <;> rfl
  intro v' w2 hown2 hg2 _
  refine hK v' w2 ?_ (fun w0 h0 => (h0.alloc hBw _).grown hg2 (by simp; omega) (fun k hk => (h.lt k hk).1))
  unfold GO
  rw [List.length_append, row_app]
  exact hown2
theorem drew_drewN (w : World) (n : Nat) : (w.drewN n).drew = w.drewN (n + 1) := rfl
theorem row_set (a : List G) (l : G) (h : Int) : (row (a ++ [l])).set (a.length * 2 + 1) (.int .i64 h) = row (a ++ [(l.1, h)]) := by
  rw [row_app, row_app, List.set_append_right _ _ (by rw [row_len]; omega), row_len, show a.length * 2 + 1 - a.length * 2 = 1 by omega]
  rfl
theorem GO.merge {w : World} {B gb co m : Nat} {a : List G} {z1 z2 : Int} (hO : w.ownsRow B 42 2 (.slice (some ⟨gb, 0, none⟩) (m + 1) co) (m + 1) (row (a ++ [(z1, z2)]))) (hm : m = a.length) (n : Nat) (h : Int) :
    GO ((w.drewN n).setCell ⟨gb, m * 2 + 1, none⟩ (.int .i64 h)) B (.slice (some ⟨gb, 0, none⟩) (m + 1) co) (a ++ [(z1, h)]) := by
  have h6 := (World.ownsRow.stored (w := w.drewN n) hO (m * 2 + 1) (.int .i64 h)).1
  subst hm
  rw [row_set] at h6
  unfold GO
  rw [show (a ++ [(z1, h)]).length = a.length + 1 by simp]
  exact h6
set_option maxHeartbeats 4000000 in
set_option maxRecDepth 100000 in
theorem joined_any (l : List G) (hbd : ∀ g ∈ l, Bd g) (B : Nat) (v : Value) (W : World) (hO : GO W B v l) (hl : l.length ≤ 1000000) :
    Calls Tryz.prog 27 #[v] W fun e W' => ∃ v' r, e = .returned v' ∧ GO W' W.heap.size v' r ∧ Nm r ∧ (∀ n, inR r n ↔ inR l n) ∧ (∀ g ∈ r, Bd g) ∧ r.length ≤ l.length ∧ Below W.heap.size W W' := by
  have hcl := clone_any l B v W hO (by omega)
  have hso := fun W1 v1 (h : GO W1 W.heap.size v1 l) => sort_any l hbd W.heap.size v1 W1 h (by omega)
  go_enter Tryz.func27, Tryz.ntmps27
  go_wp2_with (first
    | (go_at_call 46; refine hcl.mono ?_; rintro e W1 ⟨v1, rfl, hO1, hB1⟩)
    | (go_at_call 47; refine (hso _ _ hO1).mono ?_; rintro e W2 ⟨rfl, s, hp, hs, hO2, hB2⟩; obtain ⟨sl, cap, rfl⟩ := hO2.isl))
  clear hcl hso hO1
  have hB := hB1.trans hB2
  have hsb : ∀ g ∈ s, Bd g := fun g hg => hbd g (hp.mem_iff.1 hg)
  have hsl : s.length = l.length := hp.length_eq
  have hN := join_nm hs
  have HF := Lib.hid (show Nm (accJ s s.length) ∧ (∀ n, inR (accJ s s.length) n ↔ inR l n) ∧ (∀ g ∈ accJ s s.length, Bd g) ∧ (accJ s s.length).length ≤ l.length from by
    have h9 := acc_bd hsb s.length
    rw [acc_all] at h9 ⊢
    refine ⟨hN.1, fun n => (hN.2 n).trans ?_, h9.1, by omega⟩
    exact ⟨fun ⟨g, hg, h⟩ => ⟨g, hp.mem_iff.1 hg, h⟩, fun ⟨g, hg, h⟩ => ⟨g, hp.mem_iff.2 hg, h⟩⟩)
  have HSB := Lib.hid hsb
  have hsm : s.length ≤ 1000000 := by omega
  clear hp hs hN hsb hsl hbd hl hO hB1 hB2
  have HO2 := Lib.hid hO2
  clear hO2
  go_loopw [4, 14] (fun v i wr => ∃ k : Nat, k ≤ s.length ∧ i = .int .i64 (k : Int) ∧ GO wr W2.heap.size v (accJ s k) ∧ Below W2.heap.size W2 wr) (fun _ i _ => s.length - (intOf i).toNat)
  case atStart => exact ⟨0, Nat.zero_le _, rfl, go_nil _ _, Below.refl _ _⟩
  case round =>
    obtain ⟨k, hk, rfl, hv, hb⟩ := hrel
    by_cases hlt : k < s.length
    · obtain ⟨g, hg⟩ : ∃ g, s[k]? = some g := ⟨s[k], List.getElem?_eq_getElem hlt⟩
      obtain ⟨b, rfl, hBb, ha, h3⟩ := HO2.out.at hg
      obtain ⟨c0, c1⟩ := h3.below ha hb
      have HS := Lib.hid (acc_succ hg)
      have HA := Lib.hid (acc_bd HSB.out k)
      obtain ⟨acc, hacc⟩ : ∃ acc, acc = accJ s k := ⟨_, rfl⟩
      rw [← hacc] at hv HS HA
      have hal : acc.length ≤ 1000000 := by have := HA.out.2; omega
      obtain ⟨lo, hi⟩ := g
      clear hg h3 hacc
      have HV := Lib.hid hv
      have hbs := hb.size
      have hB3 := hb.alloc hb.size (.cells #[.int .i64 lo, .int .i64 hi] 42)
      have HV3 := Lib.hid (hv.below ((Below.refl _ _).alloc (Nat.le_refl _) (.cells #[.int .i64 lo, .int .i64 hi] 42)))
      by_cases g1 : hi ≤ lo
      · have HE := Lib.hid (show accJ s (k + 1) = acc by rw [HS.out]; unfold stepJ; rw [if_pos g1])
        obtain ⟨so, co, rfl⟩ := HV.out.isl
        clear hv
        go_wp2_with fail
        go_roundw
        case rel => exact ⟨k + 1, by omega, by go_num, by rw [HE.out]; exact HV3.out, hB3⟩
        case measure => simp [intOf]; omega
      rcases snoc_cases acc with rfl | ⟨a, z, rfl⟩
      · have HE := Lib.hid (show accJ s (k + 1) = [] ++ [(lo, hi)] by rw [HS.out]; unfold stepJ; rw [if_neg g1]; rfl)
        obtain ⟨so, co, rfl⟩ := HV.out.isl
        have HV4 := Lib.hid HV3.out
        clear hv
        go_wp2_with fail
        go_quiet (fail)
        go_wp2_with (first
          | (at_builtin; refine GO.push (l := []) (B := W2.heap.size) ?hh (lo, hi) (by simp) ?hk rfl _ _ rfl rfl rfl ?he ?_; (case hh => exact HV4.out); (case hk => simp; omega); (case he => simp); intro v9 w9 hO9 hB9))
        have HO9 := Lib.hid hO9
        have HB9 := Lib.hid (hB9 _ (Sx.below_drewN hB3 _))
        clear hO9 hB9
        go_wp2_with fail
        go_roundw
        case rel => exact ⟨k + 1, by omega, by go_num, by rw [HE.out]; exact HO9.out, HB9.out⟩
        case measure => simp [intOf]; omega
      · have hz : (a ++ [z])[a.length]? = some z := by simp
        have hlen : (a ++ [z]).length = a.length + 1 := by simp
        obtain ⟨so, co, hvv⟩ := HV.out.isl
        rw [hlen] at hvv
        subst hvv
        obtain ⟨gb, rfl, hgb, hgs, c2, c3⟩ := HV3.out.at hz
        obtain ⟨z1, z2⟩ := z
        obtain ⟨m, hm⟩ : ∃ m, m = a.length := ⟨_, rfl⟩
        rw [hlen] at hal
        rw [← hm] at c2 c3 hal ⊢
        have j0 : decide ((0 : Int) ≤ (m : Int)) = true := by simp
        by_cases g2 : lo ≤ z2
        · have j1 : decide (lo ≤ z2) = true := decide_eq_true g2
          have hO5 : (wr.alloc (.cells #[.int .i64 lo, .int .i64 hi] 42)).ownsRow W2.heap.size 42 2 (.slice (some ⟨gb, 0, none⟩) (m + 1) co) (m + 1) (row (a ++ [(z1, z2)])) := by
            have h5 := HV3.out
            unfold GO at h5
            rw [hlen, ← hm] at h5
            exact h5
          have f3 := World.ownsRow.frozenAt hO5 (m * 2 + 1)
          have HO5 := Lib.hid hO5
          have HE := Lib.hid (show accJ s (k + 1) = a ++ [(z1, max z2 hi)] by rw [HS.out]; unfold stepJ; rw [if_neg g1, List.getLast?_concat, List.dropLast_concat]; dsimp only; rw [if_pos g2])
          have hv4 := HV3.out
          rw [← hm] at hv4
          have HV4 := Lib.hid hv4
          have HM := Lib.hid hm
          clear hv4 hv hz hlen hm
          go_wp2_with fail
          go_quiet (fail)
          go_wp2_with fail
          refine Mix.region (fun w' => ∃ n, w' = (wr.alloc (.cells #[.int .i64 lo, .int .i64 hi] 42)).drewN n) 12 [0, 0, 0, 0, 0, 0, 0, 0, 0, 1, 2, 2, 9] [true, false, true] (by kernel_rfl) (fun _ _ d _ _ h => by cases d <;> exact h) (by rfl) (by kernel_rfl) ⟨_, drew_drewN _ _⟩ ?_
          simp only [Mix.selP_cons, Mix.selP_nil, Mix.sel_cons, Mix.sel_nil, Nat.reduceBEq, Nat.reduceAdd, cond_true, cond_false, List.drop_succ_cons, List.drop_zero]
          refine Mix.parts_q ?_
          repeat (go_big_quiet_step (fail))
          refine wpQuiet_nil ?_
          refine Mix.parts_e ?_
          refine Mix.eff_step (fun K hK => ?_)
          go_simp
          refine hK _ _ ⟨_, rfl⟩ ?_
          refine Mix.eff_nil (Mix.parts_q ?_)
          repeat (go_big_quiet_step (fail))
          refine wpQuiet_nil ?_
          refine Mix.parts_n ?_
          go_wp2_with fail
          go_roundw
          case rel =>
            refine ⟨k + 1, by omega, by go_num, ?_, (Sx.below_drewN hB3 _).setCell (p := ⟨gb, m * 2 + 1, none⟩) hgb _⟩
            rw [HE.out]
            exact GO.merge HO5.out HM.out _ _
          case measure => simp [intOf]; omega
        · have j1 : decide (lo ≤ z2) = false := decide_eq_false g2
          have HE := Lib.hid (show accJ s (k + 1) = (a ++ [(z1, z2)]) ++ [(lo, hi)] by rw [HS.out]; unfold stepJ; rw [if_neg g1, List.getLast?_concat, List.dropLast_concat]; dsimp only; rw [if_neg g2])
          have hv4 := HV3.out
          rw [← hm] at hv4
          have HV4 := Lib.hid hv4
          have HM := Lib.hid hm
          clear hv4 hv hz hlen hm
          go_wp2_with fail
          go_quiet (fail)
          go_wp2_with (first
            | (at_builtin; refine GO.push (l := a ++ [(z1, z2)]) (B := W2.heap.size) ?hh (lo, hi) (by rw [List.length_append, ← HM.out]; simpa using hal) ?hk rfl _ _ rfl rfl rfl ?he ?_; (case hh => exact HV4.out); (case hk => simp; omega); (case he => simp); intro v9 w9 hO9 hB9))
          have HO9 := Lib.hid hO9
          have HB9 := Lib.hid (hB9 _ (Sx.below_drewN hB3 _))
          clear hO9 hB9
          go_wp2_with fail
          go_roundw
          case rel => exact ⟨k + 1, by omega, by go_num, by rw [HE.out]; exact HO9.out, HB9.out⟩
          case measure => simp [intOf]; omega
    · obtain rfl : k = s.length := by omega
      go_wp2_with fail
      go_ret
      obtain ⟨h1, h2, h3, h4⟩ := HF.out
      exact ⟨_, _, rfl, hv.le hB.size, h1, h2, h3, h4, hB.trans (hb.mono hB.size)⟩
end Sg
end Go.Proofs.YtlmmhhkhoaoheaaGreatDoor
