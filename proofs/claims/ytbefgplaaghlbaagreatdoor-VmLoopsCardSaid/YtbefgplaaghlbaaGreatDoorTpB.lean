/-
  Walks: a file of a tree (BinarySearchFunc at files, tree.Get).
-/
import Derived.Test.YtbefgplaaghlbaaGreatDoorTpA
import Derived.StillTailTactics
namespace Go.Proofs.YtbefgplaaghlbaaGreatDoor
open Go.RowKit Go.Shelf Go.Lib Go.Sort
namespace Tr

theorem cmp_ltB2 {a b : List UInt8} : (Lib.compareBytes a b < 0) ↔ ltB a b = true := by simp [ltB]
theorem cmp_eqB {a b : List UInt8} : (Lib.compareBytes a b == 0) = (a == b) := by
  by_cases h : a = b
  · subst h
    rw [cmp_self]
    simp
  · have h1 : Lib.compareBytes a b ≠ 0 := fun e => h (cmp_zero e)
    rw [beq_eq_false_iff_ne.2 h1, beq_eq_false_iff_ne.2 h]
theorem srt_lo {l : List F} (h : Srt l) {i j : Nat} {x y : F} {p : List UInt8} (hij : i ≤ j) (hx : l[i]? = some x) (hy : l[j]? = some y) (hp : ltB (K y) p = true) : ltB (K x) p = true := by
  have h1 := h.le hij hx hy
  cases hc : ltB (K x) p with
  | true => rfl
  | false =>
    have h2 : leB p (K x) := hc
    have h3 : leB p (K y) := leB_tr h2 h1
    have h4 : ltB (K y) p = false := h3
    rw [h4] at hp
    cases hp
theorem srt_hi {l : List F} (h : Srt l) {i j : Nat} {x y : F} {p : List UInt8} (hij : i ≤ j) (hx : l[i]? = some x) (hy : l[j]? = some y) (hp : ltB (K x) p = false) : ltB (K y) p = false := by
  have h1 := h.le hij hx hy
  have h2 : leB p (K x) := hp
  exact leB_tr h2 h1
/-- what the search finds -/
theorem get_hit {l : List F} {p : List UInt8} {i : Nat} {x : F} (hlo : ∀ (j : Nat) (y : F), j < i → l[j]? = some y → ltB (K y) p = true) (hx : l[i]? = some x) (he : K x = p) : getT l p = some x.2 := by
  unfold getT
  have : l.find? (fun f => K f == p) = some x := by
    rw [List.find?_eq_some_iff_getElem]
    obtain ⟨h1, h2⟩ := List.getElem?_eq_some_iff.1 hx
    refine ⟨by simp [he], i, h1, h2, fun j hj => ?_⟩
    have := hlo j _ hj (List.getElem?_eq_getElem (by omega))
    simp only [Bool.not_eq_true', beq_eq_false_iff_ne]
    intro e
    rw [e, ltB_irr] at this
    cases this
  rw [this]
  rfl
theorem get_miss {l : List F} {p : List UInt8} {i : Nat} (hs : Srt l) (hlo : ∀ (j : Nat) (y : F), j < i → l[j]? = some y → ltB (K y) p = true) (hhi : ∀ x, l[i]? = some x → ltB (K x) p = false ∧ K x ≠ p) : getT l p = none := by
  unfold getT
  rw [Option.map_eq_none_iff, List.find?_eq_none]
  intro y hy
  obtain ⟨j, hj⟩ := List.getElem?_of_mem hy
  simp only [beq_iff_eq]
  intro e
  rcases Nat.lt_or_ge j i with h | h
  · have := hlo j y h hj
    rw [e, ltB_irr] at this
    cases this
  · obtain ⟨x, hx⟩ : ∃ x, l[i]? = some x := ⟨_, List.getElem?_eq_getElem (by have := (List.getElem?_eq_some_iff.1 hj).1; omega)⟩
    obtain ⟨h1, h2⟩ := hhi x hx
    have h3 : leB (K x) (K y) := hs.le h hx hj
    rw [e] at h3
    exact h2 (leB_anti h3 h1)
/-- where the search ends -/
def Fnd (l : List F) (p : List UInt8) (i : Int) (b : Bool) : Prop := b = (getT l p).isSome ∧ (b = true → ∃ (k : Nat) (x : F), i = k ∧ l[k]? = some x ∧ getT l p = some x.2)
set_option maxHeartbeats 2000000 in
set_option maxRecDepth 100000 in
theorem search_any (s : ByteArray) (l : List F) (v : Value) (w : World) (hF : FS w v l) (hs : Srt l) (hl : l.length ≤ 1000000) :
    Calls Tryz.prog 113 #[v, .agg #[.string s, .string ⟨#[]⟩], .func (.func 60) #[] #[]] w fun e w' =>
      ∃ (i : Int) (b : Bool), e = .returned (.tuple #[.int .i64 i, .bool b]) ∧ Fnd l s.data.toList i b ∧ Below w.heap.size w w' := by
  obtain ⟨sl, cap, rfl, hf⟩ := hF.form
  have HS := Lib.hid hs
  have HF := Lib.hid hf
  have hA : Below w.heap.size w (w.alloc (.cells #[.string s, .string ⟨#[]⟩] 34)) := (Below.refl _ _).alloc (Nat.le_refl _) _
  have HN : (w.alloc (.cells #[.string s, .string ⟨#[]⟩] 34)).cell? ⟨w.heap.size, 0, none⟩ = some (.string s) ∧ (w.alloc (.cells #[.string s, .string ⟨#[]⟩] 34)).cell? ⟨w.heap.size, 1, none⟩ = some (.string ⟨#[]⟩) := by
    constructor <;> (simp only [World.cell?, heap_alloc_new]; rfl)
  have HN := Lib.hid HN
  have HA := Lib.hid hA
  clear hs hf hF hA
  go_enter Tryz.func113, Tryz.ntmps113
  go_wp2_with fail
  go_loopw [9, 10] (fun i j wr => ∃ lo hi : Nat, i = .int .i64 lo ∧ j = .int .i64 hi ∧ lo ≤ hi ∧ hi ≤ l.length ∧ (∀ (i : Nat) (a : F), i < lo → l[i]? = some a → ltB (K a) (s.data.toList) = true) ∧ (∀ (i : Nat) (a : F), hi ≤ i → l[i]? = some a → ltB (K a) (s.data.toList) = false) ∧ Below (w.heap.size + 1) (w.alloc (.cells #[.string s, .string ⟨#[]⟩] 34)) wr) (fun i j _ => (RowKit.intOf j).toNat - (RowKit.intOf i).toNat)
  case atStart => exact ⟨0, l.length, rfl, rfl, Nat.zero_le _, Nat.le_refl _, fun i a h => absurd h (Nat.not_lt_zero _), fun i a h1 h2 => absurd (List.getElem?_eq_some_iff.1 h2).1 (by omega), Below.refl _ _⟩
  case round =>
    obtain ⟨lo, hi, rfl, rfl, hlh, hhl, hlo, hhi, hB⟩ := hrel
    have HLO := Lib.hid hlo
    have HHI := Lib.hid hhi
    have HB := Lib.hid hB
    have n0 := (hB.cell (p := ⟨w.heap.size, 0, none⟩) (Nat.lt_succ_self _)).trans HN.out.1
    have n1 := (hB.cell (p := ⟨w.heap.size, 1, none⟩) (Nat.lt_succ_self _)).trans HN.out.2
    clear hlo hhi hB
    by_cases hlt : lo < hi
    · obtain ⟨h, hh⟩ : ∃ h : Nat, h = (lo + hi) / 2 := ⟨_, rfl⟩
      obtain ⟨a, ha⟩ : ∃ a, l[h]? = some a := ⟨l[h]'(by omega), List.getElem?_eq_getElem _⟩
      obtain ⟨g, o, rfl, hg, c0, c1⟩ := HF.out h a ha
      replace c0 := ((HB.out.mono (Nat.le_succ _)).cell (p := ⟨g, o + h * 2, none⟩) hg).trans ((HA.out.cell (p := ⟨g, o + h * 2, none⟩) hg).trans c0)
      replace c1 := ((HB.out.mono (Nat.le_succ _)).cell (p := ⟨g, o + h * 2 + 1, none⟩) hg).trans ((HA.out.cell (p := ⟨g, o + h * 2 + 1, none⟩) hg).trans c1)
      have q1 : ((lo : Int) + (hi : Int)) / 2 = (h : Int) := by omega
      have q2 : (lo + hi) / 2 = h := hh.symm
      have q3 : h < l.length := by omega
      have q4 : lo ≤ h := by omega
      have q5 : h < hi := by omega
      have HA1 := Lib.hid ha
      clear hh ha
      go_wp2_with fail
      go_still_tail 6, (by kernel_rfl)
      change wpList _ _ _ _ _ (World.drewN wr 1)
      generalize hz : World.drewN wr 1 = wz
      have HZ := Lib.hid (show Below (w.heap.size + 1) (w.alloc (.cells #[.string s, .string ⟨#[]⟩] 34)) wz by rw [← hz]; exact Sx.below_drewN HB.out 1)
      clear hz n0 n1 c0 c1
      go_wp2_with fail
      refine (bypath_any a (s, ⟨#[]⟩) wz).mono ?_
      rintro e w2 ⟨rfl, hb2⟩
      have HB2 := Lib.hid (HZ.out.trans (hb2.mono (by have := HZ.out.size; simp at this; omega)))
      clear hb2
      by_cases hc : ltB (K a) s.data.toList = true
      · obtain ⟨z, hz⟩ : ∃ z, z = Lib.compareBytes (K a) (K (s, (⟨#[]⟩ : ByteArray))) := ⟨_, rfl⟩
        have z0 : z < 0 := by rw [hz]; exact cmp_ltB2.2 hc
        have HN2 := Lib.hid (show ∀ (i : Nat) (b : F), i < h + 1 → l[i]? = some b → ltB (K b) (s.data.toList) = true from fun i b hi hb => srt_lo HS.out (Nat.le_of_lt_succ hi) hb HA1.out hc)
        rw [← hz]
        clear hz hc q1 q2
        go_wp2_with fail
        go_roundw
        case rel => exact ⟨h + 1, hi, by go_num, rfl, by omega, hhl, HN2.out, HHI.out, HB2.out⟩
        case measure => simp [RowKit.intOf]; omega
      · have hc' : ltB (K a) (s.data.toList) = false := by simpa using hc
        obtain ⟨z, hz⟩ : ∃ z, z = Lib.compareBytes (K a) (K (s, (⟨#[]⟩ : ByteArray))) := ⟨_, rfl⟩
        have z0 : ¬ z < 0 := by rw [hz]; exact fun g => hc (cmp_ltB2.1 g)
        have HN2 := Lib.hid (show ∀ (i : Nat) (b : F), h ≤ i → l[i]? = some b → ltB (K b) (s.data.toList) = false from fun i b hi hb => srt_hi HS.out hi HA1.out hb hc')
        rw [← hz]
        clear hz hc hc' q1 q2
        go_wp2_with fail
        go_roundw
        case rel => exact ⟨lo, h, rfl, rfl, q4, by omega, HLO.out, HN2.out, HB2.out⟩
        case measure => simp [RowKit.intOf]; omega
    · obtain rfl : hi = lo := by omega
      by_cases hn : hi < l.length
      · obtain ⟨a, ha⟩ : ∃ a, l[hi]? = some a := ⟨l[hi], List.getElem?_eq_getElem hn⟩
        obtain ⟨g, o, rfl, hg, c0, c1⟩ := HF.out hi a ha
        replace c0 := ((HB.out.mono (Nat.le_succ _)).cell (p := ⟨g, o + hi * 2, none⟩) hg).trans ((HA.out.cell (p := ⟨g, o + hi * 2, none⟩) hg).trans c0)
        replace c1 := ((HB.out.mono (Nat.le_succ _)).cell (p := ⟨g, o + hi * 2 + 1, none⟩) hg).trans ((HA.out.cell (p := ⟨g, o + hi * 2 + 1, none⟩) hg).trans c1)
        have HR := Lib.hid (show Fnd l s.data.toList hi (Lib.compareBytes (K a) (K (s, (⟨#[]⟩ : ByteArray))) == 0) by
          have hlow := HHI.out hi a (Nat.le_refl _) ha
          rw [cmp_eqB]
          by_cases he : K a = s.data.toList
          · have h1 := get_hit HLO.out ha he
            have : (K a == K (s, (⟨#[]⟩ : ByteArray))) = true := by rw [beq_iff_eq]; exact he
            rw [this]
            exact ⟨by rw [h1]; rfl, fun _ => ⟨hi, a, rfl, ha, h1⟩⟩
          · have h1 := get_miss HS.out HLO.out fun x hx => by
              have e := Option.some.inj (hx.symm.trans ha)
              rw [e]
              exact ⟨hlow, he⟩
            have : (K a == K (s, (⟨#[]⟩ : ByteArray))) = false := beq_eq_false_iff_ne.2 he
            rw [this]
            exact ⟨by rw [h1]; rfl, fun h => by cases h⟩)
        clear ha
        go_wp2_with fail
        have e0 := Sx.ext_cell n0
        have e1 := Sx.ext_cell n1
        have e2 := Sx.ext_cell c0
        have e3 := Sx.ext_cell c1
        have hD := (Below.refl wr.heap.size wr).drew
        refine Mix.region (fun w' => ∃ Y, w' = Sx.ext wr Y) 16 [0, 0, 0, 0, 0, 0, 0, 0, 0, 0, 0, 1, 2, 2, 2, 2] [true, false, true] (by kernel_rfl) (fun _ _ d _ _ h => by cases d <;> exact h) (by rfl) (by kernel_rfl) ⟨wr.drew, Sx.ext_of hD⟩ ?_
        simp only [Mix.selP_cons, Mix.selP_nil, Mix.sel_cons, Mix.sel_nil, Nat.reduceBEq, Nat.reduceAdd, cond_true, cond_false, List.drop_succ_cons, List.drop_nil]
        refine Mix.parts_q ?_
        repeat (go_big_quiet_step (fail))
        refine wpQuiet_nil ?_
        refine Mix.parts_e ?_
        refine Mix.eff_step (fun K hK => ?_)
        go_simp
        refine (bypath_any a (s, ⟨#[]⟩) wr.drew).mono ?_
        rintro e w2 ⟨rfl, hb2⟩
        have hB2 : Below wr.heap.size wr w2 := hD.trans (hb2.mono hD.size)
        refine hK _ _ ⟨_, Sx.ext_of hB2⟩ ?_
        have HB2 := Lib.hid (HB.out.trans (hB2.mono (by have := HB.out.size; simp at this; omega)))
        clear hK K e0 e1 e2 e3 hb2 hB2 hD n0 n1 c0 c1
        refine Mix.eff_nil ?_
        refine Mix.parts_q ?_
        repeat (go_big_quiet_step (fail))
        refine wpQuiet_nil ?_
        refine Mix.parts_n ?_
        go_wp2_with fail
        go_ret2
        exact ⟨_, _, rfl, HR.out, HA.out.trans (HB2.out.mono (Nat.le_succ _))⟩
      · have hn' : ¬ (hi : Int) < l.length := by omega
        have HR := Lib.hid (get_miss (p := s.data.toList) HS.out HLO.out fun x hx => absurd (List.getElem?_eq_some_iff.1 hx).1 hn)
        go_wp2_with fail
        go_quiet (fail)
        generalize hz : wr.drewN nq = wz
        have HZ := Lib.hid (show Below (w.heap.size + 1) (w.alloc (.cells #[.string s, .string ⟨#[]⟩] 34)) wz by rw [← hz]; exact Sx.below_drewN HB.out _)
        clear hz n0 n1
        go_wp2_with fail
        go_ret2
        exact ⟨hi, false, rfl, ⟨by rw [HR.out]; rfl, fun h => by cases h⟩, HA.out.trans (HZ.out.mono (Nat.le_succ _))⟩
set_option maxHeartbeats 2000000 in
set_option maxRecDepth 100000 in
theorem get_any (p : ByteArray) (l : List F) (v : Value) (w : World) (hF : FS w v l) (hs : Srt l) (hl : l.length ≤ 1000000) :
    Calls Tryz.prog 93 #[.agg #[v], .string p] w fun e w' => e = .returned (.tuple #[.string ((getT l p.data.toList).getD ⟨#[]⟩), .bool (getT l p.data.toList).isSome]) ∧ Below w.heap.size w w' := by
  have hA : Below w.heap.size w (w.alloc (.cells #[v] 25)) := (Below.refl _ _).alloc (Nat.le_refl _) _
  have hn : (w.alloc (.cells #[v] 25)).cell? ⟨w.heap.size, 0, none⟩ = some v := by simp only [World.cell?, heap_alloc_new]; rfl
  have hsr := search_any p l v _ (hF.keep hA) hs hl
  obtain ⟨sl, cap, rfl, hf⟩ := hF.form
  have HN := Lib.hid hn
  have HA := Lib.hid hA
  have HF := Lib.hid hf
  clear hf hF hn hA hs
  go_enter Tryz.func93, Tryz.ntmps93
  go_wp2_with fail
  refine hsr.mono ?_
  clear hsr
  rintro e w2 ⟨i, b, rfl, hfd, hb2⟩
  have n2 := Sx.keep_cell hb2 HN.out
  have HB2 := Lib.hid hb2
  cases b with
  | false =>
    have HR := Lib.hid (show getT l p.data.toList = none by
      have := hfd.1
      cases h : getT l p.data.toList with
      | none => rfl
      | some x => rw [h] at this; cases this)
    clear hfd hb2
    go_wp2_with fail
    go_ret2
    rw [HR.out]
    exact ⟨rfl, HA.out.trans (HB2.out.mono HA.out.size)⟩
  | true =>
    obtain ⟨k, x, rfl, hx, hr⟩ := hfd.2 rfl
    obtain ⟨g, o, rfl, hg, c0, c1⟩ := HF.out k x hx
    have hk := (List.getElem?_eq_some_iff.1 hx).1
    replace c1 := (hb2.cell (p := ⟨g, o + k * 2 + 1, none⟩) (Nat.lt_of_lt_of_le hg HA.out.size)).trans ((HA.out.cell (p := ⟨g, o + k * 2 + 1, none⟩) hg).trans c1)
    have HR := Lib.hid hr
    clear hfd hb2 c0 hx hr
    go_wp2_with fail
    go_ret2
    rw [HR.out]
    exact ⟨rfl, HA.out.trans (HB2.out.mono HA.out.size)⟩
end Tr
end Go.Proofs.YtbefgplaaghlbaaGreatDoor
