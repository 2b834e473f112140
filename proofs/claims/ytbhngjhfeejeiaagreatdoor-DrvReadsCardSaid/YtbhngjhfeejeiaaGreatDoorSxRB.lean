/-
  Walk: the reader's atom.
-/
import Derived.Test.YtbhngjhfeejeiaaGreatDoorSxRA
import Derived.Test.YtbhngjhfeejeiaaGreatDoorSxExt
namespace Go.Proofs.YtbhngjhfeejeiaaGreatDoor
open Go.RowKit
namespace Sx

/-- the byte at place m, of the bytes from a on -/
theorem at_drop {s : ByteArray} {a m : Nat} (ha : a ≤ m) (hm : m < s.size) : (s.data.toList.drop a)[m - a]? = some s[m] := by
  rw [List.getElem?_drop, show a + (m - a) = m by omega, List.getElem?_eq_getElem (by have := Lib.size_eq s; omega)]
  rfl
theorem val_take {l : List UInt8} {k : Nat} {c : UInt8} (h : l[k]? = some c) : val (l.take (k + 1)) = val (l.take k) * 10 + (c.toNat - 48) := by
  rw [List.take_add_one, h]
  exact val_snoc _ _
theorem dig_take {l : List UInt8} {k : Nat} {c : UInt8} (hc : l[k]? = some c) (hd : isD c = true) (h : ∀ (i : Nat) (c : UInt8), i < k → l[i]? = some c → isD c = true) : ∀ (i : Nat) (c : UInt8), i < k + 1 → l[i]? = some c → isD c = true := by
  intro i d hi hd'
  by_cases hk : i < k
  · exact h i d hk hd'
  · obtain rfl : i = k := by omega
    obtain rfl : c = d := Option.some.inj (hc.symm.trans hd')
    exact hd
theorem val_small {l : List UInt8} {k : Nat} (hk : k ≤ 6) (h : ∀ (i : Nat) (c : UInt8), i < k → l[i]? = some c → isD c = true) : val (l.take k) < 1000000 := by
  have h1 := val_lt (l.take k) (fun c hc => by
    obtain ⟨i, hi⟩ := List.mem_iff_getElem?.1 hc
    rw [List.getElem?_take] at hi
    split at hi
    · exact h i c (by assumption) hi
    · cases hi)
  have h2 : (l.take k).length ≤ 6 := by rw [List.length_take]; omega
  have : 10 ^ (l.take k).length ≤ 10 ^ 6 := Nat.pow_le_pow_right (by decide) h2
  omega

theorem RS.move' {W : World} {b : Nat} {s : ByteArray} {m : Nat} {f : Int} (h : RS W b s m f) (m' : Nat) {z : Int} (hz : z = m') : RS (W.setCell ⟨b, 1, none⟩ (.int .i64 z)) b s m' f := by subst hz; exact h.move m'
theorem nD_case {s : ByteArray} {a m : Nat} (h1 : a ≤ m) (h2 : m ≤ s.size) (hdg : ∀ (i : Nat) (c : UInt8), i < m - a → (s.data.toList.drop a)[i]? = some c → isD c = true)
    (hex : m = s.size ∨ m = a + 6 ∨ ∃ c, (s.data.toList.drop a)[m - a]? = some c ∧ isD c = false) : (6 ≤ nD (s.data.toList.drop a) ∧ m - a = 6) ∨ nD (s.data.toList.drop a) = m - a := by
  have hl : (s.data.toList.drop a).length = s.size - a := by rw [List.length_drop, Lib.size_eq]
  rcases hex with he | he | ⟨c, hc, hd⟩
  · exact .inr (nD_of _ _ (by omega) hdg (fun c hc => by rw [List.getElem?_eq_none (by omega)] at hc; cases hc))
  · exact .inl (by have := nD_ge _ (m - a) (by omega) hdg; omega)
  · exact .inr (nD_of _ _ (by omega) hdg (fun d hd' => by
      obtain rfl : c = d := Option.some.inj (hc.symm.trans hd')
      exact hd))
theorem atom_bad {l : List UInt8} {k : Nat} (hn : (6 ≤ nD l ∧ k = 6) ∨ nD l = k) (hb : canon (l.take k) = false ∨ l[k]? ≠ some 58 ∨ l.length < val (l.take k) + k + 1) : atomO l = .bad 5 := by
  have : atomP l = none := by
    unfold atomP
    rw [if_neg]
    rintro ⟨g1, g2, g3, g4⟩
    rcases hn with hn | hn
    · omega
    · rw [hn] at g1 g2 g3 g4
      rcases hb with hb | hb | hb
      · rw [hb] at g2; cases g2
      · exact hb g3
      · omega
  simp [atomO, this]
theorem atom_good {l : List UInt8} {k : Nat} (hn : (6 ≤ nD l ∧ k = 6) ∨ nD l = k) (h6 : k ≤ 6) (hc : canon (l.take k) = true) (h58 : l[k]? = some 58) (hle : val (l.take k) + k + 1 ≤ l.length) (hl : l.length ≤ 65536) :
    atomO l = .ok (.leaf ⟨((l.drop (k + 1)).take (val (l.take k))).toArray⟩) (k + 1 + val (l.take k)) := by
  have hk : nD l = k := by
    rcases hn with ⟨hn, hk⟩ | hn
    · exfalso
      subst hk
      have hd : ∀ c ∈ l.take 6, isD c = true := fun c hc' => nD_digits l c (by
        rw [← Nat.min_eq_left hn, ← List.take_take] at hc'
        exact List.mem_of_mem_take hc')
      have hlen : (l.take 6).length = 6 := by rw [List.length_take]; omega
      have hne : (l.take 6).head? ≠ some 48 := fun e => by
        simp only [canon, hlen, e] at hc
        simp at hc
      have := val_ge _ hd hne (fun e => by rw [e] at hlen; cases hlen)
      rw [hlen] at this
      omega
    · exact hn
  have hk5 : k ≤ 5 := by
    rcases Nat.lt_or_ge 5 k with h | h
    · exfalso
      have h6' : k = 6 := by omega
      subst h6'
      have hd : ∀ c ∈ l.take 6, isD c = true := by rw [← hk]; exact nD_digits l
      have hlen : (l.take 6).length = 6 := by rw [List.length_take]; omega
      have hne : (l.take 6).head? ≠ some 48 := fun e => by
        simp only [canon, hlen, e] at hc
        simp at hc
      have := val_ge _ hd hne (fun e => by rw [e] at hlen; cases hlen)
      rw [hlen] at this
      omega
    · exact h
  have : atomP l = some (⟨((l.drop (k + 1)).take (val (l.take k))).toArray⟩, k + 1 + val (l.take k)) := by
    unfold atomP
    rw [hk, if_pos ⟨hk5, hc, h58, hle⟩]
  simp [atomO, this]
theorem ext_take {s : ByteArray} {a m : Nat} : (s.extract a m).data.toList = (s.data.toList.drop a).take (m - a) := by
  rw [ByteArray.data_extract, Array.toList_extract]
theorem dig_all {l : List UInt8} {k : Nat} (h : ∀ (i : Nat) (c : UInt8), i < k → l[i]? = some c → isD c = true) : ∀ c ∈ l.take k, isD c = true := fun c hc => by
  obtain ⟨i, hi⟩ := List.mem_iff_getElem?.1 hc
  rw [List.getElem?_take] at hi
  split at hi
  · exact h i c (by assumption) hi
  · cases hi
/-- are the digits the number's? -/
theorem can_iff {s : ByteArray} {a m : Nat} (hdg : ∀ (i : Nat) (c : UInt8), i < m - a → (s.data.toList.drop a)[i]? = some c → isD c = true) :
    canon ((s.data.toList.drop a).take (m - a)) = true ↔ s.extract a m = ⟨(Lib.itoa (val ((s.data.toList.drop a).take (m - a)) : Nat)).toArray⟩ := by
  rw [canon_iff (dig_all hdg), Lib.itoa_nonneg]
  constructor
  · intro h
    apply ByteArray.ext
    apply Array.toList_inj.1
    rw [ext_take, h]
  · intro h
    have := congrArg (fun q : ByteArray => q.data.toList) h
    simp only [ext_take] at this
    exact this.symm
/-- the result's three cells are laid -/
theorem fin3 {W X : World} {b : Nat} {s : ByteArray} {m : Nat} {f : Int} (hF : Fq W X b) (hS : RS X b s m f) (hlt : b < W.heap.size) (u v z : Value) :
    Fq W (((X.setCell ⟨W.heap.size, 0, none⟩ u).setCell ⟨W.heap.size, 1, none⟩ v).setCell ⟨W.heap.size, 2, none⟩ z) b ∧ RS (((X.setCell ⟨W.heap.size, 0, none⟩ u).setCell ⟨W.heap.size, 1, none⟩ v).setCell ⟨W.heap.size, 2, none⟩ z) b s m f :=
  ⟨((hF.new hlt _ (Nat.le_refl _) _).new hlt _ (Nat.le_refl _) _).new hlt _ (Nat.le_refl _) _, ((hS.far ⟨W.heap.size, 0, none⟩ (Nat.ne_of_lt hlt) _).far ⟨W.heap.size, 1, none⟩ (Nat.ne_of_lt hlt) _).far ⟨W.heap.size, 2, none⟩ (Nat.ne_of_lt hlt) _⟩
theorem sne_tt {a b : ByteArray} (h : a ≠ b) : (a.toList != b.toList) = true := by unfold bne; rw [seq_ff h]; rfl
theorem sne_ff {a b : ByteArray} (h : a = b) : (a.toList != b.toList) = false := by unfold bne; rw [seq_tt h]; rfl
theorem far3 {X : World} {r b j : Nat} (hne : b ≠ r) (u v z : Value) : (((X.setCell ⟨r, 0, none⟩ u).setCell ⟨r, 1, none⟩ v).setCell ⟨r, 2, none⟩ z).cell? ⟨b, j, none⟩ = X.cell? ⟨b, j, none⟩ := by
  have h : (((X.setCell ⟨r, 0, none⟩ u).setCell ⟨r, 1, none⟩ v).setCell ⟨r, 2, none⟩ z).heap[b]? = X.heap[b]? := by
    rw [Below.heap_setCell _ _ _ _ hne, Below.heap_setCell _ _ _ _ hne, Below.heap_setCell _ _ _ _ hne]
  exact World.cell?_of_block h
theorem ext_text {s : ByteArray} {a m M M1 v : Nat} (h1 : a ≤ m) (hM : M = m + 1 + v) (hM1 : M1 = m + 1) : s.extract M1 M = ⟨(((s.data.toList.drop a).drop (m - a + 1)).take v).toArray⟩ := by
  apply ByteArray.ext
  apply Array.toList_inj.1
  rw [ext_take, List.drop_drop, show a + (m - a + 1) = M1 by omega, show M - M1 = v by omega]
/-- so much is left -/
def mz (s : ByteArray) (b : Nat) (W : World) : Nat := s.size - (intOf ((W.cell? ⟨b, 1, none⟩).getD (.int .i64 0))).toNat
theorem mz_of {W : World} {b : Nat} {s : ByteArray} {m : Nat} {f : Int} (h : RS W b s m f) : mz s b W = s.size - m := by
  unfold mz
  rw [h.c1]
  simp [intOf]

set_option maxHeartbeats 8000000 in
set_option maxRecDepth 100000 in
theorem ratom_any (W : World) (b a : Nat) (s : ByteArray) (h : RS W b s a 0) (ha : a ≤ s.size) (hs : s.size ≤ 65536) (hE : Env W) (hb6 : 3 + 1 ≤ b) :
    Calls Tryz.prog 42 #[.pointer (some ⟨b, 0, none⟩)] W fun e W' => RN W b s a 0 (atomO (s.data.toList.drop a)) e W' := by
  have hX : Below W.heap.size W (W.alloc (.cells #[.bool false, .string ⟨#[]⟩, .slice none 0 0] 39)) := (Below.refl _ _).alloc (Nat.le_refl _) _
  have hR := h.keep hX
  have hF0 : Fq W (W.alloc (.cells #[.bool false, .string ⟨#[]⟩, .slice none 0 0] 39)) b := Fq.of_below hX (Nat.le_of_lt h.lt)
  have hc0 := hR.c0
  have hc1 := hR.c1
  have hc2 := hR.c2
  have hfz := hR.fz
  have hbx : (W.alloc (.cells #[.bool false, .string ⟨#[]⟩, .slice none 0 0] 39)).heap[W.heap.size]? = some (.cells #[.bool false, .string ⟨#[]⟩, .slice none 0 0] 39 (0, 0)) := heap_alloc_new W _
  go_enter Tryz.func42, Tryz.ntmps42
  go_wp2_with fail
  go_quiet (fail)
  go_upto_block 0 with fail
  go_cut [3] (fun n wr => ∃ m : Nat, a ≤ m ∧ m ≤ s.size ∧ m ≤ a + 6 ∧ n = .int .i64 (val ((s.data.toList.drop a).take (m - a))) ∧ (∀ (i : Nat) (c : UInt8), i < m - a → (s.data.toList.drop a)[i]? = some c → isD c = true) ∧ (m = s.size ∨ m = a + 6 ∨ ∃ c, (s.data.toList.drop a)[m - a]? = some c ∧ isD c = false) ∧
    RS wr b s m 0 ∧ Fq W wr b ∧ wr.heap[W.heap.size]? = some (.cells #[.bool false, .string ⟨#[]⟩, .slice none 0 0] 39 (0, 0)))
  case first =>
    go_wp2_with fail
    go_loopw [3] (fun n wr => ∃ m : Nat, a ≤ m ∧ m ≤ s.size ∧ m ≤ a + 6 ∧ n = .int .i64 (val ((s.data.toList.drop a).take (m - a))) ∧ (∀ (i : Nat) (c : UInt8), i < m - a → (s.data.toList.drop a)[i]? = some c → isD c = true) ∧
      RS wr b s m 0 ∧ Fq W wr b ∧ wr.heap[W.heap.size]? = some (.cells #[.bool false, .string ⟨#[]⟩, .slice none 0 0] 39 (0, 0))) (fun _ wr => mz s b wr)
    case atStart => exact ⟨a, Nat.le_refl _, ha, by omega, by simp [val], by omega, hR.drewN _, hF0.drew _, hbx⟩
    case round =>
      obtain ⟨m, h1, h2, h3, rfl, hdg, hS, hF, hb⟩ := hrel
      clear hc0 hc1 hc2 hfz hbx hF0 hR hX
      have c0 := hS.c0
      have c1 := hS.c1
      have fz := hS.fz
      by_cases hm : m < s.size
      · have hb0 := at_drop h1 hm
        by_cases g1 : 48 ≤ (s[m].toNat : Int)
        · by_cases g2 : (s[m].toNat : Int) ≤ 57
          · by_cases g3 : m < a + 6
            · have hd : isD s[m] = true := (isD_iff _).2 ⟨by omega, by omega⟩
              have hv := val_take hb0
              have hdg' := dig_take hb0 hd hdg
              have hvs := val_small (by omega) hdg
              have HV := Lib.hid hv
              have HD := Lib.hid hdg'
              have k1 : IntKind.i64.wrap ((m : Int) - a) = (m : Int) - a := IntWalk.i64_in _ (by omega)
              have k2 : decide ((m : Int) - a < 6) = true := by simp; omega
              have q1 : IntKind.i64.wrap ((val ((s.data.toList.drop a).take (m - a)) : Int) * 10) = (val ((s.data.toList.drop a).take (m - a)) : Int) * 10 := IntWalk.i64_in _ (by omega)
              have q2 : IntKind.u8.wrap ((s[m].toNat : Int) - 48) = (s[m].toNat : Int) - 48 := by
                show ((s[m].toNat : Int) - 48) % 256 = _
                omega
              have q3 : IntKind.i64.wrap ((s[m].toNat : Int) - 48) = (s[m].toNat : Int) - 48 := IntWalk.i64_in _ (by omega)
              have q4 : IntKind.i64.wrap ((val ((s.data.toList.drop a).take (m - a)) : Int) * 10 + ((s[m].toNat : Int) - 48)) = (val ((s.data.toList.drop a).take (m - a)) : Int) * 10 + ((s[m].toNat : Int) - 48) := IntWalk.i64_in _ (by omega)
              clear hdg hdg' hv hb0
              go_wp2_with fail
              go_quiet (fail)
              go_wp2_with fail
              go_quiet (fail)
              clear q1 q2 q3 q4 k1 k2
              go_wp2_with fail
              go_roundw
              case rel =>
                refine ⟨m + 1, by omega, by omega, by omega, ?_, ?_, ?_, ?_, ?_⟩
                · rw [show m + 1 - a = m - a + 1 by omega, HV.out]
                  go_num
                · rw [show m + 1 - a = m - a + 1 by omega]
                  exact HD.out
                · exact (hS.drewN _).move' (m + 1) (by omega)
                · exact (hF.drew _).set _ _
                · exact (Below.heap_setCell _ _ _ _ (by have := h.lt; show W.heap.size ≠ b; omega)).trans hb
              case measure =>
                show mz s b _ < mz s b _
                rw [mz_of hS, mz_of ((hS.drewN _).move' (m + 1) (z := (m : Int) + 1) (by omega))]
                omega
            · have k1 : IntKind.i64.wrap ((m : Int) - a) = (m : Int) - a := IntWalk.i64_in _ (by omega)
              have k2 : decide ((m : Int) - a < 6) = false := by simp; omega
              have HD := Lib.hid hdg
              clear hdg hb0
              go_wp2_with fail
              go_quiet (fail)
              go_wp2_with fail
              go_meet
              exact ⟨m, by omega, by omega, by omega, rfl, HD.out, .inr (.inl (by omega)), hS.drewN _, hF.drew _, hb⟩
          · have k2 : decide ((s[m].toNat : Int) ≤ 57) = false := by simp; omega
            have HD := Lib.hid hdg
            have HB := Lib.hid hb0
            clear hdg hb0
            go_wp2_with fail
            go_quiet (fail)
            go_wp2_with fail
            go_meet
            exact ⟨m, by omega, by omega, by omega, rfl, HD.out, .inr (.inr ⟨_, HB.out, by simp [isD]; omega⟩), hS.drewN _, hF.drew _, hb⟩
        · have k2 : decide (48 ≤ (s[m].toNat : Int)) = false := by simp; omega
          have HD := Lib.hid hdg
          have HB := Lib.hid hb0
          clear hdg hb0
          go_wp2_with fail
          go_quiet (fail)
          go_wp2_with fail
          go_meet
          exact ⟨m, by omega, by omega, by omega, rfl, HD.out, .inr (.inr ⟨_, HB.out, by simp [isD]; omega⟩), hS.drewN _, hF.drew _, hb⟩
      · have k2 : decide ((m : Int) < s.size) = false := by simp; omega
        have HD := Lib.hid hdg
        clear hdg
        go_wp2_with fail
        go_quiet (fail)
        go_wp2_with fail
        go_meet
        exact ⟨m, by omega, by omega, by omega, rfl, HD.out, .inl (by omega), hS.drewN _, hF.drew _, hb⟩
  case rest =>
    obtain ⟨m, h1, h2, h3, rfl, hdg, hex, hS, hF, hb⟩ := hcut
    clear hc0 hc1 hc2 hfz hbx hF0 hR hX
    have c0 := hS.c0
    have c1 := hS.c1
    have c2 := hS.c2
    have fz := hS.fz
    have q0 : wc.cell? ⟨W.heap.size, 0, none⟩ = some (.bool false) := by simp [World.cell?, hb]
    have q1 : wc.cell? ⟨W.heap.size, 1, none⟩ = some (.string ⟨#[]⟩) := by simp [World.cell?, hb]
    have q2 : wc.cell? ⟨W.heap.size, 2, none⟩ = some (.slice none 0 0) := by simp [World.cell?, hb]
    have hnc := nD_case h1 h2 hdg hex
    have hci := can_iff hdg
    have hvs := val_small (by omega) hdg
    have HN := Lib.hid hnc
    have HD := Lib.hid hdg
    have HI := Lib.hid hci
    clear hdg hnc hci hex
    go_wp2_with fail
    go_quiet (fail)
    go_wp2_with fail
    have hSX := hS.drewN nq
    have hFX := hF.drew nq
    have hbX : (wc.drewN nq).heap[W.heap.size]? = some (.cells #[.bool false, .string ⟨#[]⟩, .slice none 0 0] 39 (0, 0)) := hb
    have hlt := h.lt
    have hEX : Env (wc.drewN nq) := hE.low hb6 (hF.drew nq).below
    clear c0 c1 c2 fz q0 q1 q2 hS hF hb
    generalize wc.drewN nq = X at *
    have c0 := hSX.c0
    have c1 := hSX.c1
    have c2 := hSX.c2
    have fz := hSX.fz
    have q0 : X.cell? ⟨W.heap.size, 0, none⟩ = some (.bool false) := by simp [World.cell?, hbX]
    have q1 : X.cell? ⟨W.heap.size, 1, none⟩ = some (.string ⟨#[]⟩) := by simp [World.cell?, hbX]
    have q2 : X.cell? ⟨W.heap.size, 2, none⟩ = some (.slice none 0 0) := by simp [World.cell?, hbX]
    have qf : ∀ j, X.frozen? ⟨W.heap.size, j, none⟩ = false := fun j => by simp [World.frozen?, hbX]
    have hne : b ≠ W.heap.size := by omega
    have hbad : ∀ (w2 : World) (e : Ending), Fq W w2 b ∧ RS w2 b s m 5 → atomO (s.data.toList.drop a) = .bad 5 → e = .returned (.agg #[.bool false, .string ⟨#[]⟩, .slice none 0 0]) → RN W b s a 0 (atomO (s.data.toList.drop a)) e w2 := by
      intro w2 e g1 g3 g4
      rw [g3]
      exact ⟨⟨_, _, _, g4, rfl, rfl, rfl, .inr rfl, m, g1.2⟩, g1.1⟩
    have HB := Lib.hid hbad
    have HSX := Lib.hid hSX
    have HFX := Lib.hid hFX
    clear hbad hFX hSX hbX
    by_cases g0 : m = a
    · have hD : s.extract a m = ⟨#[]⟩ := by
        apply ByteArray.ext
        apply Array.toList_inj.1
        rw [ext_take, g0]
        simp
      have he := emp_tt hD
      have HZ := Lib.hid (atom_bad HN.out (.inl (by rw [g0]; simp [canon])))
      clear hD g0
      go_quiet (fail)
      go_wp2_with fail
      refine bodyPost_ret (v := .agg #[.bool false, .string ⟨#[]⟩, .slice none 0 0]) (by simp [results, Tryz.results42, go_sem, q0, q1, q2]) rfl ?_
      exact HB.out _ _ (fin3 ((HFX.out.drew _).set _ _) ((HSX.out.drewN _).fault 5) hlt _ _ _) HZ.out rfl
    · have hDe : s.extract a m ≠ ⟨#[]⟩ := fun e => by
        have : min m s.size - a = 0 := by rw [← ByteArray.size_extract, e]; rfl
        omega
      have he := emp_ff hDe
      clear hDe
      have hXb : Below X.heap.size X X := Below.refl _ _
      obtain ⟨I, hI⟩ : ∃ I : ByteArray, I = ⟨(Lib.itoa (val ((s.data.toList.drop a).take (m - a)) : Nat)).toArray⟩ := ⟨_, rfl⟩
      have hit := fun (w : World) (hw : Env w) => itoa_any (val ((s.data.toList.drop a).take (m - a)) : Nat) (by omega) (by omega) w hw
      rw [← hI] at hit
      have HI2 := Lib.hid (HI.out)
      rw [← hI] at HI2
      clear hI HI
      generalize s.extract a m = D at *
      have e0 := ext_cell c0
      have e1 := ext_cell c1
      have hWX : W.heap.size < X.heap.size := World.block_lt_of_cell? X _ q0
      have hlen : (s.data.toList.drop a).length = s.size - a := by rw [List.length_drop, Lib.size_eq]
      by_cases gI : D = I
      · have hcan := HI2.out.2 gI
        have HC := Lib.hid hcan
        have hi := seq_tt gI
        have hi2 := sne_ff gI
        clear gI hcan
        by_cases g3 : m = s.size
        · have HZ := Lib.hid (atom_bad HN.out (.inr (.inl (by rw [List.getElem?_eq_none (by omega)]; simp))))
          have k1 : ((m : Int) == s.size) = true := by simp; omega
          clear hlen g3
          refine wp_region_ext (X := X) (by kernel_rfl) (by kernel_rfl) ?_
          repeat (go_big_quiet_step ((go_at_call 27; exact calls_ext (hit _ (hEX.below (ext_below _ _))))))
          refine wpQuiet_nil ?_
          intro _ hw'
          obtain ⟨Y, hw''⟩ := hw'
          subst hw''
          have hS2 := HSX.out.keep (ext_below X Y)
          have hF2 := HFX.out.step hlt (ext_below X Y)
          have r0 := ext_cell q0 Y
          have r1 := ext_cell q1 Y
          have r2 := ext_cell q2 Y
          have rf : ∀ j, (ext X Y).frozen? ⟨W.heap.size, j, none⟩ = false := fun j => ((ext_below X Y).frozen (p := ⟨W.heap.size, j, none⟩) hWX).trans (qf j)
          clear e0 e1 c0 c1 c2 q0 q1 q2 qf fz
          generalize ext X Y = X2 at *
          have c0 := hS2.c0
          have c1 := hS2.c1
          have c2 := hS2.c2
          have fz := hS2.fz
          go_wp2_with fail
          refine bodyPost_ret (v := .agg #[.bool false, .string ⟨#[]⟩, .slice none 0 0]) (by simp [results, Tryz.results42, go_sem, r0, r1, r2]) rfl ?_
          exact HB.out _ _ (fin3 (hF2.set _ _) (hS2.fault 5) hlt _ _ _) HZ.out rfl
        · have hm : m < s.size := by omega
          have hb0 := at_drop h1 hm
          have k1 : ((m : Int) == s.size) = false := by simp; omega
          by_cases g4 : s[m].toNat = 58
          · have g58 : s[m] = 58 := UInt8.toNat_inj.1 g4
            have k2 : ((s[m].toNat : Int) == 58) = true := by simp [g4]
            have k2' : ((s[m].toNat : Int) != 58) = false := by simp [g4]
            have k3 : IntKind.i64.wrap ((s.size : Int) - m) = (s.size : Int) - m := IntWalk.i64_in _ (by omega)
            have k4 : IntKind.i64.wrap ((s.size : Int) - m - 1) = (s.size : Int) - m - 1 := IntWalk.i64_in _ (by omega)
            have HB0 := Lib.hid hb0
            clear hb0
            by_cases g5 : s.size - m - 1 < val ((s.data.toList.drop a).take (m - a))
            · have HZ := Lib.hid (atom_bad HN.out (.inr (.inr (by omega))))
              have k5 : decide ((s.size : Int) - m - 1 < (val ((s.data.toList.drop a).take (m - a)) : Int)) = true := by simp; omega
              clear hlen g58 g4
              refine wp_region_ext (X := X) (by kernel_rfl) (by kernel_rfl) ?_
              repeat (go_big_quiet_step ((go_at_call 27; exact calls_ext (hit _ (hEX.below (ext_below _ _))))))
              refine wpQuiet_nil ?_
              intro _ hw'
              obtain ⟨Y, hw''⟩ := hw'
              subst hw''
              have hS2 := HSX.out.keep (ext_below X Y)
              have hF2 := HFX.out.step hlt (ext_below X Y)
              have r0 := ext_cell q0 Y
              have r1 := ext_cell q1 Y
              have r2 := ext_cell q2 Y
              have rf : ∀ j, (ext X Y).frozen? ⟨W.heap.size, j, none⟩ = false := fun j => ((ext_below X Y).frozen (p := ⟨W.heap.size, j, none⟩) hWX).trans (qf j)
              clear e0 e1 c0 c1 c2 q0 q1 q2 qf fz
              generalize ext X Y = X2 at *
              have c0 := hS2.c0
              have c1 := hS2.c1
              have c2 := hS2.c2
              have fz := hS2.fz
              go_wp2_with fail
              refine bodyPost_ret (v := .agg #[.bool false, .string ⟨#[]⟩, .slice none 0 0]) (by simp [results, Tryz.results42, go_sem, r0, r1, r2]) rfl ?_
              exact HB.out _ _ (fin3 (hF2.set _ _) (hS2.fault 5) hlt _ _ _) HZ.out rfl
            · have k5 : decide ((s.size : Int) - m - 1 < (val ((s.data.toList.drop a).take (m - a)) : Int)) = false := by simp; omega
              have HZ := Lib.hid (atom_good HN.out (by omega) HC.out (by rw [HB0.out, g58]) (by omega) (by omega))
              clear hlen g58 g4
              refine wp_region_ext (X := X) (by kernel_rfl) (by kernel_rfl) ?_
              repeat (go_big_quiet_step ((go_at_call 27; exact calls_ext (hit _ (hEX.below (ext_below _ _))))))
              refine wpQuiet_nil ?_
              intro _ hw'
              obtain ⟨Y, hw''⟩ := hw'
              subst hw''
              have hS2 := HSX.out.keep (ext_below X Y)
              have hF2 := HFX.out.step hlt (ext_below X Y)
              have r0 := ext_cell q0 Y
              have r1 := ext_cell q1 Y
              have r2 := ext_cell q2 Y
              have rf : ∀ j, (ext X Y).frozen? ⟨W.heap.size, j, none⟩ = false := fun j => ((ext_below X Y).frozen (p := ⟨W.heap.size, j, none⟩) hWX).trans (qf j)
              clear e0 e1 c0 c1 c2 q0 q1 q2 qf fz
              generalize ext X Y = X2 at *
              have c0 := hS2.c0
              have c1 := hS2.c1
              have c2 := hS2.c2
              have fz := hS2.fz
              obtain ⟨M, hM⟩ : ∃ M : Nat, M = m + 1 + (val ((s.data.toList.drop a).take (m - a))) := ⟨_, rfl⟩
              obtain ⟨M1, hM1⟩ : ∃ M1 : Nat, M1 = m + 1 := ⟨_, rfl⟩
              have k6 : IntKind.i64.wrap (1 + (val ((s.data.toList.drop a).take (m - a)) : Int)) = 1 + (val ((s.data.toList.drop a).take (m - a)) : Int) := IntWalk.i64_in _ (by omega)
              have k7 : IntKind.i64.wrap ((m : Int) + (1 + (val ((s.data.toList.drop a).take (m - a)) : Int))) = (M : Int) := by rw [IntWalk.i64_in _ (by omega)]; omega
              have k8 : IntKind.i64.wrap ((M : Int) - ((val ((s.data.toList.drop a).take (m - a))) : Int)) = (M1 : Int) := by rw [IntWalk.i64_in _ (by omega)]; omega
              have k9 : M ≤ s.size := by omega
              have k10 : M1 ≤ M := by omega
              have HM := Lib.hid hM
              have HM1 := Lib.hid hM1
              clear hM hM1
              go_wp2_with fail
              have hS3 := hS2.move' M (z := (M : Int)) rfl
              have hF3 := hF2.set 1 (.int .i64 (M : Int))
              have t0 : (X2.setCell ⟨b, 1, none⟩ (.int .i64 (M : Int))).cell? ⟨W.heap.size, 0, none⟩ = some (.bool false) := by rw [World.cell?_setCell_other _ _ _ _ (by simp)]; exact r0
              have t1 : (X2.setCell ⟨b, 1, none⟩ (.int .i64 (M : Int))).cell? ⟨W.heap.size, 1, none⟩ = some (.string ⟨#[]⟩) := by rw [World.cell?_setCell_other _ _ _ _ (by simp)]; exact r1
              have t2 : (X2.setCell ⟨b, 1, none⟩ (.int .i64 (M : Int))).cell? ⟨W.heap.size, 2, none⟩ = some (.slice none 0 0) := by rw [World.cell?_setCell_other _ _ _ _ (by simp)]; exact r2
              have tf : ∀ j, (X2.setCell ⟨b, 1, none⟩ (.int .i64 (M : Int))).frozen? ⟨W.heap.size, j, none⟩ = false := fun j => by rw [World.frozen?_setCell]; exact rf j
              clear r0 r1 r2 rf c0 c1 c2 fz hS2 hF2
              generalize X2.setCell ⟨b, 1, none⟩ (.int .i64 (M : Int)) = X3 at *
              have hWX3 : W.heap.size < X3.heap.size := World.block_lt_of_cell? X3 _ t0
              have d0 := hS3.c0
              have d1 := hS3.c1
              have g0 := ext_cell d0
              have g1 := ext_cell d1
              have g2 := ext_cell t0
              have g3 := ext_cell t1
              have g4 := ext_cell t2
              have g5 : ∀ Y j, (ext X3 Y).frozen? ⟨W.heap.size, j, none⟩ = false := fun Y j => ((ext_below X3 Y).frozen (p := ⟨W.heap.size, j, none⟩) hWX3).trans (tf j)
              go_region_held3 (fun w' => w'.cell? ⟨b, 0, none⟩ = some (.string s) ∧ w'.cell? ⟨b, 1, none⟩ = some (.int .i64 (M : Int)))
                (first | go_keep | exact ⟨(far3 hne _ _ _).trans (g0 _), (far3 hne _ _ _).trans (g1 _)⟩)
                (first | (go_at_call 19; refine (atom_any _ _).mono ?_; rintro e w' ⟨rfl, hb⟩; obtain ⟨Y, rfl⟩ := ext_ex hb))
              go_wp2_with fail
              refine bodyPost_ret (v := .agg #[.bool true, .string (s.extract M1 M), .slice none 0 0]) (by simp [results, Tryz.results42, go_sem, g2, g3, g4]) rfl ?_
              have hfin := fin3 (hF3.step hlt (ext_below X3 Y)) (hS3.keep (ext_below X3 Y)) hlt (.bool true) (.string (s.extract M1 M)) (.slice none 0 0)
              rw [HZ.out]
              refine ⟨⟨_, _, _, rfl, ?_, ?_⟩, hfin.1⟩
              · rw [← ext_text h1 HM.out HM1.out]
                exact .leaf _ _
              · rw [show a + (m - a + 1 + (val ((s.data.toList.drop a).take (m - a)))) = M by have := HM.out; omega]
                exact hfin.2
          · have k2 : ((s[m].toNat : Int) == 58) = false := by simp; omega
            have k2' : ((s[m].toNat : Int) != 58) = true := by simp; omega
            have HZ := Lib.hid (atom_bad HN.out (.inr (.inl (by
              rw [hb0]
              intro e
              exact g4 (by rw [Option.some.inj e]; rfl)))))
            clear hlen hb0
            refine wp_region_ext (X := X) (by kernel_rfl) (by kernel_rfl) ?_
            repeat (go_big_quiet_step ((go_at_call 27; exact calls_ext (hit _ (hEX.below (ext_below _ _))))))
            refine wpQuiet_nil ?_
            intro _ hw'
            obtain ⟨Y, hw''⟩ := hw'
            subst hw''
            have hS2 := HSX.out.keep (ext_below X Y)
            have hF2 := HFX.out.step hlt (ext_below X Y)
            have r0 := ext_cell q0 Y
            have r1 := ext_cell q1 Y
            have r2 := ext_cell q2 Y
            have rf : ∀ j, (ext X Y).frozen? ⟨W.heap.size, j, none⟩ = false := fun j => ((ext_below X Y).frozen (p := ⟨W.heap.size, j, none⟩) hWX).trans (qf j)
            clear e0 e1 c0 c1 c2 q0 q1 q2 qf fz
            generalize ext X Y = X2 at *
            have c0 := hS2.c0
            have c1 := hS2.c1
            have c2 := hS2.c2
            have fz := hS2.fz
            go_wp2_with fail
            refine bodyPost_ret (v := .agg #[.bool false, .string ⟨#[]⟩, .slice none 0 0]) (by simp [results, Tryz.results42, go_sem, r0, r1, r2]) rfl ?_
            exact HB.out _ _ (fin3 (hF2.set _ _) (hS2.fault 5) hlt _ _ _) HZ.out rfl
      · have hcan : canon ((s.data.toList.drop a).take (m - a)) = false := by
          rw [← Bool.not_eq_true]
          exact fun e => gI (HI2.out.1 e)
        have HZ := Lib.hid (atom_bad HN.out (.inl hcan))
        have hi := seq_ff gI
        have hi2 := sne_tt gI
        clear gI hcan hlen
        refine wp_region_ext (X := X) (by kernel_rfl) (by kernel_rfl) ?_
        repeat (go_big_quiet_step ((go_at_call 27; exact calls_ext (hit _ (hEX.below (ext_below _ _))))))
        refine wpQuiet_nil ?_
        intro _ hw'
        obtain ⟨Y, hw''⟩ := hw'
        subst hw''
        have hS2 := HSX.out.keep (ext_below X Y)
        have hF2 := HFX.out.step hlt (ext_below X Y)
        have r0 := ext_cell q0 Y
        have r1 := ext_cell q1 Y
        have r2 := ext_cell q2 Y
        have rf : ∀ j, (ext X Y).frozen? ⟨W.heap.size, j, none⟩ = false := fun j => ((ext_below X Y).frozen (p := ⟨W.heap.size, j, none⟩) hWX).trans (qf j)
        clear e0 e1 c0 c1 c2 q0 q1 q2 qf fz
        generalize ext X Y = X2 at *
        have c0 := hS2.c0
        have c1 := hS2.c1
        have c2 := hS2.c2
        have fz := hS2.fz
        go_wp2_with fail
        refine bodyPost_ret (v := .agg #[.bool false, .string ⟨#[]⟩, .slice none 0 0]) (by simp [results, Tryz.results42, go_sem, r0, r1, r2]) rfl ?_
        exact HB.out _ _ (fin3 (hF2.set _ _) (hS2.fault 5) hlt _ _ _) HZ.out rfl
end Sx
end Go.Proofs.YtbhngjhfeejeiaaGreatDoor
