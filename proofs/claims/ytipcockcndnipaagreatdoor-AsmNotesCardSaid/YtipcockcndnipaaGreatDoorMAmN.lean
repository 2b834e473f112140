/-
  The law AsmNotes, for every list of texts, every number, every text.
-/
import Derived.Test.YtipcockcndnipaaGreatDoorMAmP
import Derived.Test.YtipcockcndnipaaGreatDoorMAmQ
namespace Go.Proofs.YtipcockcndnipaaGreatDoor
open Go.RowKit
namespace Aw
open As

theorem no_snoc {s : ByteArray} {j : Nat} (h : j < s.size) (hn : ∀ c ∈ s.data.toList.take j, c ≠ 10) (hc : s[j] ≠ 10) : ∀ c ∈ s.data.toList.take (j + 1), c ≠ 10 := fun c hm => by
  rw [take_get h] at hm
  rcases List.mem_append.1 hm with hm | hm
  · exact hn c hm
  · rw [List.mem_singleton.1 hm]; exact hc
theorem ls_snoc {L : List (List UInt8)} {k : Nat} {l : List UInt8} (h : L[k]? = some l) (hn : ∀ x ∈ L.take k, ∀ c ∈ x, c ≠ 10) (hl : ∀ c ∈ l, c ≠ 10) : ∀ x ∈ L.take (k + 1), ∀ c ∈ x, c ≠ 10 := fun x hx => by
  rw [takek_snoc h] at hx
  rcases List.mem_append.1 hx with hx | hx
  · exact hn x hx
  · rw [List.mem_singleton.1 hx]; exact hl
theorem getD_of {L : List (List UInt8)} {k : Nat} {l : List UInt8} (h : L[k]? = some l) : L.getD k [] = l := by
  rw [List.getD_eq_getElem?_getD, h]
  rfl
theorem scan_bad_le : ∀ (ls : List (List UInt8)) (k : Nat) (st : St) (n : Nat) (e : Int), scan k ls st = .bad n e → n ≤ k + ls.length
  | [], k, st, n, e, h => by rw [scan] at h; cases h
  | l :: ls, k, st, n, e, h => by
    rw [scan] at h
    cases hl : lineP (k + 1) l st with
    | bad e' => rw [hl] at h; cases h; simp only [List.length_cons]; omega
    | ok s1 =>
      rw [hl] at h
      have := scan_bad_le ls (k + 1) s1 n e h
      simp only [List.length_cons]
      omega
theorem res_bad_mem {labs : List (List UInt8 × Nat)} : ∀ (p : List Cd.I) (ws : List (List UInt8)) (ks : List Nat) (n : Nat) (e : Int), As.resolve labs p ws ks = .bad n e → n ∈ ks
  | [], ws, ks, n, e, h => by
    have h9 : As.resolve labs [] ws ks = .ok [] := by cases ws <;> rfl
    rw [h9] at h
    cases h
  | x :: p, [], ks, n, e, h => by cases h
  | x :: p, w :: ws, [], n, e, h => by cases h
  | x :: p, w :: ws, k :: ks, n, e, h => by
    have fin : ∀ (x' : Cd.I), Rs.pre [x'] (As.resolve labs p ws ks) = .bad n e → n ∈ k :: ks := fun x' h' => by
      cases hr : As.resolve labs p ws ks with
      | ok q => rw [hr] at h'; cases h'
      | bad n' e' =>
        rw [hr] at h'
        cases h'
        exact .tail _ (res_bad_mem p ws ks _ _ hr)
    by_cases hw : w = []
    · subst hw
      rw [res_skip] at h
      exact fin x h
    · cases ha : at? labs w with
      | none => rw [res_none hw ha] at h; cases h; exact .head _
      | some a => rw [res_some hw ha] at h; exact fin _ h
/-- the line that is told is no great number -/
theorem asm_num (l : List UInt8) : 0 ≤ (asmP l).2.1 ∧ (asmP l).2.1 ≤ 1000000 := by
  unfold asmP
  split
  · exact ⟨by decide, by decide⟩
  · rename_i hl
    have hn := (lines_small l).1
    cases hs : scan 0 (linesL l) ⟨[], [], [], []⟩ with
    | bad n e =>
      have := scan_bad_le _ _ _ _ _ hs
      exact ⟨by show (0 : Int) ≤ (n : Int); omega, by show (n : Int) ≤ 1000000; omega⟩
    | ok st =>
      have hbd := scan_bd _ 0 0 _ _ bd_0 hs (by omega)
      dsimp only
      cases hr : As.resolve st.labs st.prog st.wants st.lines with
      | bad n e =>
        have := hbd.c n (res_bad_mem _ _ _ _ _ hr)
        exact ⟨by show (0 : Int) ≤ (n : Int); omega, by show (n : Int) ≤ 1000000; omega⟩
      | ok p =>
        dsimp only
        split
        · exact ⟨by decide, by decide⟩
        · split
          · have hg : st.lines.getD (Cd.check p).1.toNat 0 ≤ 1000000 := by
              rw [List.getD_eq_getElem?_getD]
              cases hx : st.lines[(Cd.check p).1.toNat]? with
              | none => simp
              | some y => exact hbd.c y (List.mem_of_getElem? hx)
            exact ⟨by show (0 : Int) ≤ ((st.lines.getD (Cd.check p).1.toNat 0 : Nat) : Int); omega, by show ((st.lines.getD (Cd.check p).1.toNat 0 : Nat) : Int) ≤ 1000000; omega⟩
          · exact ⟨Int.le_refl 0, by show (0 : Int) ≤ 1000000; decide⟩
theorem size_of {T : List (List UInt8)} {note : List UInt8} {a k n : Nat} {σ τ : ByteArray} (h : τ.data.toList = tK T note a k) (hs : σ.data.toList = sK T k) (hz : σ.size ≤ n) (hn : note.length ≤ 1000) (hk : n + k ≤ 18000) : τ.size ≤ 20000 := by
  have h1 := t_len T note a k
  rw [← h, ← hs, ← Lib.size_eq, ← Lib.size_eq] at h1
  have h2 : (if a < k then note.length + 3 else 0) ≤ note.length + 3 := by split <;> omega
  omega
set_option maxHeartbeats 16000000 in
set_option maxRecDepth 100000 in
theorem noteslaw_any (ls : List ByteArray) (v : Value) (n : Int) (note : ByteArray) (W : World) (hLS : Cd.LS W v ls) (hE : Env W) :
    Calls Tryz.prog 5 #[v, .int .i64 n, .string note] W fun e W' => e = .returned (.bool true) ∧ Below W.heap.size W W' := by
  have hal := alive_any W hE
  obtain ⟨hsm, hxs, sl, cap, rfl, hf⟩ := hLS
  have HXS := Lib.hid hxs
  have HF := Lib.hid hf
  clear hf hxs
  go_enter Tryz.func5, Tryz.ntmps5
  by_cases l0 : n < 0
  · have i0 : decide (n < 0) = true := decide_eq_true l0
    go_wp2_with (first
      | (go_at_call 8; refine hal.mono ?_; clear hal; rintro e w1 ⟨rfl, hb1⟩))
    go_ret
    exact ⟨rfl, hb1⟩
  by_cases l1 : (ls.length : Int) < n
  · have i1 : decide ((ls.length : Int) < n) = true := decide_eq_true l1
    go_wp2_with (first
      | (go_at_call 8; refine hal.mono ?_; clear hal; rintro e w1 ⟨rfl, hb1⟩))
    go_ret
    exact ⟨rfl, hb1⟩
  by_cases l2 : 300 < ls.length
  · have j2 : (300 : Int) < ls.length := by omega
    go_wp2_with (first
      | (go_at_call 8; refine hal.mono ?_; clear hal; rintro e w1 ⟨rfl, hb1⟩))
    go_ret
    exact ⟨rfl, hb1⟩
  by_cases l3 : 1000 < note.size
  · have j3 : (1000 : Int) < note.size := by omega
    go_wp2_with (first
      | (go_at_call 8; refine hal.mono ?_; clear hal; rintro e w1 ⟨rfl, hb1⟩))
    go_ret
    exact ⟨rfl, hb1⟩
  have j2 : ¬ (300 : Int) < ls.length := by omega
  have j3 : ¬ (1000 : Int) < note.size := by omega
  obtain ⟨a, rfl⟩ : ∃ a : Nat, n = (a : Int) := ⟨n.toNat, by omega⟩
  go_wp2_with (first
    | (go_at_call 8; refine hal.mono ?_; clear hal; rintro e w1 ⟨rfl, hb1⟩))
  go_loopw [7] (fun i wr => ∃ j : Nat, i = .int .i64 (j : Int) ∧ j ≤ note.size ∧ (∀ c ∈ note.data.toList.take j, c ≠ 10) ∧ wr = w1) (fun i _ => note.size - (intOf i).toNat)
  case atStart => exact ⟨0, rfl, Nat.zero_le _, fun c h => by simp at h, rfl⟩
  case round =>
    obtain ⟨j, rfl, hj, hno, rfl⟩ := hrel
    have HN := Lib.hid hno
    clear hno
    have q1 : IntKind.i64.wrap ((j : Int) + 1) = (j : Int) + 1 := IntWalk.i64_in _ (by omega)
    by_cases hjl : j < note.size
    · by_cases hc : note[j] = 10
      · have d1 : ((note[j].toNat : Int) == 10) = true := by rw [hc]; rfl
        clear hc
        go_wp2_with fail
        go_ret
        exact ⟨rfl, hb1⟩
      · have d1 : ((note[j].toNat : Int) == 10) = false := by
          rw [beq_eq_false_iff_ne]
          intro e
          exact hc (u8_eq (n := 10) (by omega) (by decide))
        have HN2 := Lib.hid (no_snoc hjl HN.out hc)
        clear hc
        go_wp2_with fail
        go_roundw
        case rel => exact ⟨j + 1, by go_num, by omega, HN2.out, trivial⟩
        case measure => simp [intOf]; omega
    · obtain rfl : j = note.size := by omega
      have HNN := Lib.hid (show ∀ c ∈ note.data.toList, c ≠ 10 from fun c hc => HN.out c (by rw [List.take_of_length_le (by rw [← Lib.size_eq]; exact Nat.le_refl _)]; exact hc))
      obtain ⟨T, hT⟩ : ∃ T : List (List UInt8), T = ls.map (fun s => s.data.toList) := ⟨_, rfl⟩
      have HT := Lib.hid hT
      have HTL := Lib.hid (show T.length = ls.length by rw [hT, List.length_map])
      clear hT HN q1
      go_wp2_with fail
      go_loopw [8, 9, 51] (fun sv tv i w2 => ∃ (k : Nat) (σ τ : ByteArray), sv = .string σ ∧ tv = .string τ ∧ i = .int .i64 (k : Int) ∧ k ≤ ls.length ∧ σ.data.toList = sK T k ∧ τ.data.toList = tK T note.data.toList a k ∧ σ.size ≤ 16400 ∧ τ.size ≤ 20000 ∧ (∀ x ∈ T.take k, ∀ c ∈ x, c ≠ 10) ∧ w2 = wr) (fun _ _ i _ => ls.length - (intOf i).toNat)
      case atStart => exact ⟨0, ⟨#[]⟩, ⟨#[]⟩, rfl, rfl, rfl, Nat.zero_le _, rfl, rfl, by decide, by decide, fun x h => by simp at h, rfl⟩
      case round =>
        obtain ⟨k, σ, τ, rfl, rfl, rfl, hk, hσ, hτ, zs, zt, hno, rfl⟩ := hrel
        have HSG := Lib.hid hσ
        have HTU := Lib.hid hτ
        have HNO := Lib.hid hno
        clear hσ hτ hno
        by_cases hkl : k < ls.length
        · obtain ⟨x, hx⟩ : ∃ x, ls[k]? = some x := ⟨_, List.getElem?_eq_getElem hkl⟩
          obtain ⟨b, o, rfl, hbl, hcx⟩ := HF.out k x hx
          have d0 : wr.cell? ⟨b, o + k, none⟩ = some (.string x) := (hb1.cell (p := ⟨b, o + k, none⟩) hbl).trans hcx
          have HTX := Lib.hid (show T[k]? = some x.data.toList by rw [HT.out, List.getElem?_map, hx]; rfl)
          have hxm := HXS.out x (List.mem_of_getElem? hx)
          clear hbl hcx hx
          go_wp2_with fail
          go_loopw [12] (fun i w2 => ∃ j : Nat, i = .int .i64 (j : Int) ∧ j ≤ x.size ∧ (∀ c ∈ x.data.toList.take j, c ≠ 10) ∧ w2 = wr) (fun i _ => x.size - (intOf i).toNat)
          case atStart => exact ⟨0, rfl, Nat.zero_le _, fun c h => by simp at h, rfl⟩
          case round =>
            obtain ⟨j, rfl, hj, hno, rfl⟩ := hrel
            have HN := Lib.hid hno
            clear hno
            by_cases hjl : j < x.size
            · have q1 : IntKind.i64.wrap ((j : Int) + 1) = (j : Int) + 1 := IntWalk.i64_in _ (by omega)
              by_cases hc : x[j] = 10
              · have d1 : ((x[j].toNat : Int) == 10) = true := by rw [hc]; rfl
                clear hc
                go_wp2_with fail
                go_ret
                exact ⟨rfl, hb1⟩
              · have d1 : ((x[j].toNat : Int) == 10) = false := by
                  rw [beq_eq_false_iff_ne]
                  intro e
                  exact hc (u8_eq (n := 10) (by omega) (by decide))
                have HN2 := Lib.hid (no_snoc hjl HN.out hc)
                clear hc
                go_wp2_with fail
                go_roundw
                case rel => exact ⟨j + 1, by go_num, by omega, HN2.out, trivial⟩
                case measure => simp [intOf]; omega
            · obtain rfl : j = x.size := by omega
              have HXN := Lib.hid (show ∀ c ∈ x.data.toList, c ≠ 10 from fun c hc => HN.out c (by rw [List.take_of_length_le (by rw [← Lib.size_eq]; exact Nat.le_refl _)]; exact hc))
              clear HN
              by_cases hbig : 16384 < σ.size + x.size
              · have j5 : (16384 : Int) < (σ.size : Int) + x.size := by omega
                have j6 : IntKind.i64.wrap ((σ.size : Int) + x.size) = (σ.size : Int) + x.size := IntWalk.i64_in _ (by omega)
                clear hbig
                go_wp2_with fail
                go_ret
                exact ⟨rfl, hb1⟩
              have j5 : ¬ (16384 : Int) < (σ.size : Int) + x.size := by omega
              have j6 : IntKind.i64.wrap ((σ.size : Int) + x.size) = (σ.size : Int) + x.size := IntWalk.i64_in _ (by omega)
              have w9 : IntKind.i64.wrap ((ls.length : Int) - 1) = (ls.length : Int) - 1 := IntWalk.i64_in _ (by omega)
              have HGD := Lib.hid (getD_of HTX.out)
              have HNS := Lib.hid (ls_snoc HTX.out HNO.out HXN.out)
              clear hbig
              by_cases pk : 0 < k
              · have j7 : (0 : Int) < k := by omega
                by_cases pa : k = a
                · subst pa
                  have j8 : ((k : Int) == (k : Int)) = true := beq_self_eq_true _
                  by_cases pm : k + 1 < ls.length
                  · have j9 : (k : Int) < (ls.length : Int) - 1 := by omega
                    have m0 : ¬ 9223372036854775807 < σ.size + 1 := by omega
                    have m1 : ¬ 9223372036854775807 < σ.size + 1 + x.size := by omega
                    have m2 : ¬ 9223372036854775807 < τ.size + 1 := by omega
                    have m3 : ¬ 9223372036854775807 < τ.size + 1 + note.size := by omega
                    have m4 : ¬ 9223372036854775807 < τ.size + 1 + note.size + 2 := by omega
                    have m5 : ¬ 9223372036854775807 < τ.size + 1 + note.size + 2 + x.size := by omega
                    have m6 : ¬ 9223372036854775807 < τ.size + 1 + note.size + 2 + x.size + 1 := by omega
                    have HS := Lib.hid (show (((σ ++ ⟨#[10]⟩) ++ x) : ByteArray).data.toList = sK T (k + 1) by rw [sK, HGD.out, ← HSG.out]; simp [ByteArray.data_append, pk])
                    have HTT := Lib.hid (show ((((τ ++ ⟨#[59]⟩ ++ note ++ ⟨#[10, 10]⟩) ++ x) ++ ⟨#[10]⟩) : ByteArray).data.toList = tK T note.data.toList k (k + 1) by rw [tK, HGD.out, ← HTU.out, HTL.out]; simp [ByteArray.data_append, pm])
                    have HZ := Lib.hid (show (((σ ++ ⟨#[10]⟩) ++ x) : ByteArray).size ≤ 16400 by simp only [ByteArray.size_append]; first | omega | (show σ.size + 1 + x.size ≤ 16400; omega))
                    have HZT := Lib.hid (show ((((τ ++ ⟨#[59]⟩ ++ note ++ ⟨#[10, 10]⟩) ++ x) ++ ⟨#[10]⟩) : ByteArray).size ≤ 20000 from size_of HTT.out HS.out HZ.out (by rw [← Lib.size_eq]; omega) (by omega))
                    clear pk pm
                    go_wp2_with fail
                    go_roundw
                    case rel => exact ⟨k + 1, _, _, rfl, rfl, by go_num, by omega, HS.out, HTT.out, HZ.out, HZT.out, HNS.out, trivial⟩
                    case measure => simp [intOf]; omega
                  · have j9 : ¬ (k : Int) < (ls.length : Int) - 1 := by omega
                    have m0 : ¬ 9223372036854775807 < σ.size + 1 := by omega
                    have m1 : ¬ 9223372036854775807 < σ.size + 1 + x.size := by omega
                    have m2 : ¬ 9223372036854775807 < τ.size + 1 := by omega
                    have m3 : ¬ 9223372036854775807 < τ.size + 1 + note.size := by omega
                    have m4 : ¬ 9223372036854775807 < τ.size + 1 + note.size + 2 := by omega
                    have m5 : ¬ 9223372036854775807 < τ.size + 1 + note.size + 2 + x.size := by omega
                    have HS := Lib.hid (show (((σ ++ ⟨#[10]⟩) ++ x) : ByteArray).data.toList = sK T (k + 1) by rw [sK, HGD.out, ← HSG.out]; simp [ByteArray.data_append, pk])
                    have HTT := Lib.hid (show (((τ ++ ⟨#[59]⟩ ++ note ++ ⟨#[10, 10]⟩) ++ x) : ByteArray).data.toList = tK T note.data.toList k (k + 1) by rw [tK, HGD.out, ← HTU.out, HTL.out]; simp [ByteArray.data_append, pm])
                    have HZ := Lib.hid (show (((σ ++ ⟨#[10]⟩) ++ x) : ByteArray).size ≤ 16400 by simp only [ByteArray.size_append]; first | omega | (show σ.size + 1 + x.size ≤ 16400; omega))
                    have HZT := Lib.hid (show (((τ ++ ⟨#[59]⟩ ++ note ++ ⟨#[10, 10]⟩) ++ x) : ByteArray).size ≤ 20000 from size_of HTT.out HS.out HZ.out (by rw [← Lib.size_eq]; omega) (by omega))
                    clear pk pm
                    go_wp2_with fail
                    go_roundw
                    case rel => exact ⟨k + 1, _, _, rfl, rfl, by go_num, by omega, HS.out, HTT.out, HZ.out, HZT.out, HNS.out, trivial⟩
                    case measure => simp [intOf]; omega
                · have j8 : ((k : Int) == (a : Int)) = false := by rw [beq_eq_false_iff_ne]; omega
                  have j8' : ¬ (k : Int) = (a : Int) := by omega
                  by_cases pm : k + 1 < ls.length
                  · have j9 : (k : Int) < (ls.length : Int) - 1 := by omega
                    have m0 : ¬ 9223372036854775807 < σ.size + 1 := by omega
                    have m1 : ¬ 9223372036854775807 < σ.size + 1 + x.size := by omega
                    have m2 : ¬ 9223372036854775807 < τ.size + x.size := by omega
                    have m3 : ¬ 9223372036854775807 < τ.size + x.size + 1 := by omega
                    have HS := Lib.hid (show (((σ ++ ⟨#[10]⟩) ++ x) : ByteArray).data.toList = sK T (k + 1) by rw [sK, HGD.out, ← HSG.out]; simp [ByteArray.data_append, pk])
                    have HTT := Lib.hid (show (((τ ++ x) ++ ⟨#[10]⟩) : ByteArray).data.toList = tK T note.data.toList a (k + 1) by rw [tK, HGD.out, ← HTU.out, HTL.out]; simp [ByteArray.data_append, pm, pa])
                    have HZ := Lib.hid (show (((σ ++ ⟨#[10]⟩) ++ x) : ByteArray).size ≤ 16400 by simp only [ByteArray.size_append]; first | omega | (show σ.size + 1 + x.size ≤ 16400; omega))
                    have HZT := Lib.hid (show (((τ ++ x) ++ ⟨#[10]⟩) : ByteArray).size ≤ 20000 from size_of HTT.out HS.out HZ.out (by rw [← Lib.size_eq]; omega) (by omega))
                    clear pk pm pa
                    go_wp2_with fail
                    go_roundw
                    case rel => exact ⟨k + 1, _, _, rfl, rfl, by go_num, by omega, HS.out, HTT.out, HZ.out, HZT.out, HNS.out, trivial⟩
                    case measure => simp [intOf]; omega
                  · have j9 : ¬ (k : Int) < (ls.length : Int) - 1 := by omega
                    have m0 : ¬ 9223372036854775807 < σ.size + 1 := by omega
                    have m1 : ¬ 9223372036854775807 < σ.size + 1 + x.size := by omega
                    have m2 : ¬ 9223372036854775807 < τ.size + x.size := by omega
                    have HS := Lib.hid (show (((σ ++ ⟨#[10]⟩) ++ x) : ByteArray).data.toList = sK T (k + 1) by rw [sK, HGD.out, ← HSG.out]; simp [ByteArray.data_append, pk])
                    have HTT := Lib.hid (show ((τ ++ x) : ByteArray).data.toList = tK T note.data.toList a (k + 1) by rw [tK, HGD.out, ← HTU.out, HTL.out]; simp [ByteArray.data_append, pm, pa])
                    have HZ := Lib.hid (show (((σ ++ ⟨#[10]⟩) ++ x) : ByteArray).size ≤ 16400 by simp only [ByteArray.size_append]; first | omega | (show σ.size + 1 + x.size ≤ 16400; omega))
                    have HZT := Lib.hid (show ((τ ++ x) : ByteArray).size ≤ 20000 from size_of HTT.out HS.out HZ.out (by rw [← Lib.size_eq]; omega) (by omega))
                    clear pk pm pa
                    go_wp2_with fail
                    go_roundw
                    case rel => exact ⟨k + 1, _, _, rfl, rfl, by go_num, by omega, HS.out, HTT.out, HZ.out, HZT.out, HNS.out, trivial⟩
                    case measure => simp [intOf]; omega
              · have j7 : ¬ (0 : Int) < k := by omega
                by_cases pa : k = a
                · subst pa
                  have j8 : ((k : Int) == (k : Int)) = true := beq_self_eq_true _
                  by_cases pm : k + 1 < ls.length
                  · have j9 : (k : Int) < (ls.length : Int) - 1 := by omega
                    have m0 : ¬ 9223372036854775807 < σ.size + x.size := by omega
                    have m1 : ¬ 9223372036854775807 < τ.size + 1 := by omega
                    have m2 : ¬ 9223372036854775807 < τ.size + 1 + note.size := by omega
                    have m3 : ¬ 9223372036854775807 < τ.size + 1 + note.size + 2 := by omega
                    have m4 : ¬ 9223372036854775807 < τ.size + 1 + note.size + 2 + x.size := by omega
                    have m5 : ¬ 9223372036854775807 < τ.size + 1 + note.size + 2 + x.size + 1 := by omega
                    have HS := Lib.hid (show ((σ ++ x) : ByteArray).data.toList = sK T (k + 1) by rw [sK, HGD.out, ← HSG.out]; simp [ByteArray.data_append, pk])
                    have HTT := Lib.hid (show ((((τ ++ ⟨#[59]⟩ ++ note ++ ⟨#[10, 10]⟩) ++ x) ++ ⟨#[10]⟩) : ByteArray).data.toList = tK T note.data.toList k (k + 1) by rw [tK, HGD.out, ← HTU.out, HTL.out]; simp [ByteArray.data_append, pm])
                    have HZ := Lib.hid (show ((σ ++ x) : ByteArray).size ≤ 16400 by simp only [ByteArray.size_append]; first | omega | (show σ.size + 1 + x.size ≤ 16400; omega))
                    have HZT := Lib.hid (show ((((τ ++ ⟨#[59]⟩ ++ note ++ ⟨#[10, 10]⟩) ++ x) ++ ⟨#[10]⟩) : ByteArray).size ≤ 20000 from size_of HTT.out HS.out HZ.out (by rw [← Lib.size_eq]; omega) (by omega))
                    clear pk pm
                    go_wp2_with fail
                    go_roundw
                    case rel => exact ⟨k + 1, _, _, rfl, rfl, by go_num, by omega, HS.out, HTT.out, HZ.out, HZT.out, HNS.out, trivial⟩
                    case measure => simp [intOf]; omega
                  · have j9 : ¬ (k : Int) < (ls.length : Int) - 1 := by omega
                    have m0 : ¬ 9223372036854775807 < σ.size + x.size := by omega
                    have m1 : ¬ 9223372036854775807 < τ.size + 1 := by omega
                    have m2 : ¬ 9223372036854775807 < τ.size + 1 + note.size := by omega
                    have m3 : ¬ 9223372036854775807 < τ.size + 1 + note.size + 2 := by omega
                    have m4 : ¬ 9223372036854775807 < τ.size + 1 + note.size + 2 + x.size := by omega
                    have HS := Lib.hid (show ((σ ++ x) : ByteArray).data.toList = sK T (k + 1) by rw [sK, HGD.out, ← HSG.out]; simp [ByteArray.data_append, pk])
                    have HTT := Lib.hid (show (((τ ++ ⟨#[59]⟩ ++ note ++ ⟨#[10, 10]⟩) ++ x) : ByteArray).data.toList = tK T note.data.toList k (k + 1) by rw [tK, HGD.out, ← HTU.out, HTL.out]; simp [ByteArray.data_append, pm])
                    have HZ := Lib.hid (show ((σ ++ x) : ByteArray).size ≤ 16400 by simp only [ByteArray.size_append]; first | omega | (show σ.size + 1 + x.size ≤ 16400; omega))
                    have HZT := Lib.hid (show (((τ ++ ⟨#[59]⟩ ++ note ++ ⟨#[10, 10]⟩) ++ x) : ByteArray).size ≤ 20000 from size_of HTT.out HS.out HZ.out (by rw [← Lib.size_eq]; omega) (by omega))
                    clear pk pm
                    go_wp2_with fail
                    go_roundw
                    case rel => exact ⟨k + 1, _, _, rfl, rfl, by go_num, by omega, HS.out, HTT.out, HZ.out, HZT.out, HNS.out, trivial⟩
                    case measure => simp [intOf]; omega
                · have j8 : ((k : Int) == (a : Int)) = false := by rw [beq_eq_false_iff_ne]; omega
                  have j8' : ¬ (k : Int) = (a : Int) := by omega
                  by_cases pm : k + 1 < ls.length
                  · have j9 : (k : Int) < (ls.length : Int) - 1 := by omega
                    have m0 : ¬ 9223372036854775807 < σ.size + x.size := by omega
                    have m1 : ¬ 9223372036854775807 < τ.size + x.size := by omega
                    have m2 : ¬ 9223372036854775807 < τ.size + x.size + 1 := by omega
                    have HS := Lib.hid (show ((σ ++ x) : ByteArray).data.toList = sK T (k + 1) by rw [sK, HGD.out, ← HSG.out]; simp [ByteArray.data_append, pk])
                    have HTT := Lib.hid (show (((τ ++ x) ++ ⟨#[10]⟩) : ByteArray).data.toList = tK T note.data.toList a (k + 1) by rw [tK, HGD.out, ← HTU.out, HTL.out]; simp [ByteArray.data_append, pm, pa])
                    have HZ := Lib.hid (show ((σ ++ x) : ByteArray).size ≤ 16400 by simp only [ByteArray.size_append]; first | omega | (show σ.size + 1 + x.size ≤ 16400; omega))
                    have HZT := Lib.hid (show (((τ ++ x) ++ ⟨#[10]⟩) : ByteArray).size ≤ 20000 from size_of HTT.out HS.out HZ.out (by rw [← Lib.size_eq]; omega) (by omega))
                    clear pk pm pa
                    go_wp2_with fail
                    go_roundw
                    case rel => exact ⟨k + 1, _, _, rfl, rfl, by go_num, by omega, HS.out, HTT.out, HZ.out, HZT.out, HNS.out, trivial⟩
                    case measure => simp [intOf]; omega
                  · have j9 : ¬ (k : Int) < (ls.length : Int) - 1 := by omega
                    have m0 : ¬ 9223372036854775807 < σ.size + x.size := by omega
                    have m1 : ¬ 9223372036854775807 < τ.size + x.size := by omega
                    have HS := Lib.hid (show ((σ ++ x) : ByteArray).data.toList = sK T (k + 1) by rw [sK, HGD.out, ← HSG.out]; simp [ByteArray.data_append, pk])
                    have HTT := Lib.hid (show ((τ ++ x) : ByteArray).data.toList = tK T note.data.toList a (k + 1) by rw [tK, HGD.out, ← HTU.out, HTL.out]; simp [ByteArray.data_append, pm, pa])
                    have HZ := Lib.hid (show ((σ ++ x) : ByteArray).size ≤ 16400 by simp only [ByteArray.size_append]; first | omega | (show σ.size + 1 + x.size ≤ 16400; omega))
                    have HZT := Lib.hid (show ((τ ++ x) : ByteArray).size ≤ 20000 from size_of HTT.out HS.out HZ.out (by rw [← Lib.size_eq]; omega) (by omega))
                    clear pk pm pa
                    go_wp2_with fail
                    go_roundw
                    case rel => exact ⟨k + 1, _, _, rfl, rfl, by go_num, by omega, HS.out, HTT.out, HZ.out, HZT.out, HNS.out, trivial⟩
                    case measure => simp [intOf]; omega
        · obtain rfl : k = ls.length := by omega
          rw [← HTL.out, List.take_length] at HNO
          have hA1 := assemble_any σ wr (hE.below hb1)
          have hA2 := fun (w : World) (h : Below wr.heap.size wr w) => assemble_any τ w (hE.below (hb1.trans (h.mono hb1.size)))
          have e1 := Lib.size_eq σ
          have e2 := Lib.size_eq τ
          have hN := notes_law (ls := T) (note := note.data.toList) (a := a) HNO.out HNN.out (by rw [HTL.out, ← HSG.out, ← e1]; omega) (by rw [HTL.out, ← HTU.out, ← e2]; omega)
          rw [HTL.out, ← HSG.out, ← HTU.out] at hN
          obtain ⟨x0, x1⟩ := asm_num σ.data.toList
          unfold AQ at hA1 hA2
          rw [hN] at hA2
          generalize asmP σ.data.toList = r at *
          obtain ⟨p, x, er⟩ := r
          dsimp only at hA1 hA2 x0 x1
          clear hN e1 e2 HSG HTU HNO HNN
          have q2 : IntKind.i64.wrap (x + 2) = x + 2 := IntWalk.i64_in _ (by omega)
          by_cases g1 : a < ls.length
          · have i1 : (a : Int) < ls.length := by omega
            rw [if_pos g1] at hA2
            unfold upI at hA2
            by_cases g2 : (a : Int) < x
            · rw [if_pos g2] at hA2
              go_wp2_with (first
                | (go_at_call 9; refine hA1.mono ?_; clear hA1; rintro e w5 ⟨v5, rfl, hP5, hb5⟩; obtain ⟨sl5, cp5, rfl, -⟩ := hP5.form; have HP5 := Lib.hid hP5; clear hP5)
                | (go_at_call 9; refine (hA2 _ hb5).mono ?_; clear hA2; rintro e w6 ⟨v6, rfl, hP6, hb6⟩; have hsm := same_any p _ _ w6 (HP5.out.below hb6) hP6; obtain ⟨sl6, cp6, rfl, -⟩ := hP6.form; clear hP6)
                | (go_at_call 11; refine hsm.mono ?_; clear hsm; rintro e w7 ⟨rfl, hb7⟩))
              go_ret
              have hb57 := hb5.trans ((hb6.trans (hb7.mono hb6.size)).mono hb5.size)
              exact ⟨rfl, hb1.trans (hb57.mono hb1.size)⟩
            · rw [if_neg g2] at hA2
              go_wp2_with (first
                | (go_at_call 9; refine hA1.mono ?_; clear hA1; rintro e w5 ⟨v5, rfl, hP5, hb5⟩; obtain ⟨sl5, cp5, rfl, -⟩ := hP5.form; have HP5 := Lib.hid hP5; clear hP5)
                | (go_at_call 9; refine (hA2 _ hb5).mono ?_; clear hA2; rintro e w6 ⟨v6, rfl, hP6, hb6⟩; have hsm := same_any p _ _ w6 (HP5.out.below hb6) hP6; obtain ⟨sl6, cp6, rfl, -⟩ := hP6.form; clear hP6)
                | (go_at_call 11; refine hsm.mono ?_; clear hsm; rintro e w7 ⟨rfl, hb7⟩))
              go_ret
              have hb57 := hb5.trans ((hb6.trans (hb7.mono hb6.size)).mono hb5.size)
              exact ⟨rfl, hb1.trans (hb57.mono hb1.size)⟩
          · have i1 : ¬ (a : Int) < ls.length := by omega
            rw [if_neg g1] at hA2
            by_cases g2 : (a : Int) < x
            · skip
              go_wp2_with (first
                | (go_at_call 9; refine hA1.mono ?_; clear hA1; rintro e w5 ⟨v5, rfl, hP5, hb5⟩; obtain ⟨sl5, cp5, rfl, -⟩ := hP5.form; have HP5 := Lib.hid hP5; clear hP5)
                | (go_at_call 9; refine (hA2 _ hb5).mono ?_; clear hA2; rintro e w6 ⟨v6, rfl, hP6, hb6⟩; have hsm := same_any p _ _ w6 (HP5.out.below hb6) hP6; obtain ⟨sl6, cp6, rfl, -⟩ := hP6.form; clear hP6)
                | (go_at_call 11; refine hsm.mono ?_; clear hsm; rintro e w7 ⟨rfl, hb7⟩))
              go_ret
              have hb57 := hb5.trans ((hb6.trans (hb7.mono hb6.size)).mono hb5.size)
              exact ⟨rfl, hb1.trans (hb57.mono hb1.size)⟩
            · skip
              go_wp2_with (first
                | (go_at_call 9; refine hA1.mono ?_; clear hA1; rintro e w5 ⟨v5, rfl, hP5, hb5⟩; obtain ⟨sl5, cp5, rfl, -⟩ := hP5.form; have HP5 := Lib.hid hP5; clear hP5)
                | (go_at_call 9; refine (hA2 _ hb5).mono ?_; clear hA2; rintro e w6 ⟨v6, rfl, hP6, hb6⟩; have hsm := same_any p _ _ w6 (HP5.out.below hb6) hP6; obtain ⟨sl6, cp6, rfl, -⟩ := hP6.form; clear hP6)
                | (go_at_call 11; refine hsm.mono ?_; clear hsm; rintro e w7 ⟨rfl, hb7⟩))
              go_ret
              have hb57 := hb5.trans ((hb6.trans (hb7.mono hb6.size)).mono hb5.size)
              exact ⟨rfl, hb1.trans (hb57.mono hb1.size)⟩
end Aw
end Go.Proofs.YtipcockcndnipaaGreatDoor
