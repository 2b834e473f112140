/-
  Walk: recipe.Name, its letters and keywords. (printed by gen_RcA.py)
-/
import Derived.Test.YtcigggffaofkhaaRcP
import Derived.Test.YtcigggffaofkhaaSxA
import Derived.Test.YtcigggffaofkhaaShelf
import Derived.Shelf.GgClosure.StringsIndexFuncTop
import Derived.Laws.RangeString
import Derived.Laws.RangeAny
import Derived.Laws.EntriesVeiled
import Derived.Outline
namespace Go.Proofs.Ytcigggffaofkhaa
open Go.RowKit
namespace Rc

def letR (r : Nat) : Bool := (decide (97 ≤ r) && decide (r ≤ 122)) || (decide (48 ≤ r) && decide (r ≤ 57)) || decide (r = 95)
theorem letter_R (c : UInt8) : letter c = letR c.toNat := by
  unfold letter letR
  congr 1
  by_cases h : c = 95
  · subst h; rfl
  · have h2 : c.toNat ≠ 95 := fun e => h (UInt8.toNat_inj.1 e)
    rw [decide_eq_false h2, beq_eq_false_iff_ne]
    exact h
theorem letR_high {r : Nat} (h : 128 ≤ r) : letR r = false := by
  simp only [letR, Bool.or_eq_false_iff, Bool.and_eq_false_iff, decide_eq_false_iff_not]
  omega
theorem idx_from (s : ByteArray) : ∀ (f pos : Nat), s.size ≤ pos + f → (Lib.idxFuncFrom (fun r => !letR r) true s f pos = -1 ↔ ∀ (i : Nat) (h : i < s.size), pos ≤ i → letR s[i].toNat = true)
  | 0, pos, hf => by
    rw [Lib.idxFuncFrom_end _ _ _ _ _ (by omega)]
    exact ⟨fun _ i h hp => by omega, fun _ => rfl⟩
  | f + 1, pos, hf => by
    by_cases hp : pos < s.size
    · unfold Lib.idxFuncFrom
      rw [if_pos hp]
      by_cases ha : s[pos].toNat < 128
      · rw [decode_ascii s pos hp ha]
        by_cases hn : letR s[pos].toNat = true
        · dsimp only
          rw [hn, if_neg (by decide), idx_from s f (pos + 1) (by omega)]
          constructor
          · intro h i hi hpi
            by_cases e : i = pos
            · subst e; exact hn
            · exact h i hi (by omega)
          · exact fun h i hi hpi => h i hi (by omega)
        · have hn' : letR s[pos].toNat = false := by simpa using hn
          dsimp only
          rw [hn', if_pos (by decide)]
          constructor
          · intro h; omega
          · intro h; exact absurd (h pos hp (Nat.le_refl _)) hn
      · have hd := (decode_high s pos hp (by omega)).1
        rw [letR_high hd, if_pos (by decide)]
        constructor
        · intro h; omega
        · intro h
          have := h pos hp (Nat.le_refl _)
          rw [letR_high (by omega)] at this
          cases this
    · rw [Lib.idxFuncFrom_end _ _ _ _ _ hp]
      exact ⟨fun _ i h hpi => by omega, fun _ => rfl⟩
theorem all_get {s : ByteArray} : s.data.toList.all letter = true ↔ ∀ (i : Nat) (h : i < s.size), letR s[i].toNat = true := by
  rw [List.all_eq_true]
  have hz := Lib.size_eq s
  constructor
  · intro h i hi
    rw [← letter_R]
    exact h _ (List.mem_of_getElem? (i := i) (by rw [List.getElem?_eq_getElem (by omega)]; rfl))
  · intro h c hc
    obtain ⟨k, hk⟩ := List.mem_iff_getElem?.1 hc
    have hkl := (List.getElem?_eq_some_iff.1 hk).1
    have := h k (by omega)
    rw [List.getElem?_eq_getElem hkl] at hk
    cases hk
    rw [letter_R]
    exact this
theorem idx_all (s : ByteArray) : decide (0 ≤ Lib.idxFunc (fun r => !letR r) true s) = !(s.data.toList.all letter) := by
  have h1 := idx_from s s.size 0 (by omega)
  have h2 := Lib.idxFunc_range (fun r => !letR r) true s
  have h3 := @all_get s
  change Lib.idxFunc _ _ _ = _ ↔ _ at h1
  cases ha : s.data.toList.all letter
  · have : ¬ Lib.idxFunc (fun r => !letR r) true s = -1 := fun e => by
      have := h3.2 (fun i hi => h1.1 e i hi (Nat.zero_le _))
      rw [this] at ha
      cases ha
    simp only [Bool.not_false, decide_eq_true_eq]
    omega
  · have := h1.2 (fun i hi _ => h3.1 ha i hi)
    simp only [Bool.not_true, decide_eq_false_iff_not]
    omega
theorem head_get {s : ByteArray} (h : 0 < s.size) : s.data.toList.head? = some s[0] := by
  have hz := Lib.size_eq s
  rw [List.head?_eq_getElem?, List.getElem?_eq_getElem (by omega)]
  rfl
set_option maxHeartbeats 1000000 in
theorem ok_any (x : Nat) (w : World) : Calls Try.prog 21 #[.int .i32 (x : Int)] w fun e w' => e = .returned (.bool (letR x)) ∧ w' = w := by
  have cases : (97 ≤ x ∧ x ≤ 122) ∨ (48 ≤ x ∧ x ≤ 57) ∨ x = 95 ∨ x < 48 ∨ (58 ≤ x ∧ x ≤ 96 ∧ x ≠ 95) ∨ 123 ≤ x := by omega
  rcases cases with ⟨a, b⟩ | ⟨a, b⟩ | h | a | ⟨a, b, c⟩ | a
  · have hx := Lib.hid (show letR x = true by simp only [letR, Bool.or_eq_true, Bool.and_eq_true, decide_eq_true_eq]; omega)
    have t1 : decide ((97 : Int) ≤ x) = true := by simp; omega
    have t2 : decide ((x : Int) ≤ 122) = true := by simp; omega
    go_enter Try.func21, Try.ntmps21
    go_wp2
    go_ret
    exact ⟨Sx.ret_bool hx.out.symm, rfl⟩
  · have hx := Lib.hid (show letR x = true by simp only [letR, Bool.or_eq_true, Bool.and_eq_true, decide_eq_true_eq]; omega)
    have t1 : decide ((97 : Int) ≤ x) = false := by simp; omega
    have t3 : decide ((48 : Int) ≤ x) = true := by simp; omega
    have t4 : decide ((x : Int) ≤ 57) = true := by simp; omega
    go_enter Try.func21, Try.ntmps21
    go_wp2
    go_ret
    exact ⟨Sx.ret_bool hx.out.symm, rfl⟩
  · subst h
    go_enter Try.func21, Try.ntmps21
    go_wp2
    go_ret
    exact ⟨rfl, rfl⟩
  all_goals
    have hx := Lib.hid (show letR x = false by simp only [letR, Bool.or_eq_false_iff, Bool.and_eq_false_iff, decide_eq_false_iff_not]; omega)
    have e2 : ((x : Int) == 95) = false := by rw [beq_eq_false_iff_ne]; omega
  · have t1 : decide ((97 : Int) ≤ x) = false := by simp; omega
    have t3 : decide ((48 : Int) ≤ x) = false := by simp; omega
    go_enter Try.func21, Try.ntmps21
    go_wp2
    go_ret
    exact ⟨Sx.ret_bool hx.out.symm, rfl⟩
  · have t1 : decide ((97 : Int) ≤ x) = false := by simp; omega
    have t3 : decide ((48 : Int) ≤ x) = true := by simp; omega
    have t4 : decide ((x : Int) ≤ 57) = false := by simp; omega
    go_enter Try.func21, Try.ntmps21
    go_wp2
    go_ret
    exact ⟨Sx.ret_bool hx.out.symm, rfl⟩
  · have t1 : decide ((97 : Int) ≤ x) = true := by simp; omega
    have t2 : decide ((x : Int) ≤ 122) = false := by simp; omega
    have t3 : decide ((48 : Int) ≤ x) = true := by simp; omega
    have t4 : decide ((x : Int) ≤ 57) = false := by simp; omega
    go_enter Try.func21, Try.ntmps21
    go_wp2
    go_ret
    exact ⟨Sx.ret_bool hx.out.symm, rfl⟩
set_option maxHeartbeats 1000000 in
theorem no_any (x : Nat) (b : Nat) (w : World) (h : w.cell? ⟨b, 0, none⟩ = some (.func (.func 21) #[] #[])) :
    Calls Try.prog 23 #[.int .i32 (x : Int), .pointer (some ⟨b, 0, none⟩)] w fun e w' => e = .returned (.bool (!letR x)) ∧ w' = w := by
  go_enter Try.func23, Try.ntmps23
  go_wp2_with (go_at_call 21; refine (ok_any _ _).mono ?_; rintro e w' ⟨rfl, rfl⟩)
  go_ret
  exact ⟨rfl, rfl⟩
theorem no_enters : ∀ (args : Array Value) (w : World), (callFunc 23 args).run Try.prog w = .ok (.enter 23 args) w :=
  enters_of Try.func23 (by kernel_rfl) rfl
theorem contains_any (s : ByteArray) (b : Nat) (w : World) (h : w.cell? ⟨b, 0, none⟩ = some (.func (.func 21) #[] #[])) :
    Calls Try.prog 22 #[.string s, .func (.func 23) #[] #[.pointer (some ⟨b, 0, none⟩)]] w fun e w' => e = .returned (.bool (!(s.data.toList.all letter))) ∧ Below w.heap.size w w' := by
  have hc := Try.strings_ContainsFunc 23 #[.pointer (some ⟨b, 0, none⟩)] no_enters (fun r => !letR r) s w (fun W x hb => by
    have hcell : W.cell? ⟨b, 0, none⟩ = some (.func (.func 21) #[] #[]) := (hb.cell (World.block_lt_of_cell? w _ h)).trans h
    exact (no_any x b W hcell).mono fun e w' ⟨he, hw⟩ => ⟨he, 0, hw⟩)
  rw [idx_all] at hc
  exact hc
/-- a slice of texts -/
def SS (W : World) (v : Value) (l : List (List UInt8)) : Prop := ∃ b cap, v = .slice (some ⟨b, 0, none⟩) l.length cap ∧ b < W.heap.size ∧ ∀ (i : Nat) (x : List UInt8), l[i]? = some x → W.cell? ⟨b, i, none⟩ = some (.string ⟨x.toArray⟩)
theorem SS.below {W W' : World} {v : Value} {l : List (List UInt8)} (h : SS W v l) (hb : Below W.heap.size W W') : SS W' v l := by
  obtain ⟨b, cap, rfl, hl, hc⟩ := h
  exact ⟨b, cap, rfl, Nat.lt_of_lt_of_le hl hb.size, fun i x hx => (hb.cell (p := ⟨b, i, none⟩) hl).trans (hc i x hx)⟩
def idxW (l : List (List UInt8)) (x : List UInt8) : Int := match l.findIdx? (fun y => x == y) with
  | some i => (i : Int)
  | none => -1
theorem idxW_hit {l : List (List UInt8)} {x : List UInt8} {k : Nat} (h : l[k]? = some x) (hn : ∀ (j : Nat) (y : List UInt8), j < k → l[j]? = some y → x ≠ y) : idxW l x = k := by
  have hk := (List.getElem?_eq_some_iff.1 h).1
  have : l.findIdx? (fun y => x == y) = some k := by
    rw [List.findIdx?_eq_some_iff_getElem]
    refine ⟨hk, ?_, fun j hj => ?_⟩
    · rw [List.getElem?_eq_getElem hk] at h
      rw [Option.some.inj h]
      exact beq_self_eq_true _
    · have := hn j _ hj (List.getElem?_eq_getElem (by omega))
      simpa using this
  unfold idxW
  rw [this]
theorem idxW_none {l : List (List UInt8)} {x : List UInt8} (hn : ∀ (j : Nat) (y : List UInt8), l[j]? = some y → x ≠ y) : idxW l x = -1 := by
  have : l.findIdx? (fun y => x == y) = none := by
    rw [List.findIdx?_eq_none_iff]
    intro y hy
    obtain ⟨j, hj⟩ := List.mem_iff_getElem?.1 hy
    simpa using hn j y hj
  unfold idxW
  rw [this]
theorem idxW_mem (l : List (List UInt8)) (x : List UInt8) : decide (0 ≤ idxW l x) = l.contains x := by
  unfold idxW
  cases h : l.findIdx? (fun y => x == y) with
  | none =>
    rw [List.findIdx?_eq_none_iff] at h
    have : l.contains x = false := by
      cases hc : l.contains x
      · rfl
      · rw [List.contains_iff_mem] at hc
        have := h x hc
        simp at this
    rw [this]
    decide
  | some i =>
    rw [List.findIdx?_eq_some_iff_getElem] at h
    obtain ⟨hi, h1, -⟩ := h
    have h2 : x = l[i] := by simpa using h1
    have : l.contains x = true := by
      rw [List.contains_iff_mem, h2]
      exact List.getElem_mem hi
    rw [this]
    simp
theorem ba_ne {s : ByteArray} {y : List UInt8} (h : s.data.toList ≠ y) : s ≠ ⟨y.toArray⟩ := fun e => h (by rw [e])
theorem ba_eq {s : ByteArray} {y : List UInt8} (h : s.data.toList = y) : s = ⟨y.toArray⟩ := by
  apply ByteArray.ext
  apply Array.toList_inj.1
  rw [h]
set_option maxHeartbeats 1000000 in
theorem index_any (l : List (List UInt8)) (v : Value) (s : ByteArray) (w : World) (hS : SS w v l) (hl : l.length ≤ 1000) :
    Calls Try.prog 45 #[v, .string s] w fun e w' => e = .returned (.int .i64 (idxW l s.data.toList)) ∧ w' = w := by
  obtain ⟨b, cap, rfl, hlt, hc⟩ := hS
  have HC := Lib.hid hc
  clear hc
  go_enter Try.func45, Try.ntmps45
  go_wp2_with fail
  go_loopw [5, 8] (fun _ i wr => ∃ k : Nat, k ≤ l.length ∧ i = .int .i64 k ∧ (∀ (j : Nat) (y : List UInt8), j < k → l[j]? = some y → s.data.toList ≠ y) ∧ wr = w) (fun _ i _ => l.length - (intOf i).toNat)
  case atStart => exact ⟨0, Nat.zero_le _, rfl, by omega, rfl⟩
  case round =>
    obtain ⟨k, hk, rfl, hn, rfl⟩ := hrel
    have HN := Lib.hid hn
    clear hn
    by_cases hk2 : k < l.length
    · obtain ⟨x, hx⟩ : ∃ x, l[k]? = some x := ⟨l[k], List.getElem?_eq_getElem hk2⟩
      have hcell := HC.out k x hx
      have HX := Lib.hid hx
      obtain ⟨xb, hxb⟩ : ∃ xb : ByteArray, xb = ⟨x.toArray⟩ := ⟨_, rfl⟩
      rw [← hxb] at hcell
      clear hx
      by_cases he : s.data.toList = x
      · have hr := Lib.hid (idxW_hit (l := l) (x := s.data.toList) (k := k) (by rw [he]; exact HX.out) HN.out)
        have i1 := Sx.seq_tt (show s = xb by rw [hxb]; exact ba_eq he)
        clear he hxb
        go_wp2_with fail
        go_ret
        exact ⟨Sx.ret_int hr.out.symm, rfl⟩
      · have i1 := Sx.seq_ff (show s ≠ xb by rw [hxb]; exact ba_ne he)
        clear hxb
        have HNN := Lib.hid (show ∀ (j : Nat) (y : List UInt8), j < k + 1 → l[j]? = some y → s.data.toList ≠ y from fun j y hj hy => by
          by_cases h : j < k
          · exact HN.out j y h hy
          · obtain rfl : j = k := by omega
            rw [HX.out] at hy
            rw [← Option.some.inj hy]
            exact he)
        clear he
        go_wp2_with fail
        go_roundw
        case rel => exact ⟨k + 1, by omega, by go_num, HNN.out, by trivial⟩
        case measure => simp [intOf]; omega
    · have hr := Lib.hid (idxW_none (l := l) (x := s.data.toList) (fun j y hy => HN.out j y (by
        have := (List.getElem?_eq_some_iff.1 hy).1
        omega) hy))
      go_wp2_with fail
      go_ret
      exact ⟨Sx.ret_int hr.out.symm, rfl⟩
set_option maxHeartbeats 400000 in
theorem has_any (l : List (List UInt8)) (v : Value) (s : ByteArray) (w : World) (hS : SS w v l) (hl : l.length ≤ 1000) :
    Calls Try.prog 24 #[v, .string s] w fun e w' => e = .returned (.bool (l.contains s.data.toList)) ∧ w' = w := by
  have hi := index_any l v s w hS hl
  have hx := Lib.hid (idxW_mem l s.data.toList)
  obtain ⟨b, cap, rfl, hlt, hc⟩ := hS
  clear hc
  go_enter Try.func24, Try.ntmps24
  go_wp2_with fail
  refine hi.mono ?_
  rintro e w' ⟨rfl, rfl⟩
  go_wp2_with fail
  go_ret
  exact ⟨Sx.ret_bool hx.out, rfl⟩
theorem ss_lit (W : World) (l : List (List UInt8)) : SS (W.alloc (.cells (l.map fun x => Value.string ⟨x.toArray⟩).toArray 9)) (.slice (some ⟨W.heap.size, 0, none⟩) l.length l.length) l := by
  refine ⟨_, _, rfl, by simp, fun i x hx => ?_⟩
  have h := heap_alloc_new W (.cells (l.map fun x => Value.string ⟨x.toArray⟩).toArray 9)
  simp only [World.cell?, h]
  simp [hx]
set_option maxHeartbeats 400000 in
theorem keywords_any (w : World) : Calls Try.prog 25 #[] w fun e w' => ∃ v, e = .returned v ∧ SS w' v keyW ∧ Below w.heap.size w w' := by
  have hs := ss_lit w keyW
  go_enter Try.func25, Try.ntmps25
  go_wp2
  go_ret
  exact ⟨_, rfl, hs, (Below.refl _ _).alloc (Nat.le_refl _) _⟩
theorem nameL_no1 {l : List UInt8} (h : l = []) : nameL l = false := by subst h; rfl
theorem nameL_no2 {l : List UInt8} (h : 32 < l.length) : nameL l = false := by simp [nameL]; omega
theorem nameL_no3 {l : List UInt8} {c : UInt8} (h : l.head? = some c) (hc : c.toNat < 97 ∨ 122 < c.toNat) : nameL l = false := by
  have : (decide (97 ≤ c.toNat) && decide (c.toNat ≤ 122)) = false := by
    rw [Bool.and_eq_false_iff, decide_eq_false_iff_not, decide_eq_false_iff_not]
    omega
  simp [nameL, h, this]
theorem nameL_no4 {l : List UInt8} (h : l.all letter = false) : nameL l = false := by simp [nameL, h]
theorem nameL_yes {l : List UInt8} {c : UInt8} (h1 : 1 ≤ l.length) (h2 : l.length ≤ 32) (h : l.head? = some c) (hc : 97 ≤ c.toNat) (hc2 : c.toNat ≤ 122) (ha : l.all letter = true) : nameL l = !keyW.contains l := by
  unfold nameL
  rw [decide_eq_true h1, decide_eq_true h2, ha, h]
  simp only [decide_eq_true hc, decide_eq_true hc2, Bool.true_and, Bool.and_true]
set_option maxHeartbeats 2000000 in
theorem name_any (s : ByteArray) (w : World) : Calls Try.prog 10 #[.string s] w fun e w' => e = .returned (.bool (nameL s.data.toList)) ∧ Below w.heap.size w w' := by
  have hz := Lib.size_eq s
  have hX := (Below.refl w.heap.size w).alloc (Nat.le_refl _) (.cells #[.func (.func 21) #[] #[]] 49)
  have hmf : ∀ (fn : Fn) (first cap : Array Value) (w : World), (Instr.makeFunc fn first cap).run Try.prog w = .ok (.func fn first cap) w := fun _ _ _ _ => rfl
  by_cases he : s = ⟨#[]⟩
  · have hx := Lib.hid (nameL_no1 (l := s.data.toList) (by rw [he]))
    have h1 := Sx.emp_tt he
    clear hz he
    go_enter Try.func10, Try.ntmps10
    go_wp2_with fail
    go_ret
    exact ⟨Sx.ret_bool hx.out.symm, hX⟩
  · have h1 := Sx.emp_ff he
    have hpos : 0 < s.size := by
      rcases Nat.eq_zero_or_pos s.size with h0 | h0
      · exfalso
        apply he
        apply ByteArray.ext
        apply Array.toList_inj.1
        rw [h0] at hz
        exact List.length_eq_zero_iff.1 hz.symm
      · exact h0
    have hhd := head_get hpos
    by_cases h32 : s.size ≤ 32
    rotate_left
    · have hx := Lib.hid (nameL_no2 (l := s.data.toList) (by omega))
      have t1 : decide ((s.size : Int) ≤ 32) = false := by simp; omega
      clear hz he
      go_enter Try.func10, Try.ntmps10
      go_wp2_with fail
      go_ret
      exact ⟨Sx.ret_bool hx.out.symm, hX⟩
    · have t1 : decide ((s.size : Int) ≤ 32) = true := by simp; omega
      by_cases ha : 97 ≤ s[0].toNat
      rotate_left
      · have hx := Lib.hid (nameL_no3 hhd (by omega))
        have t2 : decide ((97 : Int) ≤ (s[0].toNat : Int)) = false := by simp; omega
        clear hz he hhd ha
        go_enter Try.func10, Try.ntmps10
        go_wp2_with fail
        go_ret
        exact ⟨Sx.ret_bool hx.out.symm, hX⟩
      · have t2 : decide ((97 : Int) ≤ (s[0].toNat : Int)) = true := by simp; omega
        by_cases hb : s[0].toNat ≤ 122
        rotate_left
        · have hx := Lib.hid (nameL_no3 hhd (by omega))
          have t3 : decide ((s[0].toNat : Int) ≤ 122) = false := by simp; omega
          clear hz he hhd ha hb
          go_enter Try.func10, Try.ntmps10
          go_wp2_with fail
          go_ret
          exact ⟨Sx.ret_bool hx.out.symm, hX⟩
        · have t3 : decide ((s[0].toNat : Int) ≤ 122) = true := by simp; omega
          have hcon := contains_any s w.heap.size (w.alloc (.cells #[.func (.func 21) #[] #[]] 49)) (by go_simp)
          cases hall : s.data.toList.all letter
          · have hx := Lib.hid (nameL_no4 hall)
            rw [hall] at hcon
            clear hz he hhd ha hb hall
            go_enter Try.func10, Try.ntmps10
            go_wp2_with fail
            refine hcon.mono ?_
            rintro e w1 ⟨rfl, hb1⟩
            go_wp2_with fail
            go_ret
            exact ⟨Sx.ret_bool hx.out.symm, hX.trans (hb1.mono hX.size)⟩
          · have hx := Lib.hid (nameL_yes (by omega) (by omega) hhd ha hb hall)
            rw [hall] at hcon
            clear hz he hhd ha hb hall
            go_enter Try.func10, Try.ntmps10
            go_wp2_with fail
            refine hcon.mono ?_
            rintro e w1 ⟨rfl, hb1⟩
            clear hcon
            go_wp2_with fail
            refine (keywords_any w1).mono ?_
            rintro e w2 ⟨v, rfl, hS, hb2⟩
            have hh := has_any keyW v s w2 hS (by decide)
            generalize keyW.contains s.data.toList = q at *
            go_wp2_with fail
            refine hh.mono ?_
            rintro e w3 ⟨rfl, rfl⟩
            go_wp2_with fail
            go_ret
            exact ⟨Sx.ret_bool hx.out.symm, (hX.trans (hb1.mono hX.size)).trans (hb2.mono (hX.trans (hb1.mono hX.size)).size)⟩
end Rc
end Go.Proofs.Ytcigggffaofkhaa
