/-
  Walk: the reader's quoted. (printed by gen_RcQ.py)
-/
import Derived.Test.YtflhmoelenmomaaGreatDoorMRcP
import Derived.Laws.BitsAllLaws
import Derived.StillTailTactics
import Derived.Laws.OwnMore
import Derived.Defers
import Derived.Recover
namespace Go.Proofs.YtflhmoelenmomaaGreatDoor
open Go.RowKit
namespace Rc

def hexD : ByteArray := ⟨#[48, 49, 50, 51, 52, 53, 54, 55, 56, 57, 97, 98, 99, 100, 101, 102]⟩
def hx (c : UInt8) : Int := if hexv c = 16 then -1 else (hexv c : Int)
theorem hx_all : ∀ n : Fin 256, Lib.indexByte hexD.data.toList (UInt8.ofNat n.1) = hx (UInt8.ofNat n.1) := by decide +kernel
theorem hx_eq (c : UInt8) : Lib.indexByte hexD.data.toList c = hx c := by
  have h := hx_all ⟨c.toNat, c.toNat_lt⟩
  simpa using h
theorem hexv_le (c : UInt8) : hexv c ≤ 16 := by unfold hexv; split <;> (try split) <;> omega
theorem hexi_any (c : UInt8) (w : World) : Calls Tryz.prog 127 #[.string ⟨#[48, 49, 50, 51, 52, 53, 54, 55, 56, 57, 97, 98, 99, 100, 101, 102]⟩, .int .u8 (c.toNat : Int)] w fun e w' => e = .returned (.int .i64 (hx c)) ∧ w' = w := by
  refine (Tryz.strings_IndexByte hexD (c.toNat : Int) w).mono ?_
  rintro e w' ⟨rfl, rfl⟩
  have e1 : ((c.toNat : Int)).toNat.toUInt8 = c := by simp
  rw [e1, hx_eq]
  exact ⟨rfl, rfl⟩
theorem or_hex : ∀ a b : Fin 16, bits BinOp.or IntKind.i64 ((a.val : Int) * 16) (b.val : Int) % 256 = ((16 * a.val + b.val : Nat) : Int) := by decide +kernel
theorem or_hexv {a b : Nat} (ha : a ≤ 15) (hb : b ≤ 15) : bits BinOp.or IntKind.i64 ((a : Int) * 16) (b : Int) % 256 = ((UInt8.ofNat (16 * a + b)).toNat : Int) := by
  rw [UInt8.toNat_ofNat_of_lt' (by show 16 * a + b < 256; omega)]
  exact or_hex ⟨a, by omega⟩ ⟨b, by omega⟩
theorem drop_at {s : ByteArray} {m : Nat} (h : m < s.size) : s.data.toList.drop m = s[m] :: s.data.toList.drop (m + 1) := by
  have hz := Lib.size_eq s
  rw [List.drop_eq_getElem_cons (by omega)]
  rfl
theorem drop_end {s : ByteArray} {m : Nat} (h : s.size ≤ m) : s.data.toList.drop m = [] := by
  have hz := Lib.size_eq s
  exact List.drop_of_length_le (by omega)
theorem u8_eq {c : UInt8} {n : Nat} (h : c.toNat = n) (hn : n < 256) : c = UInt8.ofNat n := by
  apply UInt8.toNat_inj.1
  rw [h, UInt8.toNat_ofNat_of_lt' (by exact hn)]
/-- the reading so far: acc was read, so many bytes are gone -/
def QI (s : ByteArray) (p m : Nat) (acc : List UInt8) : Prop := ∃ f, (s.data.toList.drop m).length < f ∧ strL (s.data.toList.drop (p + 1)) = (strF f (s.data.toList.drop m)).map fun x => (acc ++ x.1, m - (p + 1) + x.2)
theorem QI.start (s : ByteArray) (p : Nat) : QI s p (p + 1) [] := ⟨_, Nat.lt_succ_self _, by simp [strL, Option.map_id']⟩
theorem QI.stop {s : ByteArray} {p m : Nat} {acc : List UInt8} (h : QI s p m acc) (hm : m < s.size) (hc : s[m] = 34) : strL (s.data.toList.drop (p + 1)) = some (acc, m - (p + 1) + 1) := by
  obtain ⟨f, hf, he⟩ := h
  rw [he, drop_at hm, hc]
  cases f with
  | zero => omega
  | succ f => simp [strF]
theorem QI.bad {s : ByteArray} {p m : Nat} {acc : List UInt8} (h : QI s p m acc) (hb : ∀ f, strF f (s.data.toList.drop m) = none) : strL (s.data.toList.drop (p + 1)) = none := by
  obtain ⟨f, hf, he⟩ := h
  rw [he, hb]
  rfl
theorem bad_end {s : ByteArray} {m : Nat} (h : s.size ≤ m) : ∀ f, strF f (s.data.toList.drop m) = none := fun f => by
  rw [drop_end h]
  cases f <;> rfl
theorem bad_ctl {s : ByteArray} {m : Nat} (h : m < s.size) (hc : s[m].toNat < 32 ∨ 126 < s[m].toNat) : ∀ f, strF f (s.data.toList.drop m) = none := fun f => by
  rw [drop_at h]
  cases f with
  | zero => rfl
  | succ f =>
    have h34 : s[m] ≠ 34 := fun e => by rw [e] at hc; revert hc; decide
    simp only [strF]
    rw [if_neg h34, if_pos hc]
theorem bad_hex {s : ByteArray} {m : Nat} (h : m < s.size) (hc : s[m] = 92) (hb : s.size ≤ m + 2 ∨ ∃ (h2 : m + 2 < s.size), hexv s[m + 1] = 16 ∨ hexv s[m + 2] = 16) : ∀ f, strF f (s.data.toList.drop m) = none := fun f => by
  rw [drop_at h, hc]
  cases f with
  | zero => rfl
  | succ f =>
    simp only [strF]
    rw [if_neg (by decide), if_neg (by decide), if_neg (by decide)]
    rcases hb with hb | ⟨h2, hb⟩
    · by_cases h1 : m + 1 < s.size
      · rw [drop_at h1, drop_end (show s.size ≤ m + 1 + 1 by omega)]
      · rw [drop_end (show s.size ≤ m + 1 by omega)]
    · rw [drop_at (show m + 1 < s.size by omega), drop_at (show m + 1 + 1 < s.size by omega)]
      simp only
      rw [if_pos hb]
theorem QI.plain {s : ByteArray} {p m : Nat} {acc : List UInt8} (h : QI s p m acc) (hp : p + 1 ≤ m) (hm : m < s.size) (h1 : s[m] ≠ 34) (h2 : ¬ (s[m].toNat < 32 ∨ 126 < s[m].toNat)) (h3 : s[m] ≠ 92) : QI s p (m + 1) (acc ++ [s[m]]) := by
  obtain ⟨f, hf, he⟩ := h
  rw [drop_at hm] at hf he
  cases f with
  | zero => omega
  | succ f =>
    refine ⟨f, by simp only [List.length_cons] at hf; omega, ?_⟩
    rw [he]
    simp only [strF]
    rw [if_neg h1, if_neg h2, if_pos h3, Option.map_map]
    congr 1
    funext x
    simp
    omega
theorem QI.hex {s : ByteArray} {p m : Nat} {acc : List UInt8} (h : QI s p m acc) (hp : p + 1 ≤ m) (h2 : m + 2 < s.size) (hc : s[m] = 92) (ha : hexv s[m + 1] ≠ 16) (hb : hexv s[m + 2] ≠ 16) : QI s p (m + 3) (acc ++ [UInt8.ofNat (16 * hexv s[m + 1] + hexv s[m + 2])]) := by
  obtain ⟨f, hf, he⟩ := h
  rw [drop_at (show m < s.size by omega), drop_at (show m + 1 < s.size by omega), drop_at (show m + 1 + 1 < s.size by omega), hc, show m + 1 + 1 + 1 = m + 3 from rfl] at hf he
  cases f with
  | zero => omega
  | succ f =>
    refine ⟨f, by simp only [List.length_cons] at hf; omega, ?_⟩
    rw [he]
    simp only [strF]
    rw [if_neg (by decide), if_neg (by decide), if_neg (by decide), if_neg (by intro e; rcases e with e | e; exact ha e; exact hb e), Option.map_map]
    congr 1
    funext x
    simp
    omega
/-- the bytes that are gathered -/
theorem u8_snoc (acc : List UInt8) (c : UInt8) : u8s acc ++ [.int .u8 (c.toNat : Int)] = u8s (acc ++ [c]) := by simp [u8s]
theorem conv_any {W : World} {B : Nat} {v : Value} {l : List UInt8} (h : W.ownsRow B 5 1 v l.length (u8s l)) : (convert 117 9 v).run Tryz.prog W = .ok (.string ⟨l.toArray⟩) W := by
  by_cases hl : 0 < l.length
  · exact own_conv h hl
  · have h0 : l = [] := List.length_eq_zero_iff.1 (by omega)
    subst h0
    rcases h.2 with ⟨rfl, -⟩ | ⟨g, cap, cur, rfl, -⟩
    · rw [run_convert_bytes_string W 117 9 5 none 0 0 Tryz.underlying117 Tryz.underlying5 Tryz.underlying9]
      rfl
    · exact run_convert_bytes_back W 117 9 5 ⟨g, 0, none⟩ cap [] Tryz.underlying117 Tryz.underlying5 Tryz.underlying9 (fun j hj => by simp at hj)
theorem Fq.grown {W X w' : World} {b : Nat} {row : Option Nat} (h : Fq W X b) (hb : b < W.heap.size) (hg : X.grownBy w' row) (hr : ∀ g, row = some g → W.heap.size ≤ g) : Fq W w' b :=
  ⟨h.below.grown hg (by have := h.below.size; omega) (fun g e => by have := hr g e; omega), fun k hk hkb => (hg.block k (Nat.lt_of_lt_of_le hk h.below.size) (fun e => by have := hr k e.symm; omega)).trans (h.block k hk hkb)⟩
theorem quiet_at {P : Program} {f : FuncId} {args : Array Value} {v : Value} (h : ∀ w, Calls P f args w fun e w' => e = .returned v ∧ w' = w) (w : World) (a : Nat) : Calls P f args (w.drewN a) fun e w'' => e = .returned v ∧ ∃ n, w'' = w.drewN n :=
  (h _).mono fun _ _ ⟨he, hw⟩ => ⟨he, a, hw⟩
end Rc
end Go.Proofs.YtflhmoelenmomaaGreatDoor

/-
  Walk: the reader's next. (printed by gen_RcN.py)
-/
namespace Go.Proofs.YtflhmoelenmomaaGreatDoor
open Go.RowKit
namespace Rc

theorem tb_all : ∀ n : Fin 256, decide (0 ≤ Lib.indexByte [32, 10, 9, 35] (UInt8.ofNat n.1)) = blank (UInt8.ofNat n.1) := by decide +kernel
theorem ts_all : ∀ n : Fin 256, decide (0 ≤ Lib.indexByte [40, 41, 43, 61] (UInt8.ofNat n.1)) = sign (UInt8.ofNat n.1) := by decide +kernel
theorem tl_all : ∀ n : Fin 256, decide (0 ≤ Lib.indexByte [97, 98, 99, 100, 101, 102, 103, 104, 105, 106, 107, 108, 109, 110, 111, 112, 113, 114, 115, 116, 117, 118, 119, 120, 121, 122, 48, 49, 50, 51, 52, 53, 54, 55, 56, 57, 95] (UInt8.ofNat n.1)) = letter (UInt8.ofNat n.1) := by decide +kernel
theorem fin_all {p : UInt8 → Bool} {l : List UInt8} (h : ∀ n : Fin 256, decide (0 ≤ Lib.indexByte l (UInt8.ofNat n.1)) = p (UInt8.ofNat n.1)) (c : UInt8) : decide (0 ≤ Lib.indexByte l c) = p c := by
  have h := h ⟨c.toNat, c.toNat_lt⟩
  simpa using h
theorem ib_any (t : ByteArray) (c : UInt8) (w : World) : Calls Tryz.prog 127 #[.string t, .int .u8 (c.toNat : Int)] w fun e w' => e = .returned (.int .i64 (Lib.indexByte t.data.toList c)) ∧ w' = w := by
  refine (Tryz.strings_IndexByte t (c.toNat : Int) w).mono ?_
  rintro e w' ⟨rfl, rfl⟩
  have e1 : ((c.toNat : Int)).toNat.toUInt8 = c := by simp
  rw [e1]
  exact ⟨rfl, rfl⟩
/-- one byte's test by a table: a number that is not negative just if it is so -/
theorem ib_ex {p : UInt8 → Bool} {t : ByteArray} (h : ∀ n : Fin 256, decide (0 ≤ Lib.indexByte t.data.toList (UInt8.ofNat n.1)) = p (UInt8.ofNat n.1)) (c : UInt8) : ∃ n : Int, decide (0 ≤ n) = p c ∧ ∀ w, Calls Tryz.prog 127 #[.string t, .int .u8 (c.toNat : Int)] w fun e w' => e = .returned (.int .i64 n) ∧ w' = w :=
  ⟨_, fin_all h c, ib_any t c⟩
def SK (s : ByteArray) (a m : Nat) (note : Bool) : Prop := a ≤ m ∧ skipL false (s.data.toList.drop a) = (m - a) + skipL note (s.data.toList.drop m)
theorem SK.start (s : ByteArray) (a : Nat) : SK s a a false := ⟨Nat.le_refl _, by simp⟩
theorem SK.step {s : ByteArray} {a m : Nat} {note : Bool} (h : SK s a m note) (hm : m < s.size) (hc : (note || blank s[m]) = true) : SK s a (m + 1) (s[m] == 35 || (note && s[m] != 10)) := by
  obtain ⟨h1, h2⟩ := h
  refine ⟨by omega, ?_⟩
  rw [h2, drop_at hm]
  simp only [skipL, hc, if_true]
  omega
theorem SK.nl {s : ByteArray} {a m : Nat} (h : SK s a m true) (hm : s.size ≤ m ∨ ∃ (hm : m < s.size), s[m] = 10) : SK s a m false := by
  obtain ⟨h1, h2⟩ := h
  refine ⟨h1, ?_⟩
  rw [h2]
  rcases hm with hm | ⟨hm, hc⟩
  · rw [drop_end hm]
    rfl
  · rw [drop_at hm, hc]
    simp [skipL, blank]
theorem SK.stop {s : ByteArray} {a m : Nat} (h : SK s a m false) (hm : s.size ≤ m ∨ ∃ (hm : m < s.size), blank s[m] = false) : skipL false (s.data.toList.drop a) = m - a := by
  obtain ⟨h1, h2⟩ := h
  rw [h2]
  rcases hm with hm | ⟨hm, hc⟩
  · rw [drop_end hm]
    simp [skipL]
  · rw [drop_at hm]
    simp [skipL, hc]
theorem tok_here {s : ByteArray} {a m : Nat} (h : SK s a m false) (hm : s.size ≤ m ∨ ∃ (hm : m < s.size), blank s[m] = false) : tokAt s.data.toList a = tokP s.data.toList m := by
  unfold tokAt
  rw [h.stop hm, show a + (m - a) = m by have := h.1; omega]
theorem tok_end {s : ByteArray} {m : Nat} (hm : s.size ≤ m) : tokP s.data.toList m = .ok ⟨0, ⟨#[]⟩, m, m⟩ := by unfold tokP; rw [drop_end hm]
theorem tok_str {s : ByteArray} {m : Nat} (hm : m < s.size) (hc : s[m] = 34) : tokP s.data.toList m = match strL (s.data.toList.drop (m + 1)) with
    | some (x, n) => .ok ⟨3, ⟨x.toArray⟩, m, m + 1 + n⟩
    | none => .bad m := by unfold tokP; rw [drop_at hm, hc]; rfl
theorem tok_sign {s : ByteArray} {m : Nat} (hm : m < s.size) (h34 : s[m] ≠ 34) (hc : sign s[m] = true) : tokP s.data.toList m = .ok ⟨2, ⟨#[s[m]]⟩, m, m + 1⟩ := by
  unfold tokP
  rw [drop_at hm]
  simp only
  rw [if_neg h34, if_pos hc]
theorem tok_word {s : ByteArray} {m k : Nat} (hm : m < s.size) (h34 : s[m] ≠ 34) (hc : sign s[m] = false) (hk : wordN (s.data.toList.drop m) = k) : tokP s.data.toList m = if k = 0 then .bad m else .ok ⟨1, ⟨((s.data.toList.drop m).take k).toArray⟩, m, m + k⟩ := by
  unfold tokP
  rw [drop_at hm] at hk ⊢
  simp only
  rw [if_neg h34, hc, if_neg (by decide), hk]
/-- so many letters stand from a on -/
def WN (s : ByteArray) (a m : Nat) : Prop := a ≤ m ∧ wordN (s.data.toList.drop a) = (m - a) + wordN (s.data.toList.drop m)
theorem WN.start (s : ByteArray) (a : Nat) : WN s a a := ⟨Nat.le_refl _, by simp⟩
theorem WN.step {s : ByteArray} {a m : Nat} (h : WN s a m) (hm : m < s.size) (hc : letter s[m] = true) : WN s a (m + 1) := by
  obtain ⟨h1, h2⟩ := h
  refine ⟨by omega, ?_⟩
  rw [h2, drop_at hm]
  simp only [wordN, List.takeWhile_cons, hc, if_true, List.length_cons]
  omega
theorem WN.stop {s : ByteArray} {a m : Nat} (h : WN s a m) (hm : s.size ≤ m ∨ ∃ (hm : m < s.size), letter s[m] = false) : wordN (s.data.toList.drop a) = m - a := by
  obtain ⟨h1, h2⟩ := h
  rw [h2]
  rcases hm with hm | ⟨hm, hc⟩
  · rw [drop_end hm]
    simp [wordN]
  · rw [drop_at hm]
    simp [wordN, hc]
theorem ext_word {s : ByteArray} {m k : Nat} : s.extract m k = ⟨((s.data.toList.drop m).take (k - m)).toArray⟩ := by
  apply ByteArray.ext
  apply Array.toList_inj.1
  simp [ByteArray.data_extract, Array.toList_extract, List.extract_eq_take_drop]
theorem ext_one {s : ByteArray} {m : Nat} (hm : m < s.size) : s.extract m (m + 1) = ⟨#[s[m]]⟩ := by
  rw [ext_word, drop_at hm, show m + 1 - m = 1 by omega]
  rfl
theorem tok_w0 {s : ByteArray} {a m : Nat} {r : RT} (h : r = if m - a = 0 then .bad a else .ok ⟨1, ⟨((s.data.toList.drop a).take (m - a)).toArray⟩, a, a + (m - a)⟩) (hm : m = a) : r = .bad a := by rw [h, if_pos (by omega)]
theorem tok_w1 {s : ByteArray} {a m : Nat} {r : RT} (h : r = if m - a = 0 then .bad a else .ok ⟨1, ⟨((s.data.toList.drop a).take (m - a)).toArray⟩, a, a + (m - a)⟩) (hm : a < m) : r = .ok ⟨1, s.extract a m, a, m⟩ := by rw [h, if_neg (by omega), ext_word, show a + (m - a) = m by omega]
end Rc
end Go.Proofs.YtflhmoelenmomaaGreatDoor

/-
  Walks: the reader's is, want, name, open.
-/
namespace Go.Proofs.YtflhmoelenmomaaGreatDoor
open Go.RowKit
namespace Rc

/-- a token that was read -/
structure TV (s : ByteArray) (t : Tk) : Prop where
  none : t.kind = 0 → t.s = ⟨#[]⟩
  kind : t.kind ≤ 3
  fin : t.fin ≤ s.size
  word : t.kind = 1 ∨ t.kind = 2 → t.s ≠ ⟨#[]⟩
  sgn : t.kind = 2 → ∃ c, sign c = true ∧ t.s = ⟨#[c]⟩
theorem skip_le : ∀ (l : List UInt8) (note : Bool), skipL note l ≤ l.length
  | [], _ => by simp [skipL]
  | c :: l, note => by
    unfold skipL
    split
    · have := skip_le l (c == 35 || (note && c != 10))
      simp only [List.length_cons]
      omega
    · simp
theorem strF_le : ∀ (f : Nat) (l : List UInt8) (x : List UInt8) (n : Nat), strF f l = some (x, n) → n ≤ l.length
  | 0, l, x, n, h => by simp [strF] at h
  | f + 1, [], x, n, h => by simp [strF] at h
  | f + 1, c :: l, x, n, h => by
    unfold strF at h
    split at h
    · simp at h; obtain ⟨-, rfl⟩ := h; simp
    · split at h
      · cases h
      · split at h
        · obtain ⟨⟨y, k⟩, hy, he⟩ := Option.map_eq_some_iff.1 h
          have := strF_le f l y k hy
          simp at he
          simp only [List.length_cons]
          omega
        · match l, h with
          | a :: b :: r, h =>
            simp only at h
            split at h
            · cases h
            · obtain ⟨⟨y, k⟩, hy, he⟩ := Option.map_eq_some_iff.1 h
              have := strF_le f r y k hy
              simp at he
              simp only [List.length_cons]
              omega
          | [a], h => simp at h
          | [], h => simp at h
theorem ne_nil {c : UInt8} {l : List UInt8} : (⟨(c :: l).toArray⟩ : ByteArray) ≠ ⟨#[]⟩ := fun e => by
  have := congrArg (fun b : ByteArray => b.data.toList) e
  simp at this
theorem tokP_tv {s : ByteArray} {p : Nat} {t : Tk} (hp : p ≤ s.size) (h : tokP s.data.toList p = .ok t) : TV s t := by
  unfold tokP at h
  have hz := Lib.size_eq s
  cases hd : s.data.toList.drop p with
  | nil =>
    rw [hd] at h
    simp only [RT.ok.injEq] at h
    subst h
    exact ⟨fun _ => rfl, by simp, hp, (fun h => by simp at h), (fun h => by simp at h)⟩
  | cons c l =>
    have hl : l.length + 1 = s.size - p := by
      have := congrArg List.length hd
      simp only [List.length_drop, List.length_cons] at this
      omega
    rw [hd] at h
    simp only at h
    split at h
    · split at h
      · rename_i x n hs
        simp only [RT.ok.injEq] at h
        subst h
        have := strF_le _ _ _ _ hs
        exact ⟨(fun h => by simp at h), by simp, by show p + 1 + n ≤ s.size; omega, (fun h => by simp at h), (fun h => by simp at h)⟩
      · cases h
    · split at h
      · rename_i hsg
        simp only [RT.ok.injEq] at h
        subst h
        exact ⟨(fun h => by simp at h), by simp, by show p + 1 ≤ s.size; omega, fun _ => ne_nil, fun _ => ⟨c, hsg, rfl⟩⟩
      · split at h
        · cases h
        · rename_i hw
          simp only [RT.ok.injEq] at h
          subst h
          have h1 : wordN (c :: l) ≤ (c :: l).length := by unfold wordN; exact (List.takeWhile_sublist _).length_le
          obtain ⟨k, hk⟩ : ∃ k, wordN (c :: l) = k + 1 := ⟨wordN (c :: l) - 1, by omega⟩
          refine ⟨(fun h => by simp at h), by simp, ?_, fun _ => ?_, (fun h => by simp at h)⟩
          · show p + wordN (c :: l) ≤ s.size
            simp only [List.length_cons] at h1
            omega
          · rw [hk]
            exact ne_nil
theorem tok_tv {s : ByteArray} {p : Nat} {t : Tk} (hp : p ≤ s.size) (h : tokAt s.data.toList p = .ok t) : TV s t := by
  unfold tokAt at h
  have hz := Lib.size_eq s
  have := skip_le (s.data.toList.drop p) false
  rw [List.length_drop] at this
  exact tokP_tv (by omega) h
/-- the reader's state, of a token that stands next -/
abbrev RK (W : World) (b : Nat) (s : ByteArray) (t : Tk) (dp : Int) : Prop := RD W b s t.fin (t.kind == 3) t.s t.pl dp
abbrev unitE (_ : Unit) (e : Ending) (_ : World) : Prop := e = .returned (.tuple #[])
theorem isW_text {t : Tk} {w : List UInt8} (h : t.kind = 3) : isW t w = false := by simp [isW, h]
theorem isW_ne {t : Tk} {w : List UInt8} (h : t.s.data.toList ≠ w) : isW t w = false := by simp [isW, h]
theorem isW_eq {s : ByteArray} {t : Tk} {w : List UInt8} (hv : TV s t) (hk : t.kind ≠ 3) (h : t.s.data.toList = w) (hw : w ≠ []) : isW t w = true := by
  have h0 : t.kind ≠ 0 := fun e => hw (by rw [← h, hv.none e])
  have := hv.kind
  have h1 : t.kind = 1 ∨ t.kind = 2 := by omega
  rcases h1 with h1 | h1 <;> simp [isW, h1, h]
end Rc
end Go.Proofs.YtflhmoelenmomaaGreatDoor

/-
  Plain: a reading goes forward.
-/
namespace Go.Proofs.YtflhmoelenmomaaGreatDoor
open Go.RowKit
namespace Rc

theorem tokP_prog {s : List UInt8} {p : Nat} {t : Tk} (h : tokP s p = .ok t) : p ≤ t.fin ∧ (t.kind ≠ 0 → p < t.fin) := by
  unfold tokP at h
  cases hd : s.drop p with
  | nil =>
    rw [hd] at h
    simp only [RT.ok.injEq] at h
    subst h
    exact ⟨Nat.le_refl _, fun h => absurd rfl h⟩
  | cons c l =>
    rw [hd] at h
    simp only at h
    split at h
    · split at h
      · simp only [RT.ok.injEq] at h
        subst h
        dsimp only
        omega
      · cases h
    · split at h
      · simp only [RT.ok.injEq] at h
        subst h
        dsimp only
        omega
      · split at h
        · cases h
        · simp only [RT.ok.injEq] at h
          subst h
          dsimp only
          omega
theorem tok_prog {s : List UInt8} {p : Nat} {t : Tk} (h : tokAt s p = .ok t) : p ≤ t.fin ∧ (t.kind ≠ 0 → p < t.fin) := by
  have := tokP_prog h
  exact ⟨by omega, fun hk => by have := this.2 hk; omega⟩
theorem step_prog {s : List UInt8} {t t' : Tk} {u : Unit} (h : stepT s t = .ok u t') : t.fin ≤ t'.fin ∧ (t'.kind ≠ 0 → t.fin < t'.fin) := by
  unfold stepT at h
  split at h
  · rename_i t1 h1
    cases h
    exact tok_prog h1
  · cases h
theorem isW_kind {t : Tk} {w : List UInt8} (h : isW t w = true) : t.kind ≠ 0 := by
  intro e
  simp [isW, e] at h
theorem want_prog {s w : List UInt8} {t t' : Tk} {u : Unit} (h : wantT s w t = .ok u t') : t.kind ≠ 0 ∧ t.fin ≤ t'.fin := by
  unfold wantT at h
  split at h
  · rename_i hw
    exact ⟨isW_kind hw, (step_prog h).1⟩
  · cases h
theorem bind_ok {α β : Type} {r : Res α} {f : α → Tk → Res β} {y : β} {t' : Tk} (h : r.bind f = .ok y t') : ∃ x t, r = .ok x t ∧ f x t = .ok y t' := by
  cases r with
  | ok x t => exact ⟨x, t, rfl, h⟩
  | bad p e => cases h
/-- a reading takes something, and goes forward -/
def Pg (f : Tk → Res E) : Prop := ∀ t x t', f t = .ok x t' → t.kind ≠ 0 ∧ t.fin ≤ t'.fin
theorem sum_prog {s : List UInt8} {f : Tk → Res E} (hf : Pg f) : ∀ (m : Nat) (t : Tk) (acc l : List E) (t' : Tk), sumP s f m t acc = .ok l t' → t.fin ≤ t'.fin
  | 0, t, acc, l, t', h => by cases h
  | m + 1, t, acc, l, t', h => by
    unfold sumP at h
    split at h
    · obtain ⟨_, t1, h1, h⟩ := bind_ok h
      obtain ⟨y, t2, h2, h⟩ := bind_ok h
      have := sum_prog hf m t2 _ l t' h
      have := (step_prog h1).1
      have := (hf _ _ _ h2).2
      omega
    · cases h
      exact Nat.le_refl _
theorem expr_prog {s : List UInt8} {f : Tk → Res E} (hf : Pg f) : Pg (exprP s f) := by
  intro t x t' h
  unfold exprP at h
  obtain ⟨y, t1, h1, h⟩ := bind_ok h
  obtain ⟨l, t2, h2, h⟩ := bind_ok h
  cases h
  have := hf _ _ _ h1
  have := sum_prog hf _ _ _ _ _ h2
  exact ⟨by simp_all, by omega⟩
theorem termOk_kind {t : Tk} (h : termOk t = true) : t.kind ≠ 0 := by
  intro e
  simp [termOk, isW, e] at h
theorem term_prog (s : List UInt8) : ∀ h, Pg (termP s h)
  | 0, t, x, t', h => by
    unfold termP at h
    split at h <;> cases h
  | n + 1, t, x, t', h => by
    have ih := expr_prog (s := s) (term_prog s n)
    unfold termP at h
    split at h
    · cases h
    · rename_i hok
      have hk := termOk_kind (by simpa using hok)
      refine ⟨hk, ?_⟩
      obtain ⟨_, t1, h1, h⟩ := bind_ok h
      have p1 := (step_prog h1).1
      split at h
      · cases h; exact p1
      · split at h
        · obtain ⟨x1, t2, h2, h⟩ := bind_ok h
          obtain ⟨_, t3, h3, h⟩ := bind_ok h
          cases h
          have := (ih _ _ _ h2).2
          have := (want_prog h3).2
          omega
        · split at h
          · obtain ⟨x1, t2, h2, h⟩ := bind_ok h
            obtain ⟨_, t3, h3, h⟩ := bind_ok h
            obtain ⟨x2, t4, h4, h⟩ := bind_ok h
            obtain ⟨_, t5, h5, h⟩ := bind_ok h
            obtain ⟨x3, t6, h6, h⟩ := bind_ok h
            obtain ⟨_, t7, h7, h⟩ := bind_ok h
            obtain ⟨x4, t8, h8, h⟩ := bind_ok h
            cases h
            have := (ih _ _ _ h2).2
            have := (want_prog h3).2
            have := (ih _ _ _ h4).2
            have := (want_prog h5).2
            have := (ih _ _ _ h6).2
            have := (want_prog h7).2
            have := (ih _ _ _ h8).2
            omega
          · split at h
            · split at h
              · obtain ⟨_, t2, h2, h⟩ := bind_ok h
                obtain ⟨_, t3, h3, h⟩ := bind_ok h
                obtain ⟨x2, t4, h4, h⟩ := bind_ok h
                obtain ⟨_, t5, h5, h⟩ := bind_ok h
                obtain ⟨x3, t6, h6, h⟩ := bind_ok h
                cases h
                have := (step_prog h2).1
                have := (want_prog h3).2
                have := (ih _ _ _ h4).2
                have := (want_prog h5).2
                have := (ih _ _ _ h6).2
                omega
              · cases h
            · cases h; exact p1
end Rc
end Go.Proofs.YtflhmoelenmomaaGreatDoor

/-
  Walks: the reader's want, name, open.
-/
namespace Go.Proofs.YtflhmoelenmomaaGreatDoor
open Go.RowKit
namespace Rc

theorem wantT_t {s : List UInt8} {w : List UInt8} {t : Tk} (h : isW t w = true) : wantT s w t = stepT s t := by unfold wantT; rw [if_pos h]
theorem wantT_f {s : List UInt8} {w : List UInt8} {t : Tk} (h : isW t w = false) : wantT s w t = .bad t.pl 50 := by unfold wantT; rw [h]; rfl
/-- a name that must stand next -/
def nameT (s : List UInt8) (t : Tk) : Res ByteArray := if (t.kind == 1 && nameL t.s.data.toList) = true then (stepT s t).bind fun _ t1 => .ok t.s t1 else .bad t.pl 50
theorem sign_no {c : UInt8} (h : sign c = true) : nameL [c] = false := by
  simp only [sign, Bool.or_eq_true, beq_iff_eq] at h
  rcases h with ((rfl | rfl) | rfl) | rfl <;> decide
theorem name_kind {s : ByteArray} {t : Tk} (hv : TV s t) (h3 : t.kind ≠ 3) (hn : nameL t.s.data.toList = true) : t.kind = 1 := by
  have hk := hv.kind
  by_cases h0 : t.kind = 0
  · rw [hv.none h0] at hn
    cases hn
  · by_cases h2 : t.kind = 2
    · obtain ⟨c, hc, he⟩ := hv.sgn h2
      rw [he] at hn
      have := sign_no hc
      rw [show (⟨#[c]⟩ : ByteArray).data.toList = [c] from rfl, this] at hn
      cases hn
    · omega
theorem nameT_text {s : List UInt8} {t : Tk} (h : t.kind = 3) : nameT s t = .bad t.pl 50 := by simp [nameT, h]
theorem nameT_no {s : List UInt8} {t : Tk} (h : nameL t.s.data.toList = false) : nameT s t = .bad t.pl 50 := by simp [nameT, h]
theorem nameT_yes {s : List UInt8} {t : Tk} (hk : t.kind = 1) (h : nameL t.s.data.toList = true) : nameT s t = (stepT s t).bind fun _ t1 => .ok t.s t1 := by simp [nameT, hk, h]
end Rc
end Go.Proofs.YtflhmoelenmomaaGreatDoor

/-
  Expressions in memory: trees in a set of blocks, kids that are read.
-/
namespace Go.Proofs.YtflhmoelenmomaaGreatDoor
open Go.RowKit
namespace Rc

/-- the value v is the expression x, in blocks of the set S -/
inductive RepX (W : World) (S : Nat → Prop) : E → Value → Prop
  | mk (k : Int) (s : ByteArray) (ks : List E) (sl : Option Addr) (cap : Nat) (x y z : Nat → Value) (hcap : ks.length ≤ cap) (hc : ∀ i u, ks[i]? = some u → ∃ b o, sl = some ⟨b, o, none⟩ ∧ S b ∧ W.cell? ⟨b, o + i * 3, none⟩ = some (x i) ∧ W.cell? ⟨b, o + i * 3 + 1, none⟩ = some (y i) ∧ W.cell? ⟨b, o + i * 3 + 2, none⟩ = some (z i))
      (hr : ∀ i u, ks[i]? = some u → RepX W S u (.agg #[x i, y i, z i])) : RepX W S (.mk k s ks) (.agg #[.int .i64 k, .string s, .slice sl ks.length cap])
theorem RepX.same {W W' : World} {S : Nat → Prop} (hW : ∀ b o, S b → W'.cell? ⟨b, o, none⟩ = W.cell? ⟨b, o, none⟩) {t : E} {v : Value} (hr : RepX W S t v) : RepX W' S t v := by
  induction hr with
  | mk k s ks sl cap x y z hcap hc _ ih =>
    refine .mk k s ks sl cap x y z hcap (fun i u hk => ?_) ih
    obtain ⟨b, o, e, hb, h1, h2, h3⟩ := hc i u hk
    exact ⟨b, o, e, hb, (hW _ _ hb).trans h1, (hW _ _ hb).trans h2, (hW _ _ hb).trans h3⟩
theorem RepX.sub {W : World} {S S' : Nat → Prop} (hS : ∀ b, S b → S' b) {t : E} {v : Value} (hr : RepX W S t v) : RepX W S' t v := by
  induction hr with
  | mk k s ks sl cap x y z hcap hc _ ih =>
    refine .mk k s ks sl cap x y z hcap (fun i u hk => ?_) ih
    obtain ⟨b, o, e, hb, h1, h2, h3⟩ := hc i u hk
    exact ⟨b, o, e, hS _ hb, h1, h2, h3⟩
/-- blocks of S stand as they were, and belong to S' -/
theorem RepX.move {W W' : World} {S S' : Nat → Prop} (h : ∀ b, S b → S' b ∧ W'.heap[b]? = W.heap[b]?) {t : E} {v : Value} (hr : RepX W S t v) : RepX W' S' t v :=
  (hr.same (W' := W') fun b _ hb => World.cell?_of_block (h b hb).2).sub fun b hb => (h b hb).1
theorem RepX.vals {W : World} {S : Nat → Prop} {t : E} {v : Value} (hr : RepX W S t v) : ∃ (k : Int) (σ : ByteArray) (sl : Option Addr) (n cap : Nat), v = .agg #[.int .i64 k, .string σ, .slice sl n cap] := by
  cases hr with
  | mk k s ks sl cap x y z hcap hc hr => exact ⟨_, _, _, _, _, rfl⟩
theorem RepX.one {W : World} {S : Nat → Prop} {t : E} {x y z : Value} (hr : RepX W S t (.agg #[x, y, z])) : x.oneCell' = true ∧ y.oneCell' = true ∧ z.oneCell' = true := by
  cases hr with
  | mk k s ks sl cap x y z hcap hc hr => exact ⟨rfl, rfl, rfl⟩
theorem RepX.leaf (W : World) (S : Nat → Prop) (k : Int) (s : ByteArray) : RepX W S (.mk k s []) (.agg #[.int .i64 k, .string s, .slice none 0 0]) :=
  .mk k s [] none 0 (fun _ => .nilIface) (fun _ => .nilIface) (fun _ => .nilIface) (Nat.le_refl _) (fun i k hk => by simp at hk) (fun i k hk => by simp at hk)

/-! kids -/
abbrev Q3 := Value × Value × Value
def row3 (l : List Q3) : List Value := l.flatMap fun q => [q.1, q.2.1, q.2.2]
theorem row3_get : ∀ (l : List Q3) (i : Nat) (q : Q3), l[i]? = some q → (row3 l)[i * 3]? = some q.1 ∧ (row3 l)[i * 3 + 1]? = some q.2.1 ∧ (row3 l)[i * 3 + 2]? = some q.2.2
  | [], i, q, h => by simp at h
  | r :: l, 0, q, h => by simp at h; subst h; simp [row3]
  | r :: l, i + 1, q, h => by
    have ih := row3_get l i q (by simpa using h)
    have e : row3 (r :: l) = [r.1, r.2.1, r.2.2] ++ row3 l := rfl
    have e1 : (i + 1) * 3 = i * 3 + 3 := by omega
    have ee : ∀ j, (row3 (r :: l))[j + 3]? = (row3 l)[j]? := fun j => by rw [e, List.getElem?_append_right (by simp)]; simp
    rw [e1, show i * 3 + 3 + 1 = i * 3 + 1 + 3 by omega, show i * 3 + 3 + 2 = i * 3 + 2 + 3 by omega, ee, ee, ee]
    exact ih
theorem row3_snoc (l : List Q3) (q : Q3) : row3 (l ++ [q]) = row3 l ++ [q.1, q.2.1, q.2.2] := by simp [row3]
theorem own_row3 {W : World} {B : Nat} {v : Value} {l : List Q3} (h : W.ownsRow B 24 3 v l.length (row3 l)) (hl : 0 < l.length) :
    ∃ g cap, v = .slice (some ⟨g, 0, none⟩) l.length cap ∧ B ≤ g ∧ g < W.heap.size ∧ ∀ i q, l[i]? = some q → W.cell? ⟨g, 0 + i * 3, none⟩ = some q.1 ∧ W.cell? ⟨g, 0 + i * 3 + 1, none⟩ = some q.2.1 ∧ W.cell? ⟨g, 0 + i * 3 + 2, none⟩ = some q.2.2 := by
  obtain ⟨g, cap, rfl, hg, hlt⟩ := h.form hl
  have hadd : ∀ n, (⟨g, 0, none⟩ : Addr).add n = ⟨g, n, none⟩ := fun n => by unfold Addr.add; split <;> simp_all
  refine ⟨g, cap, rfl, hg, hlt, fun i q hq => ?_⟩
  obtain ⟨h1, h2, h3⟩ := row3_get l i q hq
  have c1 := h.cells (g := g) rfl _ _ h1
  have c2 := h.cells (g := g) rfl _ _ h2
  have c3 := h.cells (g := g) rfl _ _ h3
  rw [hadd] at c1 c2 c3
  simp only [Nat.zero_add]
  exact ⟨c1, c2, c3⟩
theorem own_room {W : World} {B g n cap : Nat} {e : TypeId} {sz : Nat} {xs : List Value} (h : W.ownsRow B e sz (.slice (some ⟨g, 0, none⟩) n cap) n xs) : n ≤ cap := by
  rcases h.2 with ⟨e, _⟩ | ⟨g', cap', cur, e, _, _, hl, _⟩
  · cases e
  · cases e; exact hl
/-- the kids that are read -/
structure KX (W : World) (B : Nat) (v : Value) (ts : List E) (qs : List Q3) : Prop where
  len : qs.length = ts.length
  pos : 0 < ts.length
  own : W.ownsRow B 24 3 v ts.length (row3 qs)
  one : ∀ q ∈ qs, q.1.oneCell' = true ∧ q.2.1.oneCell' = true ∧ q.2.2.oneCell' = true
  rep : ∀ (i : Nat) (q : Q3) (t : E), qs[i]? = some q → ts[i]? = some t → RepX W (fun k => B ≤ k ∧ k < W.heap.size ∧ v.ownBlock ≠ some k) t (.agg #[q.1, q.2.1, q.2.2])
theorem KX.same {W W' : World} {B : Nat} {v : Value} {ts : List E} {qs : List Q3} (k : KX W B v ts qs) (hs : W.heap.size ≤ W'.heap.size) (hb : ∀ j, B ≤ j → j < W.heap.size → W'.heap[j]? = W.heap[j]?) : KX W' B v ts qs :=
  ⟨k.len, k.pos, own_block k.own (fun j hj => hb j (k.own.lt j hj).1 (k.own.lt j hj).2), k.one, fun i q t hq ht =>
    (k.rep i q t hq ht).move fun b hS => ⟨⟨hS.1, Nat.lt_of_lt_of_le hS.2.1 hs, hS.2.2⟩, hb b hS.1 hS.2.1⟩⟩
/-- the first kid: a slice of one, made at W -/
theorem KX.first {W : World} {B C : Nat} (hC : B ≤ C) (hB : B ≤ W.heap.size) {q : Q3} {t : E} (hr : RepX W (fun k => C ≤ k ∧ k < W.heap.size) t (.agg #[q.1, q.2.1, q.2.2])) :
    KX (W.alloc (.cells #[q.1, q.2.1, q.2.2] 24)) B (.slice (some ⟨W.heap.size, 0, none⟩) 1 1) [t] [q] := by
  refine ⟨rfl, by simp, ?_, fun q' hq' => ?_, fun i q' t' hq' ht' => ?_⟩
  · exact World.ownsRow_lit W #[q.1, q.2.1, q.2.2] 1 hB (by unfold maxLen; omega) rfl
  · rw [List.mem_singleton] at hq'
    subst hq'
    exact hr.one
  · have hi : i < [q].length := (List.getElem?_eq_some_iff.1 hq').1
    simp at hi
    subst hi
    simp at hq' ht'
    subst hq' ht'
    refine hr.move fun b hS => ⟨⟨by omega, by simp; omega, fun e => ?_⟩, heap_alloc_old W _ hS.2⟩
    have : W.heap.size = b := by simpa [Value.ownBlock] using e
    omega
/-- one kid more -/
theorem KX.snoc {W0 W W' : World} {B : Nat} {v : Value} {ts : List E} {qs : List Q3} (k : KX W0 B v ts qs) (hs : W0.heap.size ≤ W.heap.size) (hb : ∀ j, B ≤ j → j < W0.heap.size → W.heap[j]? = W0.heap[j]?) (hB : B ≤ W0.heap.size)
    {q : Q3} {t : E} (hr : RepX W (fun k => W0.heap.size ≤ k ∧ k < W.heap.size) t (.agg #[q.1, q.2.1, q.2.2]))
    {g cap : Nat} {H : Nat} (hH : W.heap.size ≤ H) (hg : W.heap.size ≤ W'.heap.size ∧ ∀ j, j < W.heap.size → v.ownBlock ≠ some j → W'.heap[j]? = W.heap[j]?)
    (hat : v.ownBlock = some g ∨ g = H) (hown : W'.ownsRow B 24 3 (.slice (some ⟨g, 0, none⟩) (ts.length + 1) cap) (ts.length + 1) (row3 qs ++ [q.1, q.2.1, q.2.2])) :
    KX W' B (.slice (some ⟨g, 0, none⟩) (ts.length + 1) cap) (ts ++ [t]) (qs ++ [q]) := by
  have hv : ∀ j, v.ownBlock = some j → B ≤ j ∧ j < W0.heap.size := fun j hj => k.own.lt j hj
  have hob : (Value.slice (some ⟨g, 0, none⟩) (ts.length + 1) cap).ownBlock = some g := rfl
  refine ⟨by simp [k.len], by simp, ?_, fun q' hq' => ?_, fun i q' t' hq' ht' => ?_⟩
  · rw [List.length_append, List.length_singleton, row3_snoc]
    exact hown
  · rw [List.mem_append, List.mem_singleton] at hq'
    rcases hq' with hq' | rfl
    · exact k.one q' hq'
    · exact hr.one
  · rcases Nat.lt_or_ge i qs.length with hi | hi
    · rw [List.getElem?_append_left hi] at hq'
      rw [List.getElem?_append_left (by rw [← k.len]; exact hi)] at ht'
      refine (k.rep i q' t' hq' ht').move fun b hS => ⟨⟨hS.1, by omega, fun e => ?_⟩, ?_⟩
      · rw [hg.2 b (by omega) hS.2.2, hb b hS.1 hS.2.1]
      · rw [hob] at e
        cases e
        rcases hat with hat | hat
        · exact hS.2.2 hat
        · omega
    · have hi' : i < (qs ++ [q]).length := (List.getElem?_eq_some_iff.1 hq').1
      simp at hi'
      obtain rfl : i = qs.length := by omega
      simp at hq'
      rw [k.len] at ht'
      simp at ht'
      subst hq' ht'
      refine hr.move fun b hS => ⟨⟨by omega, by omega, fun e => ?_⟩, hg.2 b hS.2 (fun e => ?_)⟩
      · have := hv b e; omega
      · rw [hob] at e
        cases e
        rcases hat with hat | hat
        · have := hv g hat; omega
        · omega
/-- all kids: a sum's slice -/
theorem KX.list {W : World} {B : Nat} {v : Value} {ts : List E} {qs : List Q3} (k : KX W B v ts qs) (kind : Int) (s : ByteArray) : RepX W (fun k => B ≤ k ∧ k < W.heap.size) (.mk kind s ts) (.agg #[.int .i64 kind, .string s, v]) := by
  have h' : W.ownsRow B 24 3 v qs.length (row3 qs) := by rw [k.len]; exact k.own
  obtain ⟨g, cap, rfl, hB, hlt, hc⟩ := own_row3 h' (by rw [k.len]; exact k.pos)
  rw [k.len]
  refine .mk kind s ts _ cap (fun i => (qs.getD i (.nilIface, .nilIface, .nilIface)).1) (fun i => (qs.getD i (.nilIface, .nilIface, .nilIface)).2.1) (fun i => (qs.getD i (.nilIface, .nilIface, .nilIface)).2.2) (by rw [k.len] at h'; exact own_room h') (fun i t ht => ?_) (fun i t ht => ?_)
  · have hi : i < qs.length := by rw [k.len]; exact (List.getElem?_eq_some_iff.1 ht).1
    have hq : qs[i]? = some qs[i] := List.getElem?_eq_getElem hi
    rw [List.getD_eq_getElem?_getD, hq]
    obtain ⟨h1, h2, h3⟩ := hc i _ hq
    exact ⟨g, 0, rfl, ⟨hB, hlt⟩, h1, h2, h3⟩
  · have hi : i < qs.length := by rw [k.len]; exact (List.getElem?_eq_some_iff.1 ht).1
    have hq : qs[i]? = some qs[i] := List.getElem?_eq_getElem hi
    rw [List.getD_eq_getElem?_getD, hq]
    exact (k.rep i _ t hq ht).sub (fun j hj => ⟨hj.1, hj.2.1⟩)
/-- what a reading of an expression answers -/
def valE (W : World) (x : E) (e : Ending) (W' : World) : Prop := ∃ (k : Int) (σ : ByteArray) (sl : Option Addr) (n cap : Nat), e = .returned (.agg #[.int .i64 k, .string σ, .slice sl n cap]) ∧ RepX W' (fun j => W.heap.size ≤ j ∧ j < W'.heap.size) x (.agg #[.int .i64 k, .string σ, .slice sl n cap])
abbrev zeroX : Array Value := #[.int .i64 0, .string ⟨#[]⟩, .slice none 0 0]
/-- a store of three cells into a block that is new -/
abbrev put3 (W : World) (g : Nat) (x y z : Value) : World := ((W.setCell ⟨g, 0, none⟩ x).setCell ⟨g, 1, none⟩ y).setCell ⟨g, 2, none⟩ z
theorem put3_heap (W : World) (g : Nat) (x y z : Value) {k : Nat} (h : k ≠ g) : (put3 W g x y z).heap[k]? = W.heap[k]? := by
  rw [Below.heap_setCell _ _ _ _ h, Below.heap_setCell _ _ _ _ h, Below.heap_setCell _ _ _ _ h]
theorem put3_size (W : World) (g : Nat) (x y z : Value) : (put3 W g x y z).heap.size = W.heap.size := by simp [put3, World.setCell]
theorem put3_cells {W : World} {g : Nat} {a b c x y z : Value} (h0 : W.cell? ⟨g, 0, none⟩ = some a) (h1 : W.cell? ⟨g, 1, none⟩ = some b) (h2 : W.cell? ⟨g, 2, none⟩ = some c) :
    (put3 W g x y z).cell? ⟨g, 0, none⟩ = some x ∧ (put3 W g x y z).cell? ⟨g, 1, none⟩ = some y ∧ (put3 W g x y z).cell? ⟨g, 2, none⟩ = some z := by
  refine ⟨?_, ?_, ?_⟩
  · rw [World.cell?_setCell_other _ _ _ _ (by simp), World.cell?_setCell_other _ _ _ _ (by simp)]
    exact World.cell?_setCell_same _ _ _ h0
  · rw [World.cell?_setCell_other _ _ _ _ (by simp)]
    exact World.cell?_setCell_same _ _ _ ((World.cell?_setCell_other _ _ _ _ (by simp)).trans h1)
  · exact World.cell?_setCell_same _ _ _ ((World.cell?_setCell_other _ _ _ _ (by simp)).trans ((World.cell?_setCell_other _ _ _ _ (by simp)).trans h2))
theorem Fq.put3 {W W' : World} {b : Nat} (h : Fq W W' b) (hb : b < W.heap.size) {g : Nat} (hg : W.heap.size ≤ g) (x y z : Value) : Fq W (Rc.put3 W' g x y z) b :=
  ((h.new hb ⟨g, 0, none⟩ hg x).new hb ⟨g, 1, none⟩ hg y).new hb ⟨g, 2, none⟩ hg z
theorem RD.far {W : World} {b : Nat} {s : ByteArray} {m : Nat} {tx : Bool} {ts : ByteArray} {tp : Nat} {dp : Int} (h : RD W b s m tx ts tp dp) {g : Nat} (hg : b ≠ g) (x y z : Value) : RD (put3 W g x y z) b s m tx ts tp dp :=
  h.block (by rw [put3_size]; exact Nat.le_refl _) (put3_heap _ _ _ _ _ hg)
end Rc
end Go.Proofs.YtflhmoelenmomaaGreatDoor

/-
  Walk: the reader's expr, over what its term does.
-/
namespace Go.Proofs.YtflhmoelenmomaaGreatDoor
open Go.RowKit
namespace Rc

theorem info_x : (Tryz.prog.info? 24).map (fun i => (i.zero, i.size, i.bytes)) = some (some (.agg #[.int .i64 0, .string ⟨#[]⟩, .slice none 0 0]), 3, 48) := by kernel_rfl
theorem info_parts {P : Program} {t : TypeId} {z : Value} {a b : Nat} (h : (P.info? t).map (fun i => (i.zero, i.size, i.bytes)) = some (some z, a, b)) : ∃ i, P.info? t = some i ∧ i.zero = some z ∧ i.size = a ∧ i.bytes = b := by
  cases hi : P.info? t with
  | none => rw [hi] at h; cases h
  | some i =>
    rw [hi] at h
    simp only [Option.map_some, Option.some.injEq, Prod.mk.injEq] at h
    exact ⟨i, rfl, h.1, h.2.1, h.2.2⟩
theorem lit3 (W : World) (x y z : Value) (t : TypeId) : ∀ j u, [x, y, z][j]? = some u → (W.alloc (.cells #[x, y, z] t)).cell? ((⟨W.heap.size, 0, none⟩ : Addr).add j) = some u :=
  World.news_of_block (heap_alloc_new W _)
theorem one3 {x y z : Value} (h : x.oneCell' = true ∧ y.oneCell' = true ∧ z.oneCell' = true) : ∀ u ∈ [x, y, z], u.oneCell' = true := by
  intro u hu
  simp only [List.mem_cons, List.not_mem_nil, or_false] at hu
  rcases hu with rfl | rfl | rfl
  · exact h.1
  · exact h.2.1
  · exact h.2.2
/-- the state at a round's head -/
structure LX (W wr : World) (b : Nat) (s : ByteArray) (dp : Int) (f : Tk → Res E) (v : Value) (x : E) (acc : List E) (qs : List Q3) (t : Tk) (m : Nat) (R : Res (List E)) : Prop where
  kx : KX wr (W.heap.size + 1) v (x :: acc) qs
  rk : RK wr b s t dp
  tv : TV s t
  fq : Fq W wr b
  few : acc.length ≤ t.fin
  fuel : s.size - t.fin + 1 ≤ m
  eq : sumP s.data.toList f m t acc = R
  bx : wr.heap[W.heap.size]? = some (.cells zeroX 24 (0, 0))
theorem expr_bad1 {s : List UInt8} {f : Tk → Res E} {t : Tk} {p : Nat} {e : Int} (h : f t = .bad p e) : exprP s f t = .bad p e := by unfold exprP; rw [h]; rfl
theorem expr_bad2 {s : List UInt8} {f : Tk → Res E} {t t1 : Tk} {x : E} {p : Nat} {e : Int} (h : f t = .ok x t1) (h2 : sumP s f (s.length + 1) t1 [] = .bad p e) : exprP s f t = .bad p e := by
  unfold exprP
  rw [h]
  show (sumP s f (s.length + 1) t1 []).bind _ = _
  rw [h2]; rfl
theorem expr_ok {s : List UInt8} {f : Tk → Res E} {t t1 t2 : Tk} {x : E} {l : List E} (h : f t = .ok x t1) (h2 : sumP s f (s.length + 1) t1 [] = .ok l t2) : exprP s f t = .ok (catE x l) t2 := by
  unfold exprP
  rw [h]
  show (sumP s f (s.length + 1) t1 []).bind _ = _
  rw [h2]; rfl
/-- behind the first term: the loop's start -/
theorem LX.start {W w1 : World} {b : Nat} {s : ByteArray} {dp : Int} {f : Tk → Res E} {x : E} {t1 : Tk} {k : Int} {σ : ByteArray} {sl : Option Addr} {n cap : Nat} (hlt : b < W.heap.size)
    (hX : Fq (W.alloc (.cells zeroX 24)) w1 b) (hr : RepX w1 (fun j => (W.alloc (.cells zeroX 24)).heap.size ≤ j ∧ j < w1.heap.size) x (.agg #[.int .i64 k, .string σ, .slice sl n cap])) (hk : RK w1 b s t1 dp) (hv : TV s t1) :
    LX W (w1.alloc (.cells #[.int .i64 k, .string σ, .slice sl n cap] 24)) b s dp f (.slice (some ⟨w1.heap.size, 0, none⟩) 1 1) x [] [(.int .i64 k, .string σ, .slice sl n cap)] t1 (s.size + 1) (sumP s.data.toList f (s.size + 1) t1 []) := by
  have hsz := hX.below.size
  have hsz : W.heap.size + 1 ≤ w1.heap.size := by simpa using hsz
  have hA : Below W.heap.size W (W.alloc (.cells zeroX 24)) := (Below.refl _ _).alloc (Nat.le_refl _) _
  have h1 : Fq W w1 b := (Fq.of_below hA (Nat.le_of_lt hlt)).trans hX
  have hB : Below w1.heap.size w1 (w1.alloc (.cells #[.int .i64 k, .string σ, .slice sl n cap] 24)) := (Below.refl _ _).alloc (Nat.le_refl _) _
  refine ⟨KX.first (q := (.int .i64 k, .string σ, .slice sl n cap)) (Nat.le_refl _) hsz (by simpa using hr), hk.keep hB, hv, h1.step hlt hB, Nat.zero_le _, by omega, rfl, ?_⟩
  rw [hB.block _ (by omega), hX.block _ (by simp) (by omega)]
  exact heap_alloc_new W _
theorem LX.after {W wr w1 w2 : World} {b : Nat} {s : ByteArray} {dp : Int} {f : Tk → Res E} {v : Value} {x : E} {acc : List E} {qs : List Q3} {t : Tk} {m : Nat} {R : Res (List E)} {o : Array Value} (L : LX W wr b s dp f v x acc qs t m R) (hlt : b < W.heap.size) {t2 : Tk} (hrk : RK w1 b s t2 dp) (hfq : Fq wr w1 b)
    (hgr : (w1.alloc (.cells o 24)).grownBy w2 v.ownBlock) :
    RK w2 b s t2 dp ∧ Fq W w2 b ∧ w2.heap[W.heap.size]? = some (.cells zeroX 24 (0, 0)) ∧ (∀ j, j < w1.heap.size → v.ownBlock ≠ some j → w2.heap[j]? = w1.heap[j]?) ∧ w1.heap.size ≤ w2.heap.size ∧ W.heap.size < wr.heap.size ∧ wr.heap.size ≤ w1.heap.size := by
  have hv : ∀ j, v.ownBlock = some j → W.heap.size + 1 ≤ j ∧ j < wr.heap.size := fun j hj => L.kx.own.lt j hj
  have hW : W.heap.size < wr.heap.size := by
    rcases Nat.lt_or_ge W.heap.size wr.heap.size with h' | h'
    · exact h'
    · have hb := L.bx
      rw [Array.getElem?_eq_none h'] at hb; cases hb
  have hw1 : wr.heap.size ≤ w1.heap.size := hfq.below.size
  have hsz : w1.heap.size + 1 ≤ w2.heap.size := by have := hgr.size; simpa using this
  have hblk : ∀ j, j < w1.heap.size → v.ownBlock ≠ some j → w2.heap[j]? = w1.heap[j]? := fun j hj hne =>
    (hgr.block j (by simp; omega) (fun e => hne e.symm)).trans (heap_alloc_old w1 _ hj)
  have hb1 : v.ownBlock ≠ some b := fun e => by have := hv b e; omega
  have hb2 : v.ownBlock ≠ some W.heap.size := fun e => by have := hv _ e; omega
  refine ⟨hrk.block (by omega) (hblk b hrk.lt hb1), ?_, ?_, hblk, by omega, hW, hw1⟩
  · have h1 : Fq W w1 b := L.fq.trans hfq
    have hX : Below w1.heap.size w1 (w1.alloc (.cells o 24)) := (Below.refl _ _).alloc (Nat.le_refl _) _
    have h2 := h1.step hlt hX
    refine ⟨h2.below.grown hgr (by simp; omega) (fun j hj => by have := hv j hj; omega), fun k hk hne => ?_⟩
    rw [hblk k (by omega) (fun e => by have := hv k e; omega)]
    exact h1.block k hk hne
  · rw [hblk _ (by omega) hb2, hfq.block _ hW (by omega)]
    exact L.bx
theorem sum_stop {s : List UInt8} {f : Tk → Res E} {m : Nat} {t : Tk} {acc : List E} (h : isW t [43] = false) : sumP s f (m + 1) t acc = .ok acc t := by unfold sumP; rw [h]; rfl
theorem sum_step {s : List UInt8} {f : Tk → Res E} {m : Nat} {t : Tk} {acc : List E} (h : isW t [43] = true) : sumP s f (m + 1) t acc = (stepT s t).bind fun _ t1 => (f t1).bind fun y t2 => sumP s f m t2 (acc ++ [y]) := by rw [sumP, if_pos h]
theorem LX.next {W wr ws w1 w2 : World} {b : Nat} {s : ByteArray} {dp : Int} {f : Tk → Res E} {v : Value} {x : E} {acc : List E} {qs : List Q3} {t : Tk} {m : Nat} {R : Res (List E)} (L : LX W wr b s dp f v x acc qs t m R) (hlt : b < W.heap.size) (hp : Pg f) (hw : isW t [43] = true)
    {u : Unit} {t1 t2 : Tk} {y : E} (h1 : stepT s.data.toList t = .ok u t1) (h2 : f t1 = .ok y t2) (hv2 : TV s t2) {k : Int} {σ : ByteArray} {sl : Option Addr} {n c : Nat}
    (hfs : Fq wr ws b) (hrep : RepX w1 (fun j => ws.heap.size ≤ j ∧ j < w1.heap.size) y (.agg #[.int .i64 k, .string σ, .slice sl n c])) (hrk : RK w1 b s t2 dp) (hfq : Fq ws w1 b) {g cap : Nat}
    (hown : w2.ownsRow (W.heap.size + 1) 24 3 (.slice (some ⟨g, 0, none⟩) ((x :: acc).length + 1) cap) ((x :: acc).length + 1) (row3 qs ++ [.int .i64 k, .string σ, .slice sl n c]))
    (hgr : (w1.alloc (.cells #[.int .i64 k, .string σ, .slice sl n c] 24)).grownBy w2 v.ownBlock) (hat : v.ownBlock = some g ∨ g = w1.heap.size + 1) :
    LX W w2 b s dp f (.slice (some ⟨g, 0, none⟩) ((x :: acc).length + 1) cap) x (acc ++ [y]) (qs ++ [(.int .i64 k, .string σ, .slice sl n c)]) t2 (m - 1) R ∧ t.fin < t2.fin := by
  obtain ⟨g1, g2, g3, g4, g5, g6, g7⟩ := L.after hlt hrk (hfs.trans hfq) hgr
  have p1 := step_prog h1
  have p2 := hp _ _ _ h2
  have p3 := p1.2 p2.1
  have hf := L.fuel
  have hfe := L.few
  have hv := hv2.fin
  have hf1 := L.tv.fin
  obtain ⟨m', rfl⟩ : ∃ m', m = m' + 1 := ⟨m - 1, by omega⟩
  have hws := hfs.below.size
  have hw1 := hfq.below.size
  refine ⟨⟨?_, g1, hv2, g2, by simp; omega, by omega, ?_, g3⟩, by omega⟩
  · have := L.kx.snoc (W := w1) (W' := w2) (q := (.int .i64 k, .string σ, .slice sl n c)) (t := y) (g := g) (cap := cap) (H := w1.heap.size + 1) g7 (fun j hj1 hj2 => ?_) (by omega) (hrep.sub fun j hj => ⟨by omega, hj.2⟩) (Nat.le_succ _) ⟨g5, g4⟩ hat hown
    · exact this
    · rw [hfq.block j (by omega) (by omega), hfs.block j hj2 (by omega)]
  · rw [← L.eq, sum_step hw, h1]
    show _ = (f t1).bind _
    rw [h2]
    rfl
/-- all terms are read: one -/
theorem LX.done1 {W wr : World} {b : Nat} {s : ByteArray} {dp : Int} {f : Tk → Res E} {v : Value} {x : E} {acc : List E} {qs : List Q3} {t : Tk} {m : Nat} {R : Res (List E)} (L : LX W wr b s dp f v x acc qs t m R) (hlt : b < W.heap.size) (h0 : acc = []) :
    ∃ g cap k σ sl n c, v = .slice (some ⟨g, 0, none⟩) 1 cap ∧ wr.cell? ⟨g, 0, none⟩ = some (.int .i64 k) ∧ wr.cell? ⟨g, 1, none⟩ = some (.string σ) ∧ wr.cell? ⟨g, 2, none⟩ = some (.slice sl n c) ∧ 1 ≤ cap ∧
      valE W (catE x acc) (.returned (.agg #[.int .i64 k, .string σ, .slice sl n c])) (put3 wr W.heap.size (.int .i64 k) (.string σ) (.slice sl n c)) ∧ RK (put3 wr W.heap.size (.int .i64 k) (.string σ) (.slice sl n c)) b s t dp ∧ Fq W (put3 wr W.heap.size (.int .i64 k) (.string σ) (.slice sl n c)) b := by
  subst h0
  have k1 := L.kx
  obtain ⟨q, rfl⟩ : ∃ q, qs = [q] := by
    have := k1.len
    match qs, this with
    | [q], _ => exact ⟨q, rfl⟩
  have hrep := k1.rep 0 q x rfl rfl
  obtain ⟨k, σ, sl, n, c, he⟩ := hrep.vals
  obtain ⟨q0, q1, q2⟩ := q
  simp only [Value.agg.injEq, Array.mk.injEq, List.cons.injEq, and_true] at he
  obtain ⟨rfl, rfl, rfl⟩ := he
  obtain ⟨g, cap, rfl, hB, hg, hc⟩ := own_row3 (l := [(.int .i64 k, .string σ, .slice sl n c)]) k1.own (by simp)
  obtain ⟨c0, c1, c2⟩ := hc 0 _ rfl
  simp only [Nat.zero_add, Nat.zero_mul] at c0 c1 c2
  refine ⟨g, cap, k, σ, sl, n, c, rfl, c0, c1, c2, own_room k1.own, ⟨k, σ, sl, n, c, rfl, ?_⟩, L.rk.far (by omega) _ _ _, L.fq.put3 hlt (Nat.le_refl _) _ _ _⟩
  show RepX _ _ x _
  exact hrep.move fun j hj => ⟨⟨by omega, by rw [put3_size]; exact hj.2.1⟩, put3_heap _ _ _ _ _ (by omega)⟩
/-- all terms are read: more than one -/
theorem LX.done2 {W wr : World} {b : Nat} {s : ByteArray} {dp : Int} {f : Tk → Res E} {v : Value} {x : E} {acc : List E} {qs : List Q3} {t : Tk} {m : Nat} {R : Res (List E)} (L : LX W wr b s dp f v x acc qs t m R) (hlt : b < W.heap.size) (h0 : acc ≠ []) :
    ∃ sl cap, v = .slice sl (acc.length + 1) cap ∧ valE W (catE x acc) (.returned (.agg #[.int .i64 3, .string ⟨#[]⟩, .slice sl (acc.length + 1) cap])) (put3 wr W.heap.size (.int .i64 3) (.string ⟨#[]⟩) (.slice sl (acc.length + 1) cap)) ∧
      RK (put3 wr W.heap.size (.int .i64 3) (.string ⟨#[]⟩) (.slice sl (acc.length + 1) cap)) b s t dp ∧ Fq W (put3 wr W.heap.size (.int .i64 3) (.string ⟨#[]⟩) (.slice sl (acc.length + 1) cap)) b := by
  obtain ⟨sl, cap, rfl⟩ := own_form L.kx.own
  have hl := L.kx.list 3 ⟨#[]⟩
  refine ⟨sl, cap, rfl, ⟨3, _, _, _, _, rfl, ?_⟩, L.rk.far (by have := L.rk.lt; omega) _ _ _, L.fq.put3 hlt (Nat.le_refl _) _ _ _⟩
  unfold catE
  rw [if_neg h0]
  exact hl.move fun j hj => ⟨⟨by omega, by rw [put3_size]; exact hj.2⟩, put3_heap _ _ _ _ _ (by omega)⟩
theorem own_alloc {wr w1 : World} {B n b : Nat} {v : Value} {xs : List Value} (k : wr.ownsRow B 24 3 v n xs) (hb : b < B) (hfq : Fq wr w1 b) (o : Obj) : (w1.alloc o).ownsRow B 24 3 v n xs :=
  (own_block k (fun j hj => hfq.block j (k.lt j hj).2 (by have := (k.lt j hj).1; omega))).alloc o
end Rc
end Go.Proofs.YtflhmoelenmomaaGreatDoor

/-
  Walk: the reader's expr.
-/
namespace Go.Proofs.YtflhmoelenmomaaGreatDoor
open Go.RowKit
namespace Rc

end Rc
end Go.Proofs.YtflhmoelenmomaaGreatDoor

/-
  The reader's term: its deferred call, its state, a drawn region that holds reads and a reading.
-/
namespace Go.Proofs.YtflhmoelenmomaaGreatDoor
open Go.RowKit
namespace Rc

section
variable {W wr w1 : World} {b : Nat} {s : ByteArray} {dp : Int} {t t1 : Tk}
end
/-- three cells that a call has made: an expression that is read -/
structure BX (W wr : World) (g : Nat) (x : E) (k : Int) (σ : ByteArray) (sl : Option Addr) (n cap : Nat) : Prop where
  lo : W.heap.size + 2 ≤ g
  c0 : wr.cell? ⟨g, 0, none⟩ = some (.int .i64 k)
  c1 : wr.cell? ⟨g, 1, none⟩ = some (.string σ)
  c2 : wr.cell? ⟨g, 2, none⟩ = some (.slice sl n cap)
  rep : RepX wr (fun j => W.heap.size + 2 ≤ j ∧ j < wr.heap.size) x (.agg #[.int .i64 k, .string σ, .slice sl n cap])
section
variable {W wr w1 : World} {b g : Nat} {x : E} {k : Int} {σ : ByteArray} {sl : Option Addr} {n cap : Nat}
theorem BX.lt (h : BX W wr g x k σ sl n cap) : g < wr.heap.size := World.block_lt_of_cell? wr _ h.c0
theorem BX.keep (h : BX W wr g x k σ sl n cap) (hlt : b < W.heap.size) (hf : Fq wr w1 b) : BX W w1 g x k σ sl n cap := by
  have hl := h.lt
  have hlo := h.lo
  have hg := hf.block g hl (by omega)
  have hs := hf.below.size
  exact ⟨h.lo, (World.cell?_of_block hg).trans h.c0, (World.cell?_of_block hg).trans h.c1, (World.cell?_of_block hg).trans h.c2, h.rep.move fun j hj => ⟨⟨hj.1, by omega⟩, hf.block j hj.2 (by omega)⟩⟩
/-- made: an allocation with a value -/
theorem BX.made (hlo : W.heap.size + 2 ≤ wr.heap.size) (hr : RepX wr (fun j => W.heap.size + 2 ≤ j ∧ j < wr.heap.size) x (.agg #[.int .i64 k, .string σ, .slice sl n cap])) :
    BX W (wr.alloc (.cells #[.int .i64 k, .string σ, .slice sl n cap] 24)) wr.heap.size x k σ sl n cap := by
  have hn := heap_alloc_new wr (.cells #[.int .i64 k, .string σ, .slice sl n cap] 24)
  refine ⟨hlo, by simp only [World.cell?, hn]; rfl, by simp only [World.cell?, hn]; rfl, by simp only [World.cell?, hn]; rfl, hr.move fun j hj => ⟨⟨hj.1, ?_⟩, heap_alloc_old wr _ hj.2⟩⟩
  simp; omega
theorem fq_alloc (wr : World) (b : Nat) (hb : b ≤ wr.heap.size) (o : Obj) : Fq wr (wr.alloc o) b := Fq.of_below ((Below.refl _ _).alloc (Nat.le_refl _) _) hb
end
/-- a world that is wr, but for block b and what is new -/
noncomputable def kq (wr : World) (b : Nat) (Y : World) : World := open Classical in if ∀ j, j < wr.heap.size → j ≠ b → Y.heap[j]? = wr.heap[j]? then Y else wr
theorem kq_spec (wr : World) (b : Nat) (Y : World) : ∀ j, j < wr.heap.size → j ≠ b → (kq wr b Y).heap[j]? = wr.heap[j]? := by
  unfold kq
  split
  · assumption
  · exact fun _ _ _ => rfl
theorem kq_cell {wr : World} {b g o : Nat} {v : Value} (h : wr.cell? ⟨g, o, none⟩ = some v) (hne : g ≠ b) : ∀ Y, (kq wr b Y).cell? ⟨g, o, none⟩ = some v :=
  fun Y => (World.cell?_of_block (kq_spec wr b Y g (World.block_lt_of_cell? wr _ h) hne)).trans h
theorem kq_of {wr Y : World} {b : Nat} (h : ∀ j, j < wr.heap.size → j ≠ b → Y.heap[j]? = wr.heap[j]?) : Y = kq wr b Y := by
  unfold kq
  rw [if_pos h]
theorem kq_drew (wr : World) (b : Nat) : ∃ Y, wr.drew = kq wr b Y := ⟨wr.drew, kq_of fun _ _ _ => rfl⟩
end Rc
end Go.Proofs.YtflhmoelenmomaaGreatDoor

/-
  Walk: the reader's term: texts, names, brackets, faults. (printed by gen_RcU.py)
-/
namespace Go.Proofs.YtflhmoelenmomaaGreatDoor
open Go.RowKit
namespace Rc

theorem res_or {α : Type} (r : Res α) : (∃ p f, r = .bad p f) ∨ ∃ x t, r = .ok x t := by
  cases r with
  | ok x t => exact .inr ⟨x, t, rfl⟩
  | bad p f => exact .inl ⟨p, f, rfl⟩
theorem bindE {α β : Type} {R : Res β} {r : Res α} {F : α → Tk → Res β} {x : α} {t : Tk} (h : R = r.bind F) (hr : r = .ok x t) : R = F x t := by rw [h, hr]; rfl
theorem bindB {α β : Type} {R : Res β} {r : Res α} {F : α → Tk → Res β} {p : Nat} {f : Int} (h : R = r.bind F) (hr : r = .bad p f) : R = .bad p f := by rw [h, hr]; rfl
abbrev l3 : List (List UInt8) := [[40], [105, 102], [108, 101, 116]]
theorem isW_full {s : ByteArray} {t : Tk} {w : List UInt8} (hv : TV s t) (h3 : t.kind ≠ 3) (hw : w ≠ []) : isW t w = (t.s.data.toList == w) := by
  cases hc : t.s.data.toList == w with
  | true => exact isW_eq hv h3 (by simpa using hc) hw
  | false => exact isW_ne (by simpa using hc)
theorem l3_has {s : ByteArray} {t : Tk} (hv : TV s t) (h3 : t.kind ≠ 3) : l3.contains t.s.data.toList = (isW t [40] || isW t [105, 102] || isW t [108, 101, 116]) := by
  rw [isW_full hv h3 (by decide), isW_full hv h3 (by decide), isW_full hv h3 (by decide)]
  simp only [l3, List.contains_cons, List.contains_nil, Bool.or_false, Bool.or_assoc]
theorem isW_two {t : Tk} {v w : List UInt8} (h : isW t v = true) (hn : v ≠ w) : isW t w = false := by
  cases hc : isW t w with
  | false => rfl
  | true =>
    simp only [isW, Bool.and_eq_true, beq_iff_eq] at h hc
    exact absurd (h.2.symm.trans hc.2) hn
theorem isW_no3 {t : Tk} {w : List UInt8} (h : isW t w = true) : t.kind ≠ 3 := by
  intro e
  simp [isW, e] at h
theorem term_t3 {s : List UInt8} {h : Nat} {t : Tk} (hk : t.kind = 3) : termP s (h + 1) t = (stepT s t).bind fun _ t1 => .ok (.mk 1 t.s []) t1 := by
  unfold termP
  have : termOk t = true := by simp [termOk, hk]
  rw [this, if_neg (by decide)]
  simp only [hk, if_true]
theorem term_par {s : List UInt8} {h : Nat} {t : Tk} (hw : isW t [40] = true) : termP s (h + 1) t = (stepT s t).bind fun _ t1 => (exprP s (termP s h) t1).bind fun x t2 => (wantT s [41] t2).bind fun _ t3 => .ok x t3 := by
  unfold termP
  have : termOk t = true := by simp [termOk, hw]
  rw [this, if_neg (by decide)]
  simp only [isW_no3 hw, if_false, hw, if_true]
theorem term_if {s : List UInt8} {h : Nat} {t : Tk} (hw : isW t [105, 102] = true) : termP s (h + 1) t = (stepT s t).bind fun _ t1 => (exprP s (termP s h) t1).bind fun a t2 => (wantT s [61] t2).bind fun _ t3 => (exprP s (termP s h) t3).bind fun b t4 => (wantT s [116, 104, 101, 110] t4).bind fun _ t5 =>
    (exprP s (termP s h) t5).bind fun c t6 => (wantT s [101, 108, 115, 101] t6).bind fun _ t7 => (exprP s (termP s h) t7).bind fun d t8 => .ok (.mk 4 ⟨#[]⟩ [a, b, c, d]) t8 := by
  have h1 := isW_two (w := [40]) hw (by decide)
  unfold termP
  have : termOk t = true := by simp [termOk, hw]
  rw [this, if_neg (by decide)]
  simp only [isW_no3 hw, if_false, h1, hw, if_true, Bool.false_eq_true]
theorem term_let {s : List UInt8} {h : Nat} {t : Tk} (hw : isW t [108, 101, 116] = true) : termP s (h + 1) t = (stepT s t).bind fun _ t1 => (nameT s t1).bind fun nm t2 => (wantT s [61] t2).bind fun _ t3 => (exprP s (termP s h) t3).bind fun a t4 => (wantT s [105, 110] t4).bind fun _ t5 =>
    (exprP s (termP s h) t5).bind fun b t6 => .ok (.mk 5 nm [a, b]) t6 := by
  have h1 := isW_two (w := [40]) hw (by decide)
  have h2 := isW_two (w := [105, 102]) hw (by decide)
  unfold termP
  have : termOk t = true := by simp [termOk, hw]
  rw [this, if_neg (by decide)]
  simp only [isW_no3 hw, if_false, h1, h2, hw, if_true, Bool.false_eq_true]
  congr 1
  funext _ t1
  unfold nameT
  by_cases hn : t1.kind = 1 ∧ nameL t1.s.data.toList = true
  · rw [if_pos hn, if_pos (by simp [hn])]
    cases stepT s t1 <;> rfl
  · rw [if_neg hn, if_neg (by simpa using hn)]
    rfl
theorem term_name {s : List UInt8} {h : Nat} {t : Tk} (hk : t.kind = 1) (hn : nameL t.s.data.toList = true) (h1 : isW t [40] = false) (h2 : isW t [105, 102] = false) (h3 : isW t [108, 101, 116] = false) : termP s (h + 1) t = (stepT s t).bind fun _ t1 => .ok (.mk 2 t.s []) t1 := by
  unfold termP
  have : termOk t = true := by simp [termOk, hk, hn]
  rw [this, if_neg (by decide)]
  have h0 : ¬ t.kind = 3 := by omega
  simp only [h0, if_false, h1, h2, h3, Bool.false_eq_true]
theorem term_no {s : List UInt8} {t : Tk} (hok : termOk t = false) : ∀ h, termP s h t = .bad t.pl 50
  | 0 => by unfold termP; rw [hok]; rfl
  | h + 1 => by unfold termP; rw [if_pos hok]
theorem term_deep {s : List UInt8} {t : Tk} (hok : termOk t = true) : termP s 0 t = .bad t.pl 4 := by unfold termP; rw [if_pos hok]
end Rc
end Go.Proofs.YtflhmoelenmomaaGreatDoor

/-
  Walk: the reader's term: lets, ifs. (printed by gen_RcU.py)
-/
namespace Go.Proofs.YtflhmoelenmomaaGreatDoor
open Go.RowKit
namespace Rc

/-- an expression whose kids have just been laid -/
theorem rep_lit {W : World} {lo : Nat} (hlo : lo ≤ W.heap.size) (kind : Int) (s : ByteArray) (ts : List E) (qs : List Q3) (hlen : qs.length = ts.length) (hr : ∀ (i : Nat) (q : Q3) (t : E), qs[i]? = some q → ts[i]? = some t → RepX W (fun j => lo ≤ j ∧ j < W.heap.size) t (.agg #[q.1, q.2.1, q.2.2])) :
    RepX (W.alloc (.cells (row3 qs).toArray 24)) (fun j => lo ≤ j ∧ j < (W.alloc (.cells (row3 qs).toArray 24)).heap.size) (.mk kind s ts) (.agg #[.int .i64 kind, .string s, .slice (some ⟨W.heap.size, 0, none⟩) ts.length ts.length]) := by
  have hn := heap_alloc_new W (.cells (row3 qs).toArray 24)
  have hc : ∀ (i : Nat) (v : Value), (row3 qs)[i]? = some v → (W.alloc (.cells (row3 qs).toArray 24)).cell? ⟨W.heap.size, i, none⟩ = some v := fun i v hv => by
    simp only [World.cell?, hn]
    simpa using hv
  refine .mk kind s ts _ _ (fun i => (qs.getD i (.nilIface, .nilIface, .nilIface)).1) (fun i => (qs.getD i (.nilIface, .nilIface, .nilIface)).2.1) (fun i => (qs.getD i (.nilIface, .nilIface, .nilIface)).2.2) (Nat.le_refl _) (fun i t ht => ?_) (fun i t ht => ?_)
  · have hi : i < qs.length := by rw [hlen]; exact (List.getElem?_eq_some_iff.1 ht).1
    have hq : qs[i]? = some qs[i] := List.getElem?_eq_getElem hi
    rw [List.getD_eq_getElem?_getD, hq]
    obtain ⟨h1, h2, h3⟩ := row3_get qs i _ hq
    refine ⟨W.heap.size, 0, rfl, ⟨hlo, by simp⟩, ?_, ?_, ?_⟩
    · rw [Nat.zero_add]; exact hc _ _ h1
    · rw [Nat.zero_add]; exact hc _ _ h2
    · rw [Nat.zero_add]; exact hc _ _ h3
  · have hi : i < qs.length := by rw [hlen]; exact (List.getElem?_eq_some_iff.1 ht).1
    have hq : qs[i]? = some qs[i] := List.getElem?_eq_getElem hi
    rw [List.getD_eq_getElem?_getD, hq]
    exact (hr i _ t hq ht).move fun b hb => ⟨⟨hb.1, by have := hb.2; simp; omega⟩, heap_alloc_old W _ hb.2⟩
theorem lits2 {W : World} {S : Nat → Prop} {x1 x2 : E} {q1 q2 : Q3} (h1 : RepX W S x1 (.agg #[q1.1, q1.2.1, q1.2.2])) (h2 : RepX W S x2 (.agg #[q2.1, q2.2.1, q2.2.2])) :
    ∀ (i : Nat) (q : Q3) (t : E), [q1, q2][i]? = some q → [x1, x2][i]? = some t → RepX W S t (.agg #[q.1, q.2.1, q.2.2])
  | 0, q, t, hq, ht => by cases hq; cases ht; exact h1
  | 1, q, t, hq, ht => by cases hq; cases ht; exact h2
  | i + 2, q, t, hq, ht => by simp at hq
theorem lits4 {W : World} {S : Nat → Prop} {x1 x2 x3 x4 : E} {q1 q2 q3 q4 : Q3} (h1 : RepX W S x1 (.agg #[q1.1, q1.2.1, q1.2.2])) (h2 : RepX W S x2 (.agg #[q2.1, q2.2.1, q2.2.2])) (h3 : RepX W S x3 (.agg #[q3.1, q3.2.1, q3.2.2])) (h4 : RepX W S x4 (.agg #[q4.1, q4.2.1, q4.2.2])) :
    ∀ (i : Nat) (q : Q3) (t : E), [q1, q2, q3, q4][i]? = some q → [x1, x2, x3, x4][i]? = some t → RepX W S t (.agg #[q.1, q.2.1, q.2.2])
  | 0, q, t, hq, ht => by cases hq; cases ht; exact h1
  | 1, q, t, hq, ht => by cases hq; cases ht; exact h2
  | 2, q, t, hq, ht => by cases hq; cases ht; exact h3
  | 3, q, t, hq, ht => by cases hq; cases ht; exact h4
  | i + 4, q, t, hq, ht => by simp at hq
theorem BX.drewN {W wr : World} {g : Nat} {x : E} {k : Int} {σ : ByteArray} {sl : Option Addr} {n cap : Nat} (h : BX W wr g x k σ sl n cap) (m : Nat) : BX W (wr.drewN m) g x k σ sl n cap :=
  ⟨h.lo, h.c0, h.c1, h.c2, RepX.move (W := wr) (W' := wr.drewN m) (S := fun j => W.heap.size + 2 ≤ j ∧ j < wr.heap.size) (S' := fun j => W.heap.size + 2 ≤ j ∧ j < (wr.drewN m).heap.size) (fun _ hj => ⟨hj, rfl⟩) h.rep⟩
theorem leaves_res {fn : Func} {tmps tmps' : Array Value} {R : Ending → World → Prop} (h : results fn tmps' = results fn tmps) : ∀ (ds : List Deferred) (u : FrameMode) (w : World), Leaves Tryz.prog fn tmps' R ds u w → Leaves Tryz.prog fn tmps R ds u w
  | [], .returning, w, ⟨v, h1, h2⟩ => ⟨v, by rw [← h]; exact h1, h2⟩
  | [], .panicking _, _, hl => hl
  | [], .run, _, hl => hl
  | d :: ds, u, w, ⟨h1, fv, cap, f, args, h2, h3, h4⟩ => ⟨h1, fv, cap, f, args, h2, h3, h4.mono fun e u' w' hx => by
    cases e with
    | returned v => exact leaves_res h ds _ _ hx
    | panicked c => exact leaves_res h ds _ _ hx
    | outgrown => exact hx⟩
end Rc
end Go.Proofs.YtflhmoelenmomaaGreatDoor

/-
  Terms at every depth; fields in memory; the state of a source's reading.
-/
namespace Go.Proofs.YtflhmoelenmomaaGreatDoor
open Go.RowKit
namespace Rc

theorem info_f : (Tryz.prog.info? 35).map (fun i => (i.zero, i.size, i.bytes)) = some (some (.agg #[.int .i64 0, .int .i64 0, .string ⟨#[]⟩, .slice none 0 0, .int .i64 0, .string ⟨#[]⟩, .slice none 0 0]), 7, 104) := by kernel_rfl
theorem info_s : (Tryz.prog.info? 33).map (fun i => (i.zero, i.size, i.bytes)) = some (some (.agg #[.int .i64 0, .string ⟨#[]⟩, .slice none 0 0, .int .i64 0, .string ⟨#[]⟩, .slice none 0 0, .slice none 0 0]), 7, 120) := by kernel_rfl
abbrev F7 := Value × Q3 × Q3
def cells7 (q : F7) : List Value := [q.1, q.2.1.1, q.2.1.2.1, q.2.1.2.2, q.2.2.1, q.2.2.2.1, q.2.2.2.2]
def row7 (l : List F7) : List Value := l.flatMap cells7
theorem row7_len : ∀ l, (row7 l).length = l.length * 7
  | [] => rfl
  | q :: l => by have := row7_len l; simp only [row7, cells7, List.flatMap_cons, List.length_append, List.length_cons, List.length_nil] at this ⊢; omega
theorem row7_get : ∀ (l : List F7) (i : Nat) (q : F7), l[i]? = some q → ∀ j, j < 7 → (row7 l)[i * 7 + j]? = (cells7 q)[j]?
  | [], i, q, h => by simp at h
  | r :: l, 0, q, h => by
    intro j hj
    simp at h
    subst h
    rw [Nat.zero_mul, Nat.zero_add, row7, List.flatMap_cons, List.getElem?_append_left (by simpa [cells7] using hj)]
  | r :: l, i + 1, q, h => by
    intro j hj
    have ih := row7_get l i q (by simpa using h) j hj
    rw [show (i + 1) * 7 + j = (i * 7 + j) + 7 by omega, row7, List.flatMap_cons, List.getElem?_append_right (by simp [cells7])]
    rw [show i * 7 + j + 7 - (cells7 r).length = i * 7 + j by simp [cells7]]
    exact ih
theorem row7_snoc (l : List F7) (q : F7) : row7 (l ++ [q]) = row7 l ++ cells7 q := by simp [row7]
/-- the value q is the field t -/
def RepF (W : World) (S : Nat → Prop) (t : Int × E × E) (q : F7) : Prop := q.1 = .int .i64 t.1 ∧ RepX W S t.2.1 (.agg #[q.2.1.1, q.2.1.2.1, q.2.1.2.2]) ∧ RepX W S t.2.2 (.agg #[q.2.2.1, q.2.2.2.1, q.2.2.2.2])
theorem RepF.move {W W' : World} {S S' : Nat → Prop} (h : ∀ b, S b → S' b ∧ W'.heap[b]? = W.heap[b]?) {t : Int × E × E} {q : F7} (hr : RepF W S t q) : RepF W' S' t q := ⟨hr.1, hr.2.1.move h, hr.2.2.move h⟩
theorem RepF.one {W : World} {S : Nat → Prop} {t : Int × E × E} {q : F7} (h : RepF W S t q) : ∀ u ∈ cells7 q, u.oneCell' = true := by
  have h0 : q.1.oneCell' = true := by rw [h.1]; rfl
  have h1 := h.2.1.one
  have h2 := h.2.2.one
  intro u hu
  simp only [cells7, List.mem_cons, List.not_mem_nil, or_false] at hu
  rcases hu with rfl | rfl | rfl | rfl | rfl | rfl | rfl
  · exact h0
  · exact h1.1
  · exact h1.2.1
  · exact h1.2.2
  · exact h2.1
  · exact h2.2.1
  · exact h2.2.2
/-- the fields that are read -/
structure KF (W : World) (B : Nat) (v : Value) (ts : List (Int × E × E)) (qs : List F7) : Prop where
  len : qs.length = ts.length
  own : W.ownsRow B 35 7 v ts.length (row7 qs)
  nil : ts.length = 0 → v = .slice none 0 0
  rep : ∀ (i : Nat) (q : F7) (t : Int × E × E), qs[i]? = some q → ts[i]? = some t → RepF W (fun k => B ≤ k ∧ k < W.heap.size ∧ v.ownBlock ≠ some k) t q
theorem KF.start (W : World) (B : Nat) : KF W B (.slice none 0 0) [] [] := ⟨rfl, World.ownsRow_nil _ _ _ _, fun _ => rfl, fun i q t hq => by simp at hq⟩
theorem KF.same {W W' : World} {B : Nat} {v : Value} {ts : List (Int × E × E)} {qs : List F7} (k : KF W B v ts qs) (hs : W.heap.size ≤ W'.heap.size) (hb : ∀ j, B ≤ j → j < W.heap.size → W'.heap[j]? = W.heap[j]?) : KF W' B v ts qs :=
  ⟨k.len, own_block k.own (fun j hj => hb j (k.own.lt j hj).1 (k.own.lt j hj).2), k.nil, fun i q t hq ht =>
    (k.rep i q t hq ht).move fun b hS => ⟨⟨hS.1, Nat.lt_of_lt_of_le hS.2.1 hs, hS.2.2⟩, hb b hS.1 hS.2.1⟩⟩
/-- one field more -/
theorem KF.snoc {W0 W W' : World} {B : Nat} {v : Value} {ts : List (Int × E × E)} {qs : List F7} (k : KF W0 B v ts qs) (hs : W0.heap.size ≤ W.heap.size) (hb : ∀ j, B ≤ j → j < W0.heap.size → W.heap[j]? = W0.heap[j]?) (hB : B ≤ W0.heap.size)
    {q : F7} {t : Int × E × E} (hr : RepF W (fun k => W0.heap.size ≤ k ∧ k < W.heap.size) t q)
    {g cap : Nat} {H : Nat} (hH : W.heap.size ≤ H) (hg : W.heap.size ≤ W'.heap.size ∧ ∀ j, j < W.heap.size → v.ownBlock ≠ some j → W'.heap[j]? = W.heap[j]?)
    (hat : v.ownBlock = some g ∨ g = H) (hown : W'.ownsRow B 35 7 (.slice (some ⟨g, 0, none⟩) (ts.length + 1) cap) (ts.length + 1) (row7 qs ++ cells7 q)) :
    KF W' B (.slice (some ⟨g, 0, none⟩) (ts.length + 1) cap) (ts ++ [t]) (qs ++ [q]) := by
  have hv : ∀ j, v.ownBlock = some j → B ≤ j ∧ j < W0.heap.size := fun j hj => k.own.lt j hj
  have hob : (Value.slice (some ⟨g, 0, none⟩) (ts.length + 1) cap).ownBlock = some g := rfl
  refine ⟨by simp [k.len], ?_, fun h => by simp at h, fun i q' t' hq' ht' => ?_⟩
  · rw [List.length_append, List.length_singleton, row7_snoc]
    exact hown
  · rcases Nat.lt_or_ge i qs.length with hi | hi
    · rw [List.getElem?_append_left hi] at hq'
      rw [List.getElem?_append_left (by rw [← k.len]; exact hi)] at ht'
      refine (k.rep i q' t' hq' ht').move fun b hS => ⟨⟨hS.1, by omega, fun e => ?_⟩, ?_⟩
      · rw [hg.2 b (by omega) hS.2.2, hb b hS.1 hS.2.1]
      · rw [hob] at e
        cases e
        rcases hat with hat | hat
        · exact hS.2.2 hat
        · omega
    · have hi' : i < (qs ++ [q]).length := (List.getElem?_eq_some_iff.1 hq').1
      simp at hi'
      obtain rfl : i = qs.length := by omega
      simp at hq'
      rw [k.len] at ht'
      simp at ht'
      subst hq' ht'
      refine hr.move fun b hS => ⟨⟨by omega, by omega, fun e => ?_⟩, hg.2 b hS.2 (fun e => ?_)⟩
      · have := hv b e; omega
      · rw [hob] at e
        cases e
        rcases hat with hat | hat
        · have := hv g hat; omega
        · omega
/-- a slice of fields in memory -/
def FS (W : World) (S : Nat → Prop) (sl : Option Addr) (n : Nat) (ts : List (Int × E × E)) : Prop := n = ts.length ∧ ∀ (i : Nat) (t : Int × E × E), ts[i]? = some t → ∃ b o q, sl = some ⟨b, o, none⟩ ∧ S b ∧ RepF W S t q ∧ ∀ j v, (cells7 q)[j]? = some v → W.cell? ⟨b, o + i * 7 + j, none⟩ = some v
theorem FS.move {W W' : World} {S S' : Nat → Prop} (h : ∀ b, S b → S' b ∧ W'.heap[b]? = W.heap[b]?) {sl : Option Addr} {n : Nat} {ts : List (Int × E × E)} (hr : FS W S sl n ts) : FS W' S' sl n ts := by
  refine ⟨hr.1, fun i t ht => ?_⟩
  obtain ⟨b, o, q, h1, h2, h3, h4⟩ := hr.2 i t ht
  exact ⟨b, o, q, h1, (h b h2).1, h3.move h, fun j v hv => (World.cell?_of_block (h b h2).2).trans (h4 j v hv)⟩
theorem KF.fs {W : World} {B : Nat} {sl : Option Addr} {n cap : Nat} {ts : List (Int × E × E)} {qs : List F7} (k : KF W B (.slice sl n cap) ts qs) : FS W (fun k => B ≤ k ∧ k < W.heap.size) sl n ts ∧ n ≤ cap := by
  rcases Nat.eq_zero_or_pos ts.length with h0 | h0
  · have := k.nil h0
    cases this
    exact ⟨⟨h0.symm, fun i t ht => by rw [List.length_eq_zero_iff.1 h0] at ht; simp at ht⟩, Nat.le_refl _⟩
  · obtain ⟨g, cap', he, hB, hlt⟩ := k.own.form h0
    cases he
    refine ⟨⟨rfl, fun i t ht => ?_⟩, own_room k.own⟩
    have hi : i < qs.length := by rw [k.len]; exact (List.getElem?_eq_some_iff.1 ht).1
    have hq : qs[i]? = some qs[i] := List.getElem?_eq_getElem hi
    refine ⟨g, 0, qs[i], rfl, ⟨hB, hlt⟩, (k.rep i _ t hq ht).move fun b hS => ⟨⟨hS.1, hS.2.1⟩, rfl⟩, fun j v hv => ?_⟩
    have hj : j < 7 := (List.getElem?_eq_some_iff.1 hv).1
    have hg := row7_get qs i _ hq j hj
    have := k.own.cells (g := g) rfl (i * 7 + j) v (by rw [hg]; exact hv)
    have hadd : ∀ n, (⟨g, 0, none⟩ : Addr).add n = ⟨g, n, none⟩ := fun n => by unfold Addr.add; split <;> simp_all
    rw [hadd] at this
    rw [Nat.zero_add]
    exact this
/-- the value v is the source x -/
def RepR (W : World) (S : Nat → Prop) (x : Src) (v : Value) : Prop := ∃ (k1 : Int) (σ1 : ByteArray) (sl1 : Option Addr) (n1 c1 : Nat) (k2 : Int) (σ2 : ByteArray) (sl2 : Option Addr) (n2 c2 : Nat) (sl : Option Addr) (n c : Nat),
  v = .agg #[.int .i64 k1, .string σ1, .slice sl1 n1 c1, .int .i64 k2, .string σ2, .slice sl2 n2 c2, .slice sl n c] ∧ RepX W S x.name (.agg #[.int .i64 k1, .string σ1, .slice sl1 n1 c1]) ∧ RepX W S x.version (.agg #[.int .i64 k2, .string σ2, .slice sl2 n2 c2]) ∧ FS W S sl n x.fields ∧ n ≤ c
theorem RepR.move {W W' : World} {S S' : Nat → Prop} (h : ∀ b, S b → S' b ∧ W'.heap[b]? = W.heap[b]?) {x : Src} {v : Value} (hr : RepR W S x v) : RepR W' S' x v := by
  obtain ⟨k1, σ1, sl1, n1, c1, k2, σ2, sl2, n2, c2, sl, n, c, h1, h2, h3, h4, h5⟩ := hr
  exact ⟨k1, σ1, sl1, n1, c1, k2, σ2, sl2, n2, c2, sl, n, c, h1, h2.move h, h3.move h, h4.move h, h5⟩
end Rc
end Go.Proofs.YtflhmoelenmomaaGreatDoor

/-
  Plain: what an expression weighs, whether it can be, its text.
-/
namespace Go.Proofs.YtflhmoelenmomaaGreatDoor
open Go.RowKit
namespace Rc

theorem Eind {P : E → Prop} (step : ∀ (k : Int) (s : ByteArray) (ks : List E), (∀ x ∈ ks, P x) → P (.mk k s ks)) : ∀ x, P x := by
  have : ∀ (h : Nat) (x : E), SizeOf.sizeOf x < h → P x := by
    intro h
    induction h with
    | zero => intro x hx; omega
    | succ h ih =>
      intro x hx
      cases x with
      | mk k s ks =>
        refine step k s ks fun y hy => ih y ?_
        have := List.sizeOf_lt_of_mem hy
        simp only [E.mk.sizeOf_spec] at hx
        omega
  exact fun x => this _ x (Nat.lt_succ_self _)

/-- strings and kids of few bytes; numbers of 64 bits -/
inductive Sml : E → Prop
  | mk (k : Int) (s : ByteArray) (ks : List E) (hk1 : -9223372036854775808 ≤ k) (hk2 : k ≤ 9223372036854775807) (hs : s.size ≤ 140737488355328) (hl : ks.length ≤ 140737488355328) (hk : ∀ x ∈ ks, Sml x) : Sml (.mk k s ks)
def SmlS (x : Src) : Prop := Sml x.name ∧ Sml x.version ∧ x.fields.length ≤ 140737488355328 ∧ ∀ f ∈ x.fields, (-9223372036854775808 ≤ f.1 ∧ f.1 ≤ 9223372036854775807) ∧ Sml f.2.1 ∧ Sml f.2.2

/-! weight -/
mutual
/-- what is left when an expression's parts and bytes are taken away -/
def weigh : E → Int → Nat → Int
  | .mk _ s ks, left, d => if 200 < d then -1 else weighs ks (left - 1 - s.size) (d + 1)
def weighs : List E → Int → Nat → Int
  | [], left, _ => left
  | x :: l, left, d => if left < 0 then left else weighs l (weigh x left d) d
end
mutual
def sizeW : E → Nat
  | .mk _ s ks => 1 + s.size + sizeWs ks
def sizeWs : List E → Nat
  | [] => 0
  | x :: l => sizeW x + sizeWs l
end
theorem weighs_neg {l : List E} {m : Int} {d : Nat} (h : m < 0) : weighs l m d = m := by
  cases l with
  | nil => rw [weighs]
  | cons x l => rw [weighs, if_pos h]
theorem weighs_le (l : List E) (ih : ∀ x ∈ l, ∀ (m : Int) (d : Nat), weigh x m d ≤ max m (-1) ∧ (0 ≤ weigh x m d → weigh x m d + sizeW x ≤ m)) (m : Int) (d : Nat) : weighs l m d ≤ max m (-1) ∧ (0 ≤ weighs l m d → weighs l m d + sizeWs l ≤ m) := by
  induction l generalizing m with
  | nil => rw [weighs, sizeWs]; omega
  | cons x l ihl =>
    rw [weighs, sizeWs]
    split
    · omega
    · have h1 := ih x (List.mem_cons_self ..) m d
      have h2 := ihl (fun y hy => ih y (List.mem_cons_of_mem _ hy)) (weigh x m d)
      refine ⟨by omega, fun h => ?_⟩
      have h3 := h2.2 h
      have h4 := h1.2 (by omega)
      omega
theorem weigh_le (x : E) : ∀ (m : Int) (d : Nat), weigh x m d ≤ max m (-1) ∧ (0 ≤ weigh x m d → weigh x m d + sizeW x ≤ m) := by
  refine Eind (P := fun x => ∀ (m : Int) (d : Nat), weigh x m d ≤ max m (-1) ∧ (0 ≤ weigh x m d → weigh x m d + sizeW x ≤ m)) (fun k s ks ih m d => ?_) x
  rw [weigh, sizeW]
  split
  · omega
  · have := weighs_le ks ih (m - 1 - s.size) (d + 1)
    omega
theorem weighs_ge (l : List E) (ih : ∀ x ∈ l, ∀ (m : Int) (d : Nat), min m 0 - 140737488355329 ≤ weigh x m d) (m : Int) (d : Nat) : min m (-140737488355329) ≤ weighs l m d := by
  induction l generalizing m with
  | nil => rw [weighs]; omega
  | cons x l ihl =>
    rw [weighs]
    split
    · omega
    · have h1 := ih x (List.mem_cons_self ..) m d
      have h2 := ihl (fun y hy => ih y (List.mem_cons_of_mem _ hy)) (weigh x m d)
      omega
theorem weigh_ge {x : E} (hx : Sml x) : ∀ (m : Int) (d : Nat), min m 0 - 140737488355329 ≤ weigh x m d := by
  refine Eind (P := fun x => Sml x → ∀ (m : Int) (d : Nat), min m 0 - 140737488355329 ≤ weigh x m d) (fun k s ks ih hx m d => ?_) x hx
  rw [weigh]
  cases hx with
  | mk _ _ _ hk1 hk2 hs hl hk =>
    split
    · omega
    · have := weighs_ge ks (fun x hx => ih x hx (hk x hx)) (m - 1 - s.size) (d + 1)
      omega

/-! whether an expression can be -/
def partOk (k : Int) (s : List UInt8) (n : Nat) : Bool :=
  (k == 1 && n == 0) || (k == 2 && n == 0 && nameL s) || (k == 3 && decide (2 ≤ n) && s.isEmpty) || (k == 4 && n == 4 && s.isEmpty) || (k == 5 && n == 2 && nameL s)
mutual
/-- how many parts are left when an expression's are taken away -/
def count : E → Nat → Int → Int
  | .mk k s ks, d, left => if partOk k s.data.toList ks.length = false ∨ 64 ≤ d then -1 else counts ks (d + 1) (left - 1)
def counts : List E → Nat → Int → Int
  | [], _, left => left
  | x :: l, d, left => if left < 0 then left else counts l d (count x d left)
end
def goodE (x : E) : Bool := decide (0 ≤ count x 0 4096)
theorem counts_neg {l : List E} {m : Int} {d : Nat} (h : m < 0) : counts l d m = m := by
  cases l with
  | nil => rw [counts]
  | cons x l => rw [counts, if_pos h]
/-- each part is as a part may be -/
inductive Wf : E → Prop
  | mk (k : Int) (s : ByteArray) (ks : List E) (h : partOk k s.data.toList ks.length = true) (hk : ∀ x ∈ ks, Wf x) : Wf (.mk k s ks)
theorem counts_le (l : List E) (ih : ∀ x ∈ l, ∀ (d : Nat) (m : Int), 0 ≤ m → -1 ≤ count x d m ∧ count x d m ≤ m ∧ (0 ≤ count x d m → Wf x)) (d : Nat) (m : Int) (hm : -1 ≤ m) : -1 ≤ counts l d m ∧ counts l d m ≤ m ∧ (0 ≤ counts l d m → ∀ x ∈ l, Wf x) := by
  induction l generalizing m with
  | nil => rw [counts]; exact ⟨hm, Int.le_refl _, fun _ x hx => absurd hx (by simp)⟩
  | cons x l ihl =>
    rw [counts]
    split
    · exact ⟨hm, Int.le_refl _, fun h => absurd h (by omega)⟩
    · have h1 := ih x (List.mem_cons_self ..) d m (by omega)
      have h2 := ihl (fun y hy => ih y (List.mem_cons_of_mem _ hy)) (count x d m) h1.1
      refine ⟨h2.1, by omega, fun h y hy => ?_⟩
      rcases List.mem_cons.1 hy with rfl | hy
      · exact h1.2.2 (by omega)
      · exact h2.2.2 h y hy
theorem count_le (x : E) : ∀ (d : Nat) (m : Int), 0 ≤ m → -1 ≤ count x d m ∧ count x d m ≤ m ∧ (0 ≤ count x d m → Wf x) := by
  refine Eind (P := fun x => ∀ (d : Nat) (m : Int), 0 ≤ m → -1 ≤ count x d m ∧ count x d m ≤ m ∧ (0 ≤ count x d m → Wf x)) (fun k s ks ih d m hm => ?_) x
  rw [count]
  split
  · omega
  · rename_i h
    rw [not_or, Bool.not_eq_false] at h
    have := counts_le ks ih (d + 1) (m - 1) (by omega)
    exact ⟨this.1, by omega, fun h0 => .mk k s ks h.1 (this.2.2 h0)⟩

/-! texts -/
def hexDig (n : Nat) : UInt8 := if n < 10 then UInt8.ofNat (48 + n) else UInt8.ofNat (87 + n)
def escB (c : UInt8) : List UInt8 := if c.toNat < 32 ∨ 126 < c.toNat ∨ c = 34 ∨ c = 92 then [92, hexDig (c.toNat / 16), hexDig (c.toNat % 16)] else [c]
def quoteL (s : List UInt8) : List UInt8 := 34 :: (s.flatMap escB ++ [34])
def E.kind : E → Int
  | .mk k _ _ => k
def E.str : E → List UInt8
  | .mk _ s _ => s.data.toList
def E.kids : E → List E
  | .mk _ _ ks => ks
/-- terms with " + " between -/
def joinP : List (List UInt8) → List UInt8
  | [] => []
  | [t] => t
  | t :: u :: l => t ++ ([32, 43, 32] ++ joinP (u :: l))
/-- a text in a sum -/
def brL (k : Int) (t : List UInt8) : List UInt8 := if 3 ≤ k then [40] ++ (t ++ [41]) else t
def wIf : List UInt8 := [105, 102, 32]
def wEq : List UInt8 := [32, 61, 32]
def wThen : List UInt8 := [32, 116, 104, 101, 110, 32]
def wElse : List UInt8 := [32, 101, 108, 115, 101, 32]
def wLet : List UInt8 := [108, 101, 116, 32]
def wIn : List UInt8 := [32, 105, 110, 32]
mutual
def textE : E → List UInt8
  | .mk k s ks =>
    if k = 1 then quoteL s.data.toList else if k = 2 then s.data.toList else if k = 3 then joinP (bts ks)
    else if k = 4 then (match texts ks with | [a, b, c, d] => wIf ++ (a ++ (wEq ++ (b ++ (wThen ++ (c ++ (wElse ++ d)))))) | _ => [])
    else if k = 5 then (match texts ks with | [a, b] => wLet ++ (s.data.toList ++ (wEq ++ (a ++ (wIn ++ b)))) | _ => [])
    else []
/-- the kids' texts -/
def texts : List E → List (List UInt8)
  | [] => []
  | x :: l => textE x :: texts l
/-- the kids' texts as they stand in a sum -/
def bts : List E → List (List UInt8)
  | [] => []
  | x :: l => brL x.kind (textE x) :: bts l
end
def wKind (k : Int) : List UInt8 := if k = 1 then [116, 111, 111, 108, 32] else if k = 2 then [98, 117, 105, 108, 100, 32] else [114, 117, 110, 32]
def fieldL (f : Int × E × E) : List UInt8 := wKind f.1 ++ (textE f.2.1 ++ ([32] ++ (textE f.2.2 ++ [10])))
def wPack : List UInt8 := [112, 97, 99, 107, 97, 103, 101, 32]
def wVers : List UInt8 := [10, 118, 101, 114, 115, 105, 111, 110, 32]
def textS (x : Src) : List UInt8 := wPack ++ (textE x.name ++ (wVers ++ (textE x.version ++ ([10] ++ x.fields.flatMap fieldL))))
def goodS (x : Src) : Bool := goodE x.name && goodE x.version && decide (x.fields.length ≤ 20) && x.fields.all fun f => decide (1 ≤ f.1) && decide (f.1 ≤ 3) && goodE f.2.1 && goodE f.2.2
/-- what Print answers: the text, or an error -/
def printP (x : Src) : List UInt8 × Int := if goodS x = false then ([], 1) else if 4096 < (textS x).length then ([], 3) else (textS x, 0)

/-! cut texts -/
/-- the same, or both too long -/
def Cut (a b : List UInt8) : Prop := a = b ∨ (4096 < a.length ∧ 4096 < b.length)
theorem Cut.refl (a : List UInt8) : Cut a a := .inl rfl
theorem Cut.app {a b c d : List UInt8} (h : Cut a b) (h' : Cut c d) : Cut (a ++ c) (b ++ d) := by
  rcases h with rfl | ⟨h1, h2⟩
  · rcases h' with rfl | ⟨h3, h4⟩
    · exact .inl rfl
    · exact .inr ⟨by rw [List.length_append]; omega, by rw [List.length_append]; omega⟩
  · exact .inr ⟨by rw [List.length_append]; omega, by rw [List.length_append]; omega⟩
theorem Cut.len {a b : List UInt8} (h : Cut a b) : (4096 < a.length ↔ 4096 < b.length) ∧ (¬ 4096 < a.length → a = b) := by
  rcases h with rfl | ⟨h1, h2⟩
  · exact ⟨Iff.rfl, fun _ => rfl⟩
  · exact ⟨⟨fun _ => h2, fun _ => h1⟩, fun h => absurd h1 h⟩
end Rc
end Go.Proofs.YtflhmoelenmomaaGreatDoor
