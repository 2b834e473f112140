/-
  Plain: the tokens and the reading of a recipe (layer 12). No program in sight.
-/
import Derived.Test.YtflhmoelenmomaaGreatDoorRows
import Derived.WalkKit
import Derived.WalkLawsBesides
import Derived.WalkSpells
import Derived.WalkSmall
import Derived.Lib.Hide
import Derived.Deep.QuietTactic
import Derived.BigQuiet
import Derived.RegionTactic
import Derived.Test.YtflhmoelenmomaaGreatDoorShelf
import Derived.Shelf.GgClosure.StringsIndexFuncTop
import Derived.Laws.RangeString
import Derived.Laws.RangeAny
import Derived.Laws.EntriesVeiled
import Derived.Outline
import Derived.Lib.AppendStr
import Derived.Laws.AppendOwn
import Derived.Deep.AppendLies
import Derived.Laws.IdiomStrings
import Derived.StillTail
namespace Go.Proofs.YtflhmoelenmomaaGreatDoor
open Go.RowKit
namespace Rc

/-! characters -/
def blank (c : UInt8) : Bool := c == 32 || c == 10 || c == 9 || c == 35
/-- how many bytes are skipped ahead of a token; in a note? -/
def skipL : Bool → List UInt8 → Nat
  | _, [] => 0
  | note, c :: l => if (note || blank c) = true then skipL (c == 35 || (note && c != 10)) l + 1 else 0
def letter (c : UInt8) : Bool := (decide (97 ≤ c.toNat) && decide (c.toNat ≤ 122)) || (decide (48 ≤ c.toNat) && decide (c.toNat ≤ 57)) || c == 95
def sign (c : UInt8) : Bool := c == 40 || c == 41 || c == 43 || c == 61
/-- a digit's number; 16: it is none -/
def hexv (c : UInt8) : Nat := if 48 ≤ c.toNat ∧ c.toNat ≤ 57 then c.toNat - 48 else if 97 ≤ c.toNat ∧ c.toNat ≤ 102 then c.toNat - 87 else 16
def wordN (l : List UInt8) : Nat := (l.takeWhile letter).length
/-- what stands between quotes, and how many bytes it takes with the closing quote -/
def strF : Nat → List UInt8 → Option (List UInt8 × Nat)
  | 0, _ => none
  | _ + 1, [] => none
  | f + 1, c :: l =>
    if c = 34 then some ([], 1)
    else if c.toNat < 32 ∨ 126 < c.toNat then none
    else if c ≠ 92 then (strF f l).map fun p => (c :: p.1, p.2 + 1)
    else match l with
      | a :: b :: r => if hexv a = 16 ∨ hexv b = 16 then none else (strF f r).map fun p => (UInt8.ofNat (16 * hexv a + hexv b) :: p.1, p.2 + 3)
      | _ => none
def strL (l : List UInt8) : Option (List UInt8 × Nat) := strF (l.length + 1) l
/-- a token: kind 0 the end, 1 a word, 2 a sign, 3 a text; its place, and the place behind it -/
structure Tk where
  kind : Nat
  s : ByteArray
  pl : Nat
  fin : Nat
inductive RT
  | ok (t : Tk)
  | bad (p : Nat)
/-- the token at a place, where nothing is to be skipped -/
def tokP (s : List UInt8) (p : Nat) : RT := match s.drop p with
  | [] => .ok ⟨0, ⟨#[]⟩, p, p⟩
  | c :: l =>
    if c = 34 then match strL l with
      | some (x, n) => .ok ⟨3, ⟨x.toArray⟩, p, p + 1 + n⟩
      | none => .bad p
    else if sign c = true then .ok ⟨2, ⟨#[c]⟩, p, p + 1⟩
    else if wordN (c :: l) = 0 then .bad p
    else .ok ⟨1, ⟨((c :: l).take (wordN (c :: l))).toArray⟩, p, p + wordN (c :: l)⟩
def tokAt (s : List UInt8) (p : Nat) : RT := tokP s (p + skipL false (s.drop p))

/-! names -/
def keyW : List (List UInt8) := [[112, 97, 99, 107, 97, 103, 101], [118, 101, 114, 115, 105, 111, 110], [116, 111, 111, 108], [98, 117, 105, 108, 100], [114, 117, 110], [108, 101, 116], [105, 110], [105, 102], [116, 104, 101, 110], [101, 108, 115, 101]]
def nameL (l : List UInt8) : Bool := decide (1 ≤ l.length) && decide (l.length ≤ 32) && l.all letter && (match l.head? with | some c => decide (97 ≤ c.toNat) && decide (c.toNat ≤ 122) | none => false) && !keyW.contains l

/-! expressions -/
inductive E
  | mk (kind : Int) (s : ByteArray) (kids : List E)
inductive Res (α : Type)
  | ok (x : α) (t : Tk)
  | bad (p : Nat) (e : Int)
/-- is the token this word or sign? -/
def isW (t : Tk) (w : List UInt8) : Bool := (t.kind == 1 || t.kind == 2) && t.s.data.toList == w
def stepT (s : List UInt8) (t : Tk) : Res Unit := match tokAt s t.fin with
  | .ok t' => .ok () t'
  | .bad p => .bad p 50
def wantT (s : List UInt8) (w : List UInt8) (t : Tk) : Res Unit := if isW t w = true then stepT s t else .bad t.pl 50
def Res.bind {α β : Type} (r : Res α) (f : α → Tk → Res β) : Res β := match r with
  | .ok x t => f x t
  | .bad p e => .bad p e
/-- the terms of a sum behind the first -/
def sumP (s : List UInt8) (f : Tk → Res E) : Nat → Tk → List E → Res (List E)
  | 0, t, _ => .bad t.pl 0
  | m + 1, t, acc => if isW t [43] = true then (stepT s t).bind fun _ t1 => (f t1).bind fun y t2 => sumP s f m t2 (acc ++ [y]) else .ok acc t
def catE (x : E) (l : List E) : E := if l = [] then x else .mk 3 ⟨#[]⟩ (x :: l)
def exprP (s : List UInt8) (f : Tk → Res E) (t : Tk) : Res E := (f t).bind fun x t1 => (sumP s f (s.length + 1) t1 []).bind fun l t2 => .ok (catE x l) t2
def termOk (t : Tk) : Bool := t.kind == 3 || isW t [40] || isW t [105, 102] || isW t [108, 101, 116] || (t.kind == 1 && nameL t.s.data.toList)
/-- a term, within 32 - h others -/
def termP (s : List UInt8) : Nat → Tk → Res E
  | 0, t => if termOk t = true then .bad t.pl 4 else .bad t.pl 50
  | h + 1, t =>
    if termOk t = false then .bad t.pl 50
    else (stepT s t).bind fun _ t1 =>
      if t.kind = 3 then .ok (.mk 1 t.s []) t1
      else if isW t [40] = true then (exprP s (termP s h) t1).bind fun x t2 => (wantT s [41] t2).bind fun _ t3 => .ok x t3
      else if isW t [105, 102] = true then
        (exprP s (termP s h) t1).bind fun a t2 => (wantT s [61] t2).bind fun _ t3 => (exprP s (termP s h) t3).bind fun b t4 => (wantT s [116, 104, 101, 110] t4).bind fun _ t5 =>
        (exprP s (termP s h) t5).bind fun c t6 => (wantT s [101, 108, 115, 101] t6).bind fun _ t7 => (exprP s (termP s h) t7).bind fun d t8 => .ok (.mk 4 ⟨#[]⟩ [a, b, c, d]) t8
      else if isW t [108, 101, 116] = true then
        if t1.kind = 1 ∧ nameL t1.s.data.toList = true then (stepT s t1).bind fun _ t2 => (wantT s [61] t2).bind fun _ t3 => (exprP s (termP s h) t3).bind fun a t4 => (wantT s [105, 110] t4).bind fun _ t5 =>
          (exprP s (termP s h) t5).bind fun b t6 => .ok (.mk 5 t1.s [a, b]) t6
        else .bad t1.pl 50
      else .ok (.mk 2 t.s []) t1
/-- which line of a recipe a token begins; 0: none -/
def fieldK (t : Tk) : Nat := if isW t [116, 111, 111, 108] = true then 1 else if isW t [98, 117, 105, 108, 100] = true then 2 else if isW t [114, 117, 110] = true then 3 else 0
def fieldsP (s : List UInt8) (f : Tk → Res E) : Nat → Tk → List (Int × E × E) → Res (List (Int × E × E))
  | 0, t, _ => .bad t.pl 0
  | m + 1, t, acc =>
    if t.kind = 0 then .ok acc t
    else if fieldK t = 0 then .bad t.pl 50
    else if acc.length = 20 then .bad t.pl 13
    else (stepT s t).bind fun _ t1 => (f t1).bind fun a t2 => (f t2).bind fun b t3 => fieldsP s f m t3 (acc ++ [((fieldK t : Int), a, b)])
structure Src where
  name : E
  version : E
  fields : List (Int × E × E)
def sourceP (s : List UInt8) : Res Src := match tokAt s 0 with
  | .bad p => .bad p 50
  | .ok t0 => (wantT s [112, 97, 99, 107, 97, 103, 101] t0).bind fun _ t1 => (exprP s (termP s 32) t1).bind fun a t2 => (wantT s [118, 101, 114, 115, 105, 111, 110] t2).bind fun _ t3 => (exprP s (termP s 32) t3).bind fun b t4 =>
    (fieldsP s (exprP s (termP s 32)) (s.length + 1) t4 []).bind fun l t5 => .ok ⟨a, b, l⟩ t5
inductive Out
  | ok (x : Src)
  | bad (p : Nat) (e : Int)
def parseP (s : List UInt8) : Out := if 4096 < s.length then .bad 0 3 else match sourceP s with
  | .ok x _ => .ok x
  | .bad p e => .bad p e
end Rc
end Go.Proofs.YtflhmoelenmomaaGreatDoor

/-
  Small lemmas for the walks of the sexp package.
-/
namespace Go.Proofs.YtflhmoelenmomaaGreatDoor
open Go.RowKit
namespace Sx

theorem bcell {W w1 : World} (hb : Below W.heap.size W w1) : (∀ b o, b < W.heap.size → w1.cell? ⟨b, o, none⟩ = W.cell? ⟨b, o, none⟩) ∧ (∀ b o, b < W.heap.size → w1.frozen? ⟨b, o, none⟩ = W.frozen? ⟨b, o, none⟩) :=
  ⟨fun b o h => hb.cell (p := ⟨b, o, none⟩) h, fun b o h => hb.frozen (p := ⟨b, o, none⟩) h⟩
theorem ret_int {k : IntKind} {a b : Int} (h : a = b) : Ending.returned (.int k a) = .returned (.int k b) := by rw [h]
theorem ret_bool {a b : Bool} (h : a = b) : Ending.returned (.bool a) = .returned (.bool b) := by rw [h]
theorem ret_str {a b : ByteArray} (h : a = b) : Ending.returned (.string a) = .returned (.string b) := by rw [h]

theorem seq_tt {a b : ByteArray} (h : a = b) : (a.toList == b.toList) = true := by subst h; exact beq_self_eq_true _
theorem seq_ff {a b : ByteArray} (h : a ≠ b) : (a.toList == b.toList) = false := by
  rw [beq_eq_false_iff_ne]
  intro e
  rw [ByteArray.toList_eq, ByteArray.toList_eq] at e
  exact h (ByteArray.ext (Array.toList_inj.1 e))

theorem emp_tt {a : ByteArray} (h : a = ⟨#[]⟩) : a.toList.isEmpty = true := by subst h; decide +kernel
theorem emp_ff {a : ByteArray} (h : a ≠ ⟨#[]⟩) : a.toList.isEmpty = false := by
  cases he : a.toList.isEmpty
  · rfl
  · rw [ByteArray.toList_eq, List.isEmpty_iff] at he
    exact absurd (ByteArray.ext (Array.toList_inj.1 he)) h
theorem below_drewN {B : Nat} {a w : World} (h : Below B a w) (n : Nat) : Below B a (w.drewN n) := ⟨h.os, h.tape, h.output, h.size, h.block⟩
theorem keep_cell {W W' : World} {p : Addr} {v : Value} (hb : Below W.heap.size W W') (h : W.cell? p = some v) : W'.cell? p = some v :=
  (hb.cell (World.block_lt_of_cell? W p h)).trans h
end Sx
end Go.Proofs.YtflhmoelenmomaaGreatDoor

/-
  Walk: recipe.Name, its letters and keywords. (printed by gen_RcA.py)
-/
namespace Go.Proofs.YtflhmoelenmomaaGreatDoor
open Go.RowKit
namespace Rc

def letR (r : Nat) : Bool := (decide (97 ≤ r) && decide (r ≤ 122)) || (decide (48 ≤ r) && decide (r ≤ 57)) || decide (r = 95)
theorem letter_R (c : UInt8) : letter c = letR c.toNat := by
  unfold letter letR
  congr 1
  by_cases h : c = 95
  · subst h; rfl
  · have h2 : c.toNat ≠ 95 := fun e => h (UInt8.toNat_inj.1 e)
    rw [decide_eq_false h2, beq_eq_false_iff_ne]
    exact h
theorem letR_high {r : Nat} (h : 128 ≤ r) : letR r = false := by
  simp only [letR, Bool.or_eq_false_iff, Bool.and_eq_false_iff, decide_eq_false_iff_not]
  omega
theorem idx_from (s : ByteArray) : ∀ (f pos : Nat), s.size ≤ pos + f → (Lib.idxFuncFrom (fun r => !letR r) true s f pos = -1 ↔ ∀ (i : Nat) (h : i < s.size), pos ≤ i → letR s[i].toNat = true)
  | 0, pos, hf => by
    rw [Lib.idxFuncFrom_end _ _ _ _ _ (by omega)]
    exact ⟨fun _ i h hp => by omega, fun _ => rfl⟩
  | f + 1, pos, hf => by
    by_cases hp : pos < s.size
    · unfold Lib.idxFuncFrom
      rw [if_pos hp]
      by_cases ha : s[pos].toNat < 128
      · rw [decode_ascii s pos hp ha]
        by_cases hn : letR s[pos].toNat = true
        · dsimp only
          rw [hn, if_neg (by decide), idx_from s f (pos + 1) (by omega)]
          constructor
          · intro h i hi hpi
            by_cases e : i = pos
            · subst e; exact hn
            · exact h i hi (by omega)
          · exact fun h i hi hpi => h i hi (by omega)
        · have hn' : letR s[pos].toNat = false := by simpa using hn
          dsimp only
          rw [hn', if_pos (by decide)]
          constructor
          · intro h; omega
          · intro h; exact absurd (h pos hp (Nat.le_refl _)) hn
      · have hd := (decode_high s pos hp (by omega)).1
        rw [letR_high hd, if_pos (by decide)]
        constructor
        · intro h; omega
        · intro h
          have := h pos hp (Nat.le_refl _)
          rw [letR_high (by omega)] at this
          cases this
    · rw [Lib.idxFuncFrom_end _ _ _ _ _ hp]
      exact ⟨fun _ i h hpi => by omega, fun _ => rfl⟩
theorem all_get {s : ByteArray} : s.data.toList.all letter = true ↔ ∀ (i : Nat) (h : i < s.size), letR s[i].toNat = true := by
  rw [List.all_eq_true]
  have hz := Lib.size_eq s
  constructor
  · intro h i hi
    rw [← letter_R]
    exact h _ (List.mem_of_getElem? (i := i) (by rw [List.getElem?_eq_getElem (by omega)]; rfl))
  · intro h c hc
    obtain ⟨k, hk⟩ := List.mem_iff_getElem?.1 hc
    have hkl := (List.getElem?_eq_some_iff.1 hk).1
    have := h k (by omega)
    rw [List.getElem?_eq_getElem hkl] at hk
    cases hk
    rw [letter_R]
    exact this
theorem idx_all (s : ByteArray) : decide (0 ≤ Lib.idxFunc (fun r => !letR r) true s) = !(s.data.toList.all letter) := by
  have h1 := idx_from s s.size 0 (by omega)
  have h2 := Lib.idxFunc_range (fun r => !letR r) true s
  have h3 := @all_get s
  change Lib.idxFunc _ _ _ = _ ↔ _ at h1
  cases ha : s.data.toList.all letter
  · have : ¬ Lib.idxFunc (fun r => !letR r) true s = -1 := fun e => by
      have := h3.2 (fun i hi => h1.1 e i hi (Nat.zero_le _))
      rw [this] at ha
      cases ha
    simp only [Bool.not_false, decide_eq_true_eq]
    omega
  · have := h1.2 (fun i hi _ => h3.1 ha i hi)
    simp only [Bool.not_true, decide_eq_false_iff_not]
    omega
theorem head_get {s : ByteArray} (h : 0 < s.size) : s.data.toList.head? = some s[0] := by
  have hz := Lib.size_eq s
  rw [List.head?_eq_getElem?, List.getElem?_eq_getElem (by omega)]
  rfl
set_option maxHeartbeats 1000000 in
theorem ok_any (x : Nat) (w : World) : Calls Tryz.prog 84 #[.int .i32 (x : Int)] w fun e w' => e = .returned (.bool (letR x)) ∧ w' = w := by
  have cases : (97 ≤ x ∧ x ≤ 122) ∨ (48 ≤ x ∧ x ≤ 57) ∨ x = 95 ∨ x < 48 ∨ (58 ≤ x ∧ x ≤ 96 ∧ x ≠ 95) ∨ 123 ≤ x := by omega
  rcases cases with ⟨a, b⟩ | ⟨a, b⟩ | h | a | ⟨a, b, c⟩ | a
  · have hx := Lib.hid (show letR x = true by simp only [letR, Bool.or_eq_true, Bool.and_eq_true, decide_eq_true_eq]; omega)
    have t1 : decide ((97 : Int) ≤ x) = true := by simp; omega
    have t2 : decide ((x : Int) ≤ 122) = true := by simp; omega
    go_enter Tryz.func84, Tryz.ntmps84
    go_wp2
    go_ret
    exact ⟨Sx.ret_bool hx.out.symm, rfl⟩
  · have hx := Lib.hid (show letR x = true by simp only [letR, Bool.or_eq_true, Bool.and_eq_true, decide_eq_true_eq]; omega)
    have t1 : decide ((97 : Int) ≤ x) = false := by simp; omega
    have t3 : decide ((48 : Int) ≤ x) = true := by simp; omega
    have t4 : decide ((x : Int) ≤ 57) = true := by simp; omega
    go_enter Tryz.func84, Tryz.ntmps84
    go_wp2
    go_ret
    exact ⟨Sx.ret_bool hx.out.symm, rfl⟩
  · subst h
    go_enter Tryz.func84, Tryz.ntmps84
    go_wp2
    go_ret
    exact ⟨rfl, rfl⟩
  all_goals
    have hx := Lib.hid (show letR x = false by simp only [letR, Bool.or_eq_false_iff, Bool.and_eq_false_iff, decide_eq_false_iff_not]; omega)
    have e2 : ((x : Int) == 95) = false := by rw [beq_eq_false_iff_ne]; omega
  · have t1 : decide ((97 : Int) ≤ x) = false := by simp; omega
    have t3 : decide ((48 : Int) ≤ x) = false := by simp; omega
    go_enter Tryz.func84, Tryz.ntmps84
    go_wp2
    go_ret
    exact ⟨Sx.ret_bool hx.out.symm, rfl⟩
  · have t1 : decide ((97 : Int) ≤ x) = false := by simp; omega
    have t3 : decide ((48 : Int) ≤ x) = true := by simp; omega
    have t4 : decide ((x : Int) ≤ 57) = false := by simp; omega
    go_enter Tryz.func84, Tryz.ntmps84
    go_wp2
    go_ret
    exact ⟨Sx.ret_bool hx.out.symm, rfl⟩
  · have t1 : decide ((97 : Int) ≤ x) = true := by simp; omega
    have t2 : decide ((x : Int) ≤ 122) = false := by simp; omega
    have t3 : decide ((48 : Int) ≤ x) = true := by simp; omega
    have t4 : decide ((x : Int) ≤ 57) = false := by simp; omega
    go_enter Tryz.func84, Tryz.ntmps84
    go_wp2
    go_ret
    exact ⟨Sx.ret_bool hx.out.symm, rfl⟩
set_option maxHeartbeats 1000000 in
theorem no_any (x : Nat) (b : Nat) (w : World) (h : w.cell? ⟨b, 0, none⟩ = some (.func (.func 84) #[] #[])) :
    Calls Tryz.prog 85 #[.int .i32 (x : Int), .pointer (some ⟨b, 0, none⟩)] w fun e w' => e = .returned (.bool (!letR x)) ∧ w' = w := by
  go_enter Tryz.func85, Tryz.ntmps85
  go_wp2_with (go_at_call 84; refine (ok_any _ _).mono ?_; rintro e w' ⟨rfl, rfl⟩)
  go_ret
  exact ⟨rfl, rfl⟩
theorem no_enters : ∀ (args : Array Value) (w : World), (callFunc 85 args).run Tryz.prog w = .ok (.enter 85 args) w :=
  enters_of Tryz.func85 (by kernel_rfl) rfl
theorem contains_any (s : ByteArray) (b : Nat) (w : World) (h : w.cell? ⟨b, 0, none⟩ = some (.func (.func 84) #[] #[])) :
    Calls Tryz.prog 66 #[.string s, .func (.func 85) #[] #[.pointer (some ⟨b, 0, none⟩)]] w fun e w' => e = .returned (.bool (!(s.data.toList.all letter))) ∧ Below w.heap.size w w' := by
  have hc := Tryz.strings_ContainsFunc 85 #[.pointer (some ⟨b, 0, none⟩)] no_enters (fun r => !letR r) s w (fun W x hb => by
    have hcell : W.cell? ⟨b, 0, none⟩ = some (.func (.func 84) #[] #[]) := (hb.cell (World.block_lt_of_cell? w _ h)).trans h
    exact (no_any x b W hcell).mono fun e w' ⟨he, hw⟩ => ⟨he, 0, hw⟩)
  rw [idx_all] at hc
  exact hc
/-- a slice of texts -/
def SS (W : World) (v : Value) (l : List (List UInt8)) : Prop := ∃ b cap, v = .slice (some ⟨b, 0, none⟩) l.length cap ∧ b < W.heap.size ∧ ∀ (i : Nat) (x : List UInt8), l[i]? = some x → W.cell? ⟨b, i, none⟩ = some (.string ⟨x.toArray⟩)
theorem SS.below {W W' : World} {v : Value} {l : List (List UInt8)} (h : SS W v l) (hb : Below W.heap.size W W') : SS W' v l := by
  obtain ⟨b, cap, rfl, hl, hc⟩ := h
  exact ⟨b, cap, rfl, Nat.lt_of_lt_of_le hl hb.size, fun i x hx => (hb.cell (p := ⟨b, i, none⟩) hl).trans (hc i x hx)⟩
def idxW (l : List (List UInt8)) (x : List UInt8) : Int := match l.findIdx? (fun y => x == y) with
  | some i => (i : Int)
  | none => -1
theorem idxW_hit {l : List (List UInt8)} {x : List UInt8} {k : Nat} (h : l[k]? = some x) (hn : ∀ (j : Nat) (y : List UInt8), j < k → l[j]? = some y → x ≠ y) : idxW l x = k := by
  have hk := (List.getElem?_eq_some_iff.1 h).1
  have : l.findIdx? (fun y => x == y) = some k := by
    rw [List.findIdx?_eq_some_iff_getElem]
    refine ⟨hk, ?_, fun j hj => ?_⟩
    · rw [List.getElem?_eq_getElem hk] at h
      rw [Option.some.inj h]
      exact beq_self_eq_true _
    · have := hn j _ hj (List.getElem?_eq_getElem (by omega))
      simpa using this
  unfold idxW
  rw [this]
theorem idxW_none {l : List (List UInt8)} {x : List UInt8} (hn : ∀ (j : Nat) (y : List UInt8), l[j]? = some y → x ≠ y) : idxW l x = -1 := by
  have : l.findIdx? (fun y => x == y) = none := by
    rw [List.findIdx?_eq_none_iff]
    intro y hy
    obtain ⟨j, hj⟩ := List.mem_iff_getElem?.1 hy
    simpa using hn j y hj
  unfold idxW
  rw [this]
theorem idxW_mem (l : List (List UInt8)) (x : List UInt8) : decide (0 ≤ idxW l x) = l.contains x := by
  unfold idxW
  cases h : l.findIdx? (fun y => x == y) with
  | none =>
    rw [List.findIdx?_eq_none_iff] at h
    have : l.contains x = false := by
      cases hc : l.contains x
      · rfl
      · rw [List.contains_iff_mem] at hc
        have := h x hc
        simp at this
    rw [this]
    decide
  | some i =>
    rw [List.findIdx?_eq_some_iff_getElem] at h
    obtain ⟨hi, h1, -⟩ := h
    have h2 : x = l[i] := by simpa using h1
    have : l.contains x = true := by
      rw [List.contains_iff_mem, h2]
      exact List.getElem_mem hi
    rw [this]
    simp
theorem ba_ne {s : ByteArray} {y : List UInt8} (h : s.data.toList ≠ y) : s ≠ ⟨y.toArray⟩ := fun e => h (by rw [e])
theorem ba_eq {s : ByteArray} {y : List UInt8} (h : s.data.toList = y) : s = ⟨y.toArray⟩ := by
  apply ByteArray.ext
  apply Array.toList_inj.1
  rw [h]
set_option maxHeartbeats 1000000 in
theorem index_any (l : List (List UInt8)) (v : Value) (s : ByteArray) (w : World) (hS : SS w v l) (hl : l.length ≤ 1000) :
    Calls Tryz.prog 112 #[v, .string s] w fun e w' => e = .returned (.int .i64 (idxW l s.data.toList)) ∧ w' = w := by
  obtain ⟨b, cap, rfl, hlt, hc⟩ := hS
  have HC := Lib.hid hc
  clear hc
  go_enter Tryz.func112, Tryz.ntmps112
  go_wp2_with fail
  go_loopw [5, 8] (fun _ i wr => ∃ k : Nat, k ≤ l.length ∧ i = .int .i64 k ∧ (∀ (j : Nat) (y : List UInt8), j < k → l[j]? = some y → s.data.toList ≠ y) ∧ wr = w) (fun _ i _ => l.length - (intOf i).toNat)
  case atStart => exact ⟨0, Nat.zero_le _, rfl, by omega, rfl⟩
  case round =>
    obtain ⟨k, hk, rfl, hn, rfl⟩ := hrel
    have HN := Lib.hid hn
    clear hn
    by_cases hk2 : k < l.length
    · obtain ⟨x, hx⟩ : ∃ x, l[k]? = some x := ⟨l[k], List.getElem?_eq_getElem hk2⟩
      have hcell := HC.out k x hx
      have HX := Lib.hid hx
      obtain ⟨xb, hxb⟩ : ∃ xb : ByteArray, xb = ⟨x.toArray⟩ := ⟨_, rfl⟩
      rw [← hxb] at hcell
      clear hx
      by_cases he : s.data.toList = x
      · have hr := Lib.hid (idxW_hit (l := l) (x := s.data.toList) (k := k) (by rw [he]; exact HX.out) HN.out)
        have i1 := Sx.seq_tt (show s = xb by rw [hxb]; exact ba_eq he)
        clear he hxb
        go_wp2_with fail
        go_ret
        exact ⟨Sx.ret_int hr.out.symm, rfl⟩
      · have i1 := Sx.seq_ff (show s ≠ xb by rw [hxb]; exact ba_ne he)
        clear hxb
        have HNN := Lib.hid (show ∀ (j : Nat) (y : List UInt8), j < k + 1 → l[j]? = some y → s.data.toList ≠ y from fun j y hj hy => by
          by_cases h : j < k
          · exact HN.out j y h hy
          · obtain rfl : j = k := by omega
            rw [HX.out] at hy
            rw [← Option.some.inj hy]
            exact he)
        clear he
        go_wp2_with fail
        go_roundw
        case rel => exact ⟨k + 1, by omega, by go_num, HNN.out, by trivial⟩
        case measure => simp [intOf]; omega
    · have hr := Lib.hid (idxW_none (l := l) (x := s.data.toList) (fun j y hy => HN.out j y (by
        have := (List.getElem?_eq_some_iff.1 hy).1
        omega) hy))
      go_wp2_with fail
      go_ret
      exact ⟨Sx.ret_int hr.out.symm, rfl⟩
set_option maxHeartbeats 400000 in
theorem has_any (l : List (List UInt8)) (v : Value) (s : ByteArray) (w : World) (hS : SS w v l) (hl : l.length ≤ 1000) :
    Calls Tryz.prog 86 #[v, .string s] w fun e w' => e = .returned (.bool (l.contains s.data.toList)) ∧ w' = w := by
  have hi := index_any l v s w hS hl
  have hx := Lib.hid (idxW_mem l s.data.toList)
  obtain ⟨b, cap, rfl, hlt, hc⟩ := hS
  clear hc
  go_enter Tryz.func86, Tryz.ntmps86
  go_wp2_with fail
  refine hi.mono ?_
  rintro e w' ⟨rfl, rfl⟩
  go_wp2_with fail
  go_ret
  exact ⟨Sx.ret_bool hx.out, rfl⟩
theorem ss_lit (W : World) (l : List (List UInt8)) : SS (W.alloc (.cells (l.map fun x => Value.string ⟨x.toArray⟩).toArray 9)) (.slice (some ⟨W.heap.size, 0, none⟩) l.length l.length) l := by
  refine ⟨_, _, rfl, by simp, fun i x hx => ?_⟩
  have h := heap_alloc_new W (.cells (l.map fun x => Value.string ⟨x.toArray⟩).toArray 9)
  simp only [World.cell?, h]
  simp [hx]
set_option maxHeartbeats 400000 in
theorem keywords_any (w : World) : Calls Tryz.prog 87 #[] w fun e w' => ∃ v, e = .returned v ∧ SS w' v keyW ∧ Below w.heap.size w w' := by
  have hs := ss_lit w keyW
  go_enter Tryz.func87, Tryz.ntmps87
  go_wp2
  go_ret
  exact ⟨_, rfl, hs, (Below.refl _ _).alloc (Nat.le_refl _) _⟩
theorem nameL_no1 {l : List UInt8} (h : l = []) : nameL l = false := by subst h; rfl
theorem nameL_no2 {l : List UInt8} (h : 32 < l.length) : nameL l = false := by simp [nameL]; omega
theorem nameL_no3 {l : List UInt8} {c : UInt8} (h : l.head? = some c) (hc : c.toNat < 97 ∨ 122 < c.toNat) : nameL l = false := by
  have : (decide (97 ≤ c.toNat) && decide (c.toNat ≤ 122)) = false := by
    rw [Bool.and_eq_false_iff, decide_eq_false_iff_not, decide_eq_false_iff_not]
    omega
  simp [nameL, h, this]
theorem nameL_no4 {l : List UInt8} (h : l.all letter = false) : nameL l = false := by simp [nameL, h]
theorem nameL_yes {l : List UInt8} {c : UInt8} (h1 : 1 ≤ l.length) (h2 : l.length ≤ 32) (h : l.head? = some c) (hc : 97 ≤ c.toNat) (hc2 : c.toNat ≤ 122) (ha : l.all letter = true) : nameL l = !keyW.contains l := by
  unfold nameL
  rw [decide_eq_true h1, decide_eq_true h2, ha, h]
  simp only [decide_eq_true hc, decide_eq_true hc2, Bool.true_and, Bool.and_true]
set_option maxHeartbeats 2000000 in
theorem name_any (s : ByteArray) (w : World) : Calls Tryz.prog 60 #[.string s] w fun e w' => e = .returned (.bool (nameL s.data.toList)) ∧ Below w.heap.size w w' := by
  have hz := Lib.size_eq s
  have hX := (Below.refl w.heap.size w).alloc (Nat.le_refl _) (.cells #[.func (.func 84) #[] #[]] 122)
  have hmf : ∀ (fn : Fn) (first cap : Array Value) (w : World), (Instr.makeFunc fn first cap).run Tryz.prog w = .ok (.func fn first cap) w := fun _ _ _ _ => rfl
  by_cases he : s = ⟨#[]⟩
  · have hx := Lib.hid (nameL_no1 (l := s.data.toList) (by rw [he]))
    have h1 := Sx.emp_tt he
    clear hz he
    go_enter Tryz.func60, Tryz.ntmps60
    go_wp2_with fail
    go_ret
    exact ⟨Sx.ret_bool hx.out.symm, hX⟩
  · have h1 := Sx.emp_ff he
    have hpos : 0 < s.size := by
      rcases Nat.eq_zero_or_pos s.size with h0 | h0
      · exfalso
        apply he
        apply ByteArray.ext
        apply Array.toList_inj.1
        rw [h0] at hz
        exact List.length_eq_zero_iff.1 hz.symm
      · exact h0
    have hhd := head_get hpos
    by_cases h32 : s.size ≤ 32
    rotate_left
    · have hx := Lib.hid (nameL_no2 (l := s.data.toList) (by omega))
      have t1 : decide ((s.size : Int) ≤ 32) = false := by simp; omega
      clear hz he
      go_enter Tryz.func60, Tryz.ntmps60
      go_wp2_with fail
      go_ret
      exact ⟨Sx.ret_bool hx.out.symm, hX⟩
    · have t1 : decide ((s.size : Int) ≤ 32) = true := by simp; omega
      by_cases ha : 97 ≤ s[0].toNat
      rotate_left
      · have hx := Lib.hid (nameL_no3 hhd (by omega))
        have t2 : decide ((97 : Int) ≤ (s[0].toNat : Int)) = false := by simp; omega
        clear hz he hhd ha
        go_enter Tryz.func60, Tryz.ntmps60
        go_wp2_with fail
        go_ret
        exact ⟨Sx.ret_bool hx.out.symm, hX⟩
      · have t2 : decide ((97 : Int) ≤ (s[0].toNat : Int)) = true := by simp; omega
        by_cases hb : s[0].toNat ≤ 122
        rotate_left
        · have hx := Lib.hid (nameL_no3 hhd (by omega))
          have t3 : decide ((s[0].toNat : Int) ≤ 122) = false := by simp; omega
          clear hz he hhd ha hb
          go_enter Tryz.func60, Tryz.ntmps60
          go_wp2_with fail
          go_ret
          exact ⟨Sx.ret_bool hx.out.symm, hX⟩
        · have t3 : decide ((s[0].toNat : Int) ≤ 122) = true := by simp; omega
          have hcon := contains_any s w.heap.size (w.alloc (.cells #[.func (.func 84) #[] #[]] 122)) (by go_simp)
          cases hall : s.data.toList.all letter
          · have hx := Lib.hid (nameL_no4 hall)
            rw [hall] at hcon
            clear hz he hhd ha hb hall
            go_enter Tryz.func60, Tryz.ntmps60
            go_wp2_with fail
            refine hcon.mono ?_
            rintro e w1 ⟨rfl, hb1⟩
            go_wp2_with fail
            go_ret
            exact ⟨Sx.ret_bool hx.out.symm, hX.trans (hb1.mono hX.size)⟩
          · have hx := Lib.hid (nameL_yes (by omega) (by omega) hhd ha hb hall)
            rw [hall] at hcon
            clear hz he hhd ha hb hall
            go_enter Tryz.func60, Tryz.ntmps60
            go_wp2_with fail
            refine hcon.mono ?_
            rintro e w1 ⟨rfl, hb1⟩
            clear hcon
            go_wp2_with fail
            refine (keywords_any w1).mono ?_
            rintro e w2 ⟨v, rfl, hS, hb2⟩
            have hh := has_any keyW v s w2 hS (by decide)
            generalize keyW.contains s.data.toList = q at *
            go_wp2_with fail
            refine hh.mono ?_
            rintro e w3 ⟨rfl, rfl⟩
            go_wp2_with fail
            go_ret
            exact ⟨Sx.ret_bool hx.out.symm, (hX.trans (hb1.mono hX.size)).trans (hb2.mono (hX.trans (hb1.mono hX.size)).size)⟩
end Rc
end Go.Proofs.YtflhmoelenmomaaGreatDoor

/-
  A region that draws its order, reads memory and calls what makes memory: one walk in the text's order, over all worlds that extend the one at hand.
-/
namespace Go.Proofs.YtflhmoelenmomaaGreatDoor
open Go.RowKit
namespace Sx

open Classical in
/-- a world that extends X -/
noncomputable def ext (X Y : World) : World := if Below X.heap.size X Y then Y else X
theorem ext_below (X Y : World) : Below X.heap.size X (ext X Y) := by
  unfold ext
  split
  · assumption
  · exact Below.refl _ _
theorem ext_of {X Y : World} (h : Below X.heap.size X Y) : Y = ext X Y := by
  unfold ext
  rw [if_pos h]
theorem ext_cell {X : World} {p : Addr} {v : Value} (h : X.cell? p = some v) (Y : World) : (ext X Y).cell? p = some v := keep_cell (ext_below X Y) h
theorem keep_below {W0 W W' : World} (h : Below W0.heap.size W0 W) (hb : Below W.heap.size W W') : Below W0.heap.size W0 W' := h.trans (hb.mono h.size)
theorem ext_ex {X Y : World} (h : Below X.drew.heap.size X.drew Y) : ∃ Z, Y = ext X Z := ⟨Y, ext_of ⟨h.os, h.tape, h.output, h.size, h.block⟩⟩
theorem calls_ext {P : Program} {f : FuncId} {args : Array Value} {X Y : World} {v : Value}
    (h : Calls P f args (ext X Y) fun e w' => e = .returned v ∧ Below (ext X Y).heap.size (ext X Y) w') : Calls P f args (ext X Y) fun e w'' => e = .returned v ∧ ∃ Z, w'' = ext X Z :=
  h.mono fun _ w' ⟨he, hb⟩ => ⟨he, w', ext_of (keep_below (ext_below X Y) hb)⟩
theorem wp_region_ext {P : Program} {id : Nat} {Q : Exit → Act → World → Prop} {a : Act} {X : World} {l : List Oper} (hm : P.follows .mixedOrders = true) (hB : Region.lexB .any l.toArray = true)
    (h : wpQuiet P l.toArray (fun w' => ∃ Y, w' = ext X Y) (fun a' => ∀ w', (∃ Y, w' = ext X Y) → Q .normal a' w') l a) : (Code.region id l.toArray true).wp P Q a X :=
  wp_region_quiet (C := fun w' => ∃ Y, w' = ext X Y) hm hB ⟨X.drewN 1, ext_of (below_drewN (Below.refl _ _) 1)⟩ (by simpa using h)
end Sx
end Go.Proofs.YtflhmoelenmomaaGreatDoor

/-
  Memory lemmas for the walks of a recipe's reading; fail. (printed by gen_RcM.py)
-/
namespace Go.Proofs.YtflhmoelenmomaaGreatDoor
open Go.RowKit
namespace Rc

def u8s (l : List UInt8) : List Value := l.map fun b => Value.int .u8 (b.toNat : Int)
theorem u8s_app (a b : List UInt8) : u8s (a ++ b) = u8s a ++ u8s b := List.map_append
theorem info_u8 : (Tryz.prog.info? 5).map (fun i => (i.zero, i.size, i.bytes)) = some (some (.int .u8 0), 1, 1) := by kernel_rfl
theorem own_block {w w' : World} {B e size n : Nat} {v : Value} {xs : List Value} (h : w.ownsRow B e size v n xs) (hb : ∀ k, v.ownBlock = some k → w'.heap[k]? = w.heap[k]?) : w'.ownsRow B e size v n xs := by
  refine ⟨h.1, ?_⟩
  rcases h.2 with hn | ⟨g, cap, cur, rfl, hg, hgg, rest⟩
  · exact .inl hn
  · exact .inr ⟨g, cap, cur, rfl, hg, by rw [hb g rfl]; exact hgg, rest⟩
theorem own_form {W : World} {B e size n : Nat} {v : Value} {xs : List Value} (h : W.ownsRow B e size v n xs) : ∃ sl cap, v = .slice sl n cap := by
  rcases h.2 with ⟨rfl, rfl⟩ | ⟨g, cap, cur, rfl, hg, hgg, rest⟩
  · exact ⟨_, _, rfl⟩
  · exact ⟨_, _, rfl⟩
theorem own_conv {W : World} {B : Nat} {v : Value} {l : List UInt8} (h : W.ownsRow B 5 1 v l.length (u8s l)) (hl : 0 < l.length) : (convert 117 9 v).run Tryz.prog W = .ok (.string ⟨l.toArray⟩) W := by
  obtain ⟨g, cap, rfl, _, _⟩ := h.form hl
  refine run_convert_bytes_back W 117 9 5 ⟨g, 0, none⟩ cap l Tryz.underlying117 Tryz.underlying5 Tryz.underlying9 (fun j hj => ?_)
  refine h.cells (g := g) rfl j _ ?_
  simp [u8s, List.getElem?_eq_getElem hj]
theorem own_mono {W : World} {B B' e size n : Nat} {v : Value} {xs : List Value} (hB : B ≤ B') (h : W.ownsRow B' e size v n xs) : W.ownsRow B e size v n xs := by
  refine ⟨h.1, ?_⟩
  rcases h.2 with hn | ⟨g, cap, cur, rfl, hg, rest⟩
  · exact .inl hn
  · exact .inr ⟨g, cap, cur, rfl, Nat.le_trans hB hg, rest⟩
/-- from W to W' nothing that was there is written but block b -/
structure Fq (W W' : World) (b : Nat) : Prop where
  below : Below b W W'
  block : ∀ k, k < W.heap.size → k ≠ b → W'.heap[k]? = W.heap[k]?
theorem Fq.refl (W : World) (b : Nat) : Fq W W b := ⟨Below.refl _ _, fun _ _ _ => rfl⟩
theorem Fq.trans {W W' W'' : World} {b : Nat} (h : Fq W W' b) (g : Fq W' W'' b) : Fq W W'' b :=
  ⟨h.below.trans g.below, fun k hk h1 => (g.block k (Nat.lt_of_lt_of_le hk h.below.size) h1).trans (h.block k hk h1)⟩
theorem Fq.of_below {W W' : World} {b : Nat} (h : Below W.heap.size W W') (hlt : b ≤ W.heap.size) : Fq W W' b := ⟨h.mono hlt, fun k hk _ => h.block k hk⟩
theorem Fq.step {W W' W'' : World} {b : Nat} (h : Fq W W' b) (hb : b < W.heap.size) (g : Below W'.heap.size W' W'') : Fq W W'' b :=
  h.trans (Fq.of_below g (Nat.le_trans (Nat.le_of_lt hb) h.below.size))
theorem Fq.set {W W' : World} {b : Nat} (h : Fq W W' b) (j : Nat) (v : Value) : Fq W (W'.setCell ⟨b, j, none⟩ v) b :=
  ⟨h.below.setCell (p := ⟨b, j, none⟩) (Nat.le_refl _) _, fun k hk h1 => (Below.heap_setCell _ _ _ _ h1).trans (h.block k hk h1)⟩
/-- a store into what is new -/
theorem Fq.new {W W' : World} {b : Nat} (h : Fq W W' b) (hb : b < W.heap.size) (p : Addr) (hp : W.heap.size ≤ p.block) (v : Value) : Fq W (W'.setCell p v) b :=
  ⟨h.below.setCell (by omega) _, fun k hk h1 => (Below.heap_setCell _ _ _ _ (by omega)).trans (h.block k hk h1)⟩
theorem Fq.drew {W W' : World} {b : Nat} (h : Fq W W' b) (n : Nat) : Fq W (W'.drewN n) b := ⟨below_drewN h.below n, h.block⟩
theorem sne_tt {a b : ByteArray} (h : a ≠ b) : (a.toList != b.toList) = true := by unfold bne; rw [Sx.seq_ff h]; rfl
theorem sne_ff {a b : ByteArray} (h : a = b) : (a.toList != b.toList) = false := by unfold bne; rw [Sx.seq_tt h]; rfl
/-- the reader: its text, its place, the token that stands next, how deep it is -/
structure RD (W : World) (b : Nat) (s : ByteArray) (m : Nat) (tx : Bool) (ts : ByteArray) (tp : Nat) (dp : Int) : Prop where
  lt : b < W.heap.size
  c0 : W.cell? ⟨b, 0, none⟩ = some (.string s)
  c1 : W.cell? ⟨b, 1, none⟩ = some (.int .i64 m)
  c2 : W.cell? ⟨b, 2, none⟩ = some (.bool tx)
  c3 : W.cell? ⟨b, 3, none⟩ = some (.string ts)
  c4 : W.cell? ⟨b, 4, none⟩ = some (.int .i64 tp)
  c5 : W.cell? ⟨b, 5, none⟩ = some (.int .i64 dp)
  fz : ∀ j, W.frozen? ⟨b, j, none⟩ = false
section
variable {W W' : World} {b : Nat} {s : ByteArray} {m : Nat} {tx : Bool} {ts : ByteArray} {tp : Nat} {dp : Int}
theorem RD.block (h : RD W b s m tx ts tp dp) (hs : W.heap.size ≤ W'.heap.size) (hb : W'.heap[b]? = W.heap[b]?) : RD W' b s m tx ts tp dp :=
  ⟨Nat.lt_of_lt_of_le h.lt hs, (World.cell?_of_block hb).trans h.c0, (World.cell?_of_block hb).trans h.c1, (World.cell?_of_block hb).trans h.c2, (World.cell?_of_block hb).trans h.c3, (World.cell?_of_block hb).trans h.c4, (World.cell?_of_block hb).trans h.c5, fun j => (World.frozen?_of_block hb).trans (h.fz j)⟩
theorem RD.keep (h : RD W b s m tx ts tp dp) (hb : Below W.heap.size W W') : RD W' b s m tx ts tp dp := h.block hb.size (hb.block b h.lt)
theorem RD.drewN (h : RD W b s m tx ts tp dp) (n : Nat) : RD (W.drewN n) b s m tx ts tp dp := h.block (Nat.le_refl _) rfl
theorem RD.move (h : RD W b s m tx ts tp dp) (m' : Nat) {z : Int} (hz : z = m') : RD (W.setCell ⟨b, 1, none⟩ (.int .i64 z)) b s m' tx ts tp dp := by
  subst hz
  refine ⟨by simpa [World.setCell] using h.lt, ?_, World.cell?_setCell_same _ _ _ h.c1, ?_, ?_, ?_, ?_, fun j => ?_⟩
  · rw [World.cell?_setCell_other _ _ _ _ (by simp)]; exact h.c0
  · rw [World.cell?_setCell_other _ _ _ _ (by simp)]; exact h.c2
  · rw [World.cell?_setCell_other _ _ _ _ (by simp)]; exact h.c3
  · rw [World.cell?_setCell_other _ _ _ _ (by simp)]; exact h.c4
  · rw [World.cell?_setCell_other _ _ _ _ (by simp)]; exact h.c5
  · rw [World.frozen?_setCell]; exact h.fz j
theorem RD.dep (h : RD W b s m tx ts tp dp) (d : Int) : RD (W.setCell ⟨b, 5, none⟩ (.int .i64 d)) b s m tx ts tp d := by
  refine ⟨by simpa [World.setCell] using h.lt, ?_, ?_, ?_, ?_, ?_, World.cell?_setCell_same _ _ _ h.c5, fun j => ?_⟩
  · rw [World.cell?_setCell_other _ _ _ _ (by simp)]; exact h.c0
  · rw [World.cell?_setCell_other _ _ _ _ (by simp)]; exact h.c1
  · rw [World.cell?_setCell_other _ _ _ _ (by simp)]; exact h.c2
  · rw [World.cell?_setCell_other _ _ _ _ (by simp)]; exact h.c3
  · rw [World.cell?_setCell_other _ _ _ _ (by simp)]; exact h.c4
  · rw [World.frozen?_setCell]; exact h.fz j
theorem RD.now (h : RD W b s m tx ts tp dp) (tx' : Bool) (ts' : ByteArray) (tp' : Nat) : RD (((W.setCell ⟨b, 2, none⟩ (.bool tx')).setCell ⟨b, 3, none⟩ (.string ts')).setCell ⟨b, 4, none⟩ (.int .i64 tp')) b s m tx' ts' tp' dp := by
  have h2 := World.cell?_setCell_same W ⟨b, 2, none⟩ (.bool tx') h.c2
  have h3 := World.cell?_setCell_same (W.setCell ⟨b, 2, none⟩ (.bool tx')) ⟨b, 3, none⟩ (.string ts') (by rw [World.cell?_setCell_other _ _ _ _ (by simp)]; exact h.c3)
  have h4 := World.cell?_setCell_same ((W.setCell ⟨b, 2, none⟩ (.bool tx')).setCell ⟨b, 3, none⟩ (.string ts')) ⟨b, 4, none⟩ (.int .i64 tp') (by rw [World.cell?_setCell_other _ _ _ _ (by simp), World.cell?_setCell_other _ _ _ _ (by simp)]; exact h.c4)
  refine ⟨by simpa [World.setCell] using h.lt, ?_, ?_, ?_, ?_, h4, ?_, fun j => ?_⟩
  · rw [World.cell?_setCell_other _ _ _ _ (by simp), World.cell?_setCell_other _ _ _ _ (by simp), World.cell?_setCell_other _ _ _ _ (by simp)]; exact h.c0
  · rw [World.cell?_setCell_other _ _ _ _ (by simp), World.cell?_setCell_other _ _ _ _ (by simp), World.cell?_setCell_other _ _ _ _ (by simp)]; exact h.c1
  · rw [World.cell?_setCell_other _ _ _ _ (by simp), World.cell?_setCell_other _ _ _ _ (by simp)]; exact h2
  · rw [World.cell?_setCell_other _ _ _ _ (by simp)]; exact h3
  · rw [World.cell?_setCell_other _ _ _ _ (by simp), World.cell?_setCell_other _ _ _ _ (by simp), World.cell?_setCell_other _ _ _ _ (by simp)]; exact h.c5
  · rw [World.frozen?_setCell, World.frozen?_setCell, World.frozen?_setCell]; exact h.fz j
end
/-- so much is left -/
def mz (s : ByteArray) (b : Nat) (W : World) : Nat := s.size - (intOf ((W.cell? ⟨b, 1, none⟩).getD (.int .i64 0))).toNat
theorem mz_of {W : World} {b : Nat} {s : ByteArray} {m : Nat} {tx : Bool} {ts : ByteArray} {tp : Nat} {dp : Int} (h : RD W b s m tx ts tp dp) : mz s b W = s.size - m := by
  unfold mz
  rw [h.c1]
  simp [intOf]
end Rc
end Go.Proofs.YtflhmoelenmomaaGreatDoor

/-
  A region that draws its order and holds both reads and what makes memory: the reads are taken first (they yield the same in every world that the rest can leave), the rest stands in one order.
-/
namespace Go.Proofs.YtflhmoelenmomaaGreatDoor
open Go.RowKit
namespace Mix
section
variable {P : Program} {ops : Array Oper} {Q : Exit → Act → World → Prop} {md : Region.Mode} {C : World → Prop}

/-- whatever order of the operations below n is picked, and each world on the way is of the class -/
def anyL (P : Program) (md : Region.Mode) (ops : Array Oper) (Q : Exit → Act → World → Prop) (C : World → Prop) (n : Nat) (L : Array Bool → Act → World → Prop) : Nat → Array Bool → Act → World → Prop
  | 0, listed, a, w => L listed a w
  | fuel + 1, listed, a, w =>
    Region.ready md ops listed ≠ [] ∧ ∀ i ∈ Region.ready md ops listed, i < n ∧ wpOp P ops Q i (fun a' w' => C w' ∧ anyL P md ops Q C n L fuel (listed.setIfInBounds i true) a' w') a w
theorem any_of {n g : Nat} {L : Array Bool → Act → World → Prop} (hL : ∀ listed a w, L listed a w → wpAny P md ops Q g listed a w) : ∀ (fuel : Nat) (listed : Array Bool) (a : Act) (w : World), anyL P md ops Q C n L fuel listed a w → wpAny P md ops Q (fuel + g) listed a w
  | 0, _, _, _, h => by rw [Nat.zero_add]; exact hL _ _ _ h
  | fuel + 1, _, _, _, h => by
    rw [show fuel + 1 + g = (fuel + g) + 1 by omega]
    exact ⟨fun h0 => absurd h0 h.1, fun i hi => wpOp_mono (fun a' w' h' => any_of hL fuel _ a' w' h'.2) (h.2 i hi).2⟩

/-- in state a operation o yields v and leaves the world as it is, in every world of the class -/
def Same (P : Program) (ops : Array Oper) (C : World → Prop) (o : Oper) (v : Value) (a : Act) : Prop := ∀ w, C w → YieldsAt P ops w o v a
theorem Same.of_same {o : Oper} {v : Value} {a a' : Act} (hy : Same P ops C o v a) (he : execOp a'.eval o = execOp a.eval o)
    (hw : Region.wanted o (yielded ops a'.tmps) = Region.wanted o (yielded ops a.tmps)) : Same P ops C o v a' := fun w hc => (hy w hc).of_same he hw
theorem Same.op {i : Nat} {o : Oper} {v : Value} {a : Act} (hi : ops[i]? = some o) (hy : Same P ops C o v a) {K : Act → World → Prop} {w : World} (hc : C w) (h : K (a.put o.dst v) w) : wpOp P ops Q i K a w :=
  wpOp_of_stOp (K := fun a' => K a' w) (fun _ h => h) ((hy w hc).stOp hi h)
theorem op_put {j : Nat} {oi oj : Oper} {v : Value} (hj : ops[j]? = some oj) (hap : oi.apart ops oj = true)
    (hsi : ∀ cs b, oi.op ≠ .select cs b) (hsj : ∀ cs b, oj.op ≠ .select cs b)
    (hQ : ∀ c a v w, Q (.panic c) (Act.put a oi.dst v) w → Q (.panic c) a w) {K : Act → World → Prop} {a : Act} {w : World}
    (hy : Same P ops C oi v a) (h : wpOp P ops Q j K (a.put oi.dst v) w) :
    wpOp P ops Q j (fun a' w' => Same P ops C oi v a' ∧ K (a'.put oi.dst v) w') a w := by
  obtain ⟨h1, h2, h3⟩ := Oper.apart_spec hap
  have keep : ∀ (a : Act), Same P ops C oi v a → ∀ u, Same P ops C oi v (a.put oj.dst u) := fun a hy u =>
    hy.of_same (execOp_put oi hsi a oj.dst u h3) (wanted_put oi a oj.dst u h3)
  have keepD : ∀ d, Same P ops C oi v { a with defers := d :: a.defers } := fun d => hy.of_same rfl rfl
  unfold wpOp at *
  simp only [hj] at *
  rw [wanted_put oj a oi.dst v h1] at h
  split
  · rename_i hw
    simp only [hw, if_true] at h
    rcases h with h | ⟨hasks, hlets⟩
    case inr => exact .inr ⟨by unfold Oper.asks at *; rw [execOp_put oj hsj a oi.dst v h1] at hasks; exact hasks, hlets⟩
    refine .inl ?_
    unfold Oper.wp at *
    rw [execOp_put oj hsj a oi.dst v h1] at h
    generalize (execOp a.eval oj).run P w = r at *
    cases r with
    | ok n w' =>
      cases n <;> simp only [Oper.upon] at h ⊢
      case value u => exact ⟨keep a hy u, by rw [← Act.put_comm a v u h2]; exact h⟩
      case skip => exact ⟨keep a hy _, by rw [← Act.put_comm a v undef h2]; exact h⟩
      case defer d =>
        refine ⟨keep _ (keepD d) _, ?_⟩
        rw [← Act.put_comm _ v undef h2, ← Act.put_defers]
        exact h
      case enter f args =>
        refine Calls.mono h fun e w'' he => ?_
        cases e with
        | returned u => exact ⟨keep a hy u, by rw [← Act.put_comm a v u h2]; exact he⟩
        | panicked c => exact hQ _ _ _ _ he
        | outgrown => exact he
      case row row args => exact Rows.mono h fun u w'' he => ⟨keep a hy u, by rw [← Act.put_comm a v u h2]; exact he⟩
    | halt x w' =>
      cases x <;> simp only [Oper.upon] at h ⊢
      case panic u => exact hQ _ _ _ _ h
  · rename_i hw
    simp only [hw] at h
    exact ⟨keep a hy _, by rw [← Act.put_comm a v undef h2]; exact h⟩

/-- an operation that yields the same in every world of the class may be taken first -/
theorem any_first {n : Nat} {L : Array Bool → Act → World → Prop} (ht : ∀ listed, HeadInv md ops n listed → ∀ i, i < n → listed.getD i true = false → ∀ t, n ≤ t → t ∉ Region.ready md ops listed)
    (hdone : ∀ listed a w, L listed a w → ∀ j ∈ Region.ready md ops listed, n ≤ j)
    {i : Nat} {oi : Oper} {v : Value} (hQ : ∀ c a v w, Q (.panic c) (Act.put a oi.dst v) w → Q (.panic c) a w) (hi : ops[i]? = some oi) (hin : i < n) (hsel : ∀ (j : Nat) (o : Oper) cs b, ops[j]? = some o → o.op ≠ .select cs b) :
    ∀ (fuel : Nat) (listed : Array Bool) (a : Act) (w : World), C w → HeadInv md ops n listed →
      (∀ j oj, ops[j]? = some oj → j ≠ i → listed.getD j true = false → (∀ e ∈ oj.after, Region.binds md e = true → e.on ≠ i) → oi.apart ops oj = true) →
      i ∈ Region.ready md ops listed → Same P ops C oi v a →
      anyL P md ops Q C n L fuel (listed.setIfInBounds i true) (a.put oi.dst v) w → anyL P md ops Q C n L (fuel + 1) listed a w := by
  intro fuel
  induction fuel with
  | zero =>
    intro listed a w hc inv hfree hr hy H
    have hun := (mem_ready.1 hr).1
    refine ⟨fun h => (by rw [h] at hr; cases hr), fun j hj => ?_⟩
    have hjn : j < n := by
      rcases Nat.lt_or_ge j n with h | h
      · exact h
      · exact absurd hj (ht listed inv i hin hun j h)
    refine ⟨hjn, ?_⟩
    by_cases hji : j = i
    · subst hji; exact hy.op hi hc ⟨hc, H⟩
    · have := hdone _ _ _ H j (ready_mono hj hji)
      omega
  | succ fuel ih =>
    intro listed a w hc inv hfree hr hy H
    have hun := (mem_ready.1 hr).1
    refine ⟨fun h => (by rw [h] at hr; cases hr), fun j hj => ?_⟩
    have hjn : j < n := by
      rcases Nat.lt_or_ge j n with h | h
      · exact h
      · exact absurd hj (ht listed inv i hin hun j h)
    refine ⟨hjn, ?_⟩
    by_cases hji : j = i
    · subst hji; exact hy.op hi hc ⟨hc, H⟩
    · have h1 := (H.2 j (ready_mono hj hji)).2
      obtain ⟨hjun, oj, hoj, hall⟩ := mem_ready.1 hj
      have hnot : ∀ e ∈ oj.after, Region.binds md e = true → e.on ≠ i := fun e he hb heq => by
        have h1 := hall e he hb
        have h0 := (mem_ready.1 hr).1
        rw [heq] at h1
        rcases Nat.lt_or_ge i listed.size with h' | h'
        · simp [h'] at h0 h1; rw [h0] at h1; cases h1
        · simp [Array.getElem?_eq_none h'] at h1
      have h2 := op_put hoj (hfree j oj hoj hji hjun hnot) (fun cs b => hsel i oi cs b hi) (fun cs b => hsel j oj cs b hoj) hQ hy h1
      have hfree' : ∀ k ok, ops[k]? = some ok → k ≠ i → (listed.setIfInBounds j true).getD k true = false →
          (∀ e ∈ ok.after, Region.binds md e = true → e.on ≠ i) → oi.apart ops ok = true := fun k ok hk hki hun hno => by
        refine hfree k ok hk hki ?_ hno
        by_cases hjk : j = k
        · subst hjk; exact hjun
        · rw [getD_set_ne true hjk] at hun; exact hun
      refine wpOp_mono (fun a' w' h3 => ⟨h3.2.1, ih (listed.setIfInBounds j true) a' w' h3.2.1 (inv.set hj hjn) hfree' (ready_mono hr (Ne.symm hji)) h3.1 ?_⟩) h2
      rw [Array.setIfInBounds_comm _ _ hji]
      exact h3.2.2

/-- no call of a Go function -/
def plainB (o : Oper) : Bool := match o.op with
  | .move _ | .assign _ | .nilCheck _ | .pick _ _ _ | .load _ _ | .fieldAddr _ _ _ | .field _ _ _ | .indexAddr _ _ _ | .index _ _ _ | .binOp _ _ _ _ _ | .unOp _ _ _ | .extract _ _ | .convert _ _ _ | .slice _ _ _ _ _ | .makeInterface _ _ | .build _ _ => true
  | .call { callee := .builtin .len, .. } => true
  | _ => false
theorem run_value {α : Type} {s : Sem α} {g : α → Value} {w w' : World} {f : FuncId} {args : Array Value} : (s >>= fun x => (pure (Next.value (g x)) : Sem Next)).run P w ≠ .ok (.enter f args) w' := by
  rw [Sem.run_bind]
  cases s.run P w <;> simp
theorem ne_bind {α : Type} {s : Sem α} {k : α → Sem Next} {w w' : World} {f : FuncId} {args : Array Value} (h : ∀ a w, (k a).run P w ≠ .ok (.enter f args) w') : (s >>= k).run P w ≠ .ok (.enter f args) w' := by
  rw [Sem.run_bind]
  cases hs : s.run P w with
  | ok a w1 => simp only [Result.andThen_ok]; exact h a w1
  | halt x w1 => simp [Result.andThen]
theorem ne_panic {w w' : World} {f : FuncId} {args : Array Value} : (runtimePanic RuntimeError.nilDeref : Sem Next).run P w ≠ .ok (.enter f args) w' := by
  unfold runtimePanic
  refine ne_bind fun p w1 => ?_
  simp [goPanic]
theorem plain_run {o : Oper} (h : plainB o = true) (ρ : Operand → Value) (w w' : World) (f : FuncId) (args : Array Value) : (execOp ρ o).run P w ≠ .ok (.enter f args) w' := by
  obtain ⟨dst, op, type, pos, after, guard⟩ := o
  cases op
  case call c =>
    obtain ⟨callee, xs, ts⟩ := c
    cases callee
    case builtin b =>
      cases b <;> first | (simp [plainB] at h; done) | (simp only [execOp, resolve, invoke, builtin, pure_bind]; exact run_value)
    all_goals simp [plainB] at h
  case nilCheck x =>
    simp only [execOp]
    split
    · exact ne_panic
    · exact ne_panic
    · exact ne_panic
    · split
      · exact ne_panic
      · refine ne_bind fun p w1 => ne_bind fun r w2 => ?_
        split
        · simp
        · simp
      · simp
    · simp
  all_goals first
    | (simp [plainB] at h; done)
    | (simp only [execOp]; exact run_value)
    | (simp only [execOp]; intro e; simp at e)
theorem quiet_same {o : Oper} {a : Act} {K : Act → Prop} (hp : plainB o = true) (hw : Region.wanted o (yielded ops a.tmps) = true) (h : o.quiet P a C K) : ∃ v, Same P ops C o v a ∧ K (a.put o.dst v) := by
  obtain ⟨v, h1, h2⟩ := h
  refine ⟨v, fun w hc => .inl ⟨hw, ?_⟩, h2⟩
  have h3 := h1 w hc
  unfold Oper.quietAt at h3
  have h4 := fun w' f args => plain_run (P := P) hp a.eval w w' f args
  generalize (execOp a.eval o).run P w = r at *
  cases r with
  | ok n w' =>
    cases n <;> simp only [Oper.quietUpon] at h3
    case value u => obtain ⟨rfl, rfl⟩ := h3; exact .inl rfl
    case skip => obtain ⟨rfl, rfl⟩ := h3; exact .inr (.inl ⟨rfl, rfl⟩)
    case enter f args => exact absurd rfl (h4 _ _ _)
  | halt x w' => simp only [Oper.quietUpon] at h3

/-- operations in one order, each world on the way of the class -/
def eff (P : Program) (ops : Array Oper) (Q : Exit → Act → World → Prop) (C : World → Prop) (R : Act → World → Prop) : List Oper → Act → World → Prop
  | [], a, w => R a w
  | o :: l, a, w => if Region.wanted o (yielded ops a.tmps) then o.wp P a w (fun a' w' => C w' ∧ eff P ops Q C R l a' w') Q else eff P ops Q C R l (a.put o.dst undef) w
theorem eff_nil {R : Act → World → Prop} {a : Act} {w : World} (h : R a w) : eff P ops Q C R [] a w := h
theorem eff_step {R : Act → World → Prop} {o : Oper} {l : List Oper} {a : Act} {w : World}
    (h : ∀ K : Act → World → Prop, (∀ a' w', C w' → eff P ops Q C R l a' w' → K a' w') → if Region.wanted o (yielded ops a.tmps) then o.wp P a w K Q else K (a.put o.dst undef) w) : eff P ops Q C R (o :: l) a w := by
  have h' := h (fun a' w' => C w' ∧ eff P ops Q C R l a' w') (fun a' w' h1 h2 => ⟨h1, h2⟩)
  unfold eff
  split
  · rename_i hw; rw [if_pos hw] at h'; exact h'
  · rename_i hw; rw [if_neg hw] at h'; exact h'.2
/-- parts in turn: reads (true), what is forced (false) -/
def parts (P : Program) (ops : Array Oper) (Q : Exit → Act → World → Prop) (C : World → Prop) (R : Act → World → Prop) : List (Bool × List Oper) → Act → World → Prop
  | [], a, w => R a w
  | (true, qs) :: r, a, w => wpQuiet P ops C (fun a' => parts P ops Q C R r a' w) qs a
  | (false, es) :: r, a, w => eff P ops Q C (fun a' w' => parts P ops Q C R r a' w') es a w
def okIs (md : Region.Mode) (ops : Array Oper) (n : Nat) (b : Bool) : List Nat → Array Bool → Bool
  | [], _ => true
  | i :: is, listed => decide (i < n) && (bif b then (Region.ready md ops listed).contains i && Region.free md ops listed i && ((ops[i]?).map plainB).getD false else decide (Region.ready md ops listed = [i])) && okIs md ops n b is (listed.setIfInBounds i true)
def setIs : List Nat → Array Bool → Array Bool
  | [], listed => listed
  | i :: is, listed => setIs is (listed.setIfInBounds i true)
def okPs (md : Region.Mode) (ops : Array Oper) (n : Nat) : List (Bool × List Nat) → Array Bool → Bool
  | [], listed => Region.seqB md ops (ops.size - n) n listed
  | (b, is) :: r, listed => okIs md ops n b is listed && okPs md ops n r (setIs is listed)
def cnt : List (Bool × List Nat) → Nat
  | [] => 0
  | (_, is) :: r => is.length + cnt r
section
variable {n : Nat} {L : Array Bool → Act → World → Prop} (hQ : ∀ (i : Nat) (o : Oper), ops[i]? = some o → ∀ c a v w, Q (.panic c) (Act.put a o.dst v) w → Q (.panic c) a w) (ht : ∀ listed, HeadInv md ops n listed → ∀ i, i < n → listed.getD i true = false → ∀ t, n ≤ t → t ∉ Region.ready md ops listed)
    (hdone : ∀ listed a w, L listed a w → ∀ j ∈ Region.ready md ops listed, n ≤ j) (hsel : Region.noSelect ops = true)
include hQ ht hdone hsel
theorem q_any {R : Act → Prop} {m : Nat} {w : World} (hc : C w) : ∀ (is : List Nat) (qs : List Oper) (listed : Array Bool) (a : Act), HeadInv md ops n listed →
    is.map (fun i => ops[i]?) = qs.map some → okIs md ops n true is listed = true → (∀ a', HeadInv md ops n (setIs is listed) → R a' → anyL P md ops Q C n L m (setIs is listed) a' w) → wpQuiet P ops C R qs a → anyL P md ops Q C n L (is.length + m) listed a w
  | [], qs, listed, a, inv, hm, _, hR, h => by
    cases qs with
    | nil => rw [List.length_nil, Nat.zero_add]; exact hR a inv h
    | cons o qs => simp at hm
  | i :: is, qs, listed, a, inv, hm, hB, hR, h => by
    cases qs with
    | nil => simp at hm
    | cons o qs =>
      simp only [List.map_cons, List.cons.injEq] at hm
      obtain ⟨ho, hm⟩ := hm
      simp only [okIs, cond_true, Bool.and_eq_true, ho, Option.map_some, Option.getD_some, decide_eq_true_eq] at hB
      obtain ⟨⟨hin, ⟨hr, hf⟩, hp⟩, hB'⟩ := hB
      have e : (i :: is).length + m = is.length + m + 1 := by simp; omega
      rw [e]
      have hr' : i ∈ Region.ready md ops listed := by simpa using hr
      unfold wpQuiet at h
      by_cases hw : Region.wanted o (yielded ops a.tmps) = true
      · rw [if_pos hw] at h
        obtain ⟨v, hy, hk⟩ := quiet_same hp hw h
        exact any_first ht hdone (hQ i o ho) ho hin (Region.noSelect_spec hsel) _ listed a w hc inv (Region.free_spec ho hf) hr' hy (q_any hc is qs _ _ (inv.set hr' hin) hm hB' hR hk)
      · rw [if_neg hw] at h
        exact any_first ht hdone (hQ i o ho) ho hin (Region.noSelect_spec hsel) _ listed a w hc inv (Region.free_spec ho hf) hr' (v := undef) (fun _ _ => .inr ⟨by simpa using hw, rfl⟩) (q_any hc is qs _ _ (inv.set hr' hin) hm hB' hR h)
omit hQ ht hdone hsel in
theorem e_any {R : Act → World → Prop} {m : Nat} : ∀ (is : List Nat) (es : List Oper) (listed : Array Bool) (a : Act) (w : World), C w → HeadInv md ops n listed →
    is.map (fun i => ops[i]?) = es.map some → okIs md ops n false is listed = true → (∀ a' w', C w' → HeadInv md ops n (setIs is listed) → R a' w' → anyL P md ops Q C n L m (setIs is listed) a' w') → eff P ops Q C R es a w → anyL P md ops Q C n L (is.length + m) listed a w
  | [], es, listed, a, w, hc, inv, hm, _, hR, h => by
    cases es with
    | nil => rw [List.length_nil, Nat.zero_add]; exact hR a w hc inv h
    | cons o es => simp at hm
  | i :: is, es, listed, a, w, hc, inv, hm, hB, hR, h => by
    cases es with
    | nil => simp at hm
    | cons o es =>
      simp only [List.map_cons, List.cons.injEq] at hm
      obtain ⟨ho, hm⟩ := hm
      simp only [okIs, cond_false, Bool.and_eq_true, decide_eq_true_eq] at hB
      obtain ⟨⟨hin, hr⟩, hB'⟩ := hB
      have e : (i :: is).length + m = is.length + m + 1 := by simp; omega
      rw [e]
      refine ⟨fun h0 => (by rw [hr] at h0; cases h0), fun j hj => ?_⟩
      have hj' := hj
      rw [hr] at hj
      obtain rfl : j = i := by simpa using hj
      refine ⟨hin, ?_⟩
      have inv' := inv.set hj' hin
      unfold wpOp
      simp only [ho]
      unfold eff at h
      split
      · rename_i hw
        rw [if_pos hw] at h
        exact .inl (Oper.wp_mono (fun a' w' h' => ⟨h'.1, e_any is es _ a' w' h'.1 inv' hm hB' hR h'.2⟩) h)
      · rename_i hw
        rw [if_neg hw] at h
        exact ⟨hc, e_any is es _ _ w hc inv' hm hB' hR h⟩
theorem parts_any {R : Act → World → Prop} (hend : ∀ listed a w, C w → Region.seqB md ops (ops.size - n) n listed = true → R a w → L listed a w) : ∀ (ix : List (Bool × List Nat)) (os : List (Bool × List Oper)) (listed : Array Bool) (a : Act) (w : World), C w → HeadInv md ops n listed →
    ix.map (fun p => (p.1, p.2.map (fun i => ops[i]?))) = os.map (fun p => (p.1, p.2.map some)) → okPs md ops n ix listed = true → parts P ops Q C R os a w → anyL P md ops Q C n L (cnt ix) listed a w
  | [], os, listed, a, w, hc, _, hm, hB, h => by
    cases os with
    | nil => exact hend _ _ _ hc (by simpa [okPs] using hB) h
    | cons p os => simp at hm
  | (b, is) :: ix, os, listed, a, w, hc, inv, hm, hB, h => by
    cases os with
    | nil => simp at hm
    | cons p os =>
      obtain ⟨b', qs⟩ := p
      simp only [List.map_cons, List.cons.injEq, Prod.mk.injEq] at hm
      obtain ⟨⟨rfl, hq⟩, hm⟩ := hm
      simp only [okPs, Bool.and_eq_true] at hB
      cases b with
      | true => exact q_any hQ ht hdone hsel hc is qs listed a inv hq hB.1 (fun a' inv' h' => parts_any hend ix os _ a' w hc inv' hm hB.2 h') h
      | false => exact e_any is qs listed a w hc inv hq hB.1 (fun a' w' hc' inv' h' => parts_any hend ix os _ a' w' hc' inv' hm hB.2 h') h
end

/-- the operations that bear the tag k -/
def sel (k : Nat) : List Nat → List Oper → List Oper
  | t :: ts, o :: os => bif t == k then o :: sel k ts os else sel k ts os
  | _, _ => []
def selI (k : Nat) : List Nat → Nat → List Nat
  | [], _ => []
  | t :: ts, i => bif t == k then i :: selI k ts (i + 1) else selI k ts (i + 1)
theorem sel_cons (k t : Nat) (ts : List Nat) (o : Oper) (os : List Oper) : sel k (t :: ts) (o :: os) = bif t == k then o :: sel k ts os else sel k ts os := rfl
theorem sel_nil (k : Nat) : sel k [] [] = [] := rfl
theorem mix_region {id : Nat} {a : Act} {w : World} {l : List Oper} (C : World → Prop) (n : Nat) (ix : List (Bool × List Nat)) (os : List (Bool × List Oper)) (hm : P.follows .mixedOrders = true) (hQ : ∀ (i : Nat) (o : Oper), l.toArray[i]? = some o → ∀ c a v w, Q (.panic c) (Act.put a o.dst v) w → Q (.panic c) a w)
    (hio : ix.map (fun p => (p.1, p.2.map (fun i => l[i]?))) = os.map (fun p => (p.1, p.2.map some)))
    (hB : (Region.noSelect l.toArray && decide (cnt ix = n) && decide (n ≤ l.length) && (decide (n = l.length) || (Region.sinkB .any l.toArray n && Region.chainB .any l.toArray n)) && okPs .any l.toArray n ix (Array.replicate l.length false)) = true)
    (hc : C w.drew) (h : parts P l.toArray Q C (fun a' w' => wpList P l.toArray Q (l.drop n) a' w') os a w.drew) : (Code.region id l.toArray true).wp P Q a w := by
  simp only [Bool.and_eq_true, Bool.or_eq_true, decide_eq_true_eq] at hB
  obtain ⟨⟨⟨⟨hs, hn⟩, hle⟩, htl⟩, hB⟩ := hB
  have inv0 : HeadInv .any l.toArray n (Array.replicate l.length false) :=
    ⟨by simp, fun j oj _ hl => (by rw [getD_replicate_false] at hl; cases hl), fun t _ ht => getD_in (by simpa using ht) (getD_replicate_false _ _)⟩
  have ht : ∀ listed, HeadInv .any l.toArray n listed → ∀ i, i < n → listed.getD i true = false → ∀ t, n ≤ t → t ∉ Region.ready .any l.toArray listed := by
    rcases htl with rfl | ⟨h1, h2⟩
    · intro listed inv i _ _ t hnt hr
      obtain ⟨_, o, ho, _⟩ := mem_ready.1 hr
      have := (Array.getElem?_eq_some_iff.1 ho).1
      simp at this
      omega
    · intro listed inv i hin hun t hnt hr
      have hlt : n < l.toArray.size := by
        obtain ⟨_, o, ho, _⟩ := mem_ready.1 hr
        have := (Array.getElem?_eq_some_iff.1 ho).1
        omega
      exact tail_waits h1 h2 hlt inv _ i rfl hin hun t hnt hr
  have H := parts_any (md := .any) (L := fun listed a' w' => Region.seqB .any l.toArray (l.toArray.size - n) n listed = true ∧ wpList P l.toArray Q (l.drop n) a' w') hQ ht (fun listed a w hL => seqB_ready hL.1) hs (fun listed a w _ h1 h2 => ⟨h1, h2⟩) ix os (Array.replicate l.length false) a w.drew hc inv0 (by simpa using hio) hB h
  refine wp_region_any hm ?_
  have := any_of (Q := Q) (g := l.toArray.size - n) (fun listed a' w' hL => by
    have := wpAny_of_seq (md := .any) (Q' := Q) (l.drop n) n listed a' w' (fun j => by simp [List.getElem?_drop]) (by rw [show (l.drop n).length = l.toArray.size - n by simp]; exact hL.1) hL.2
    rwa [show (l.drop n).length = l.toArray.size - n by simp] at this) _ _ _ _ H
  rw [hn, show n + (l.toArray.size - n) = l.toArray.size by simp; omega] at this
  simpa using this
def selP (tags : List Nat) (l : List Oper) : Nat → List Bool → List (Bool × List Oper)
  | _, [] => []
  | k, b :: r => (b, sel k tags l) :: selP tags l (k + 1) r
def selX (tags : List Nat) : Nat → List Bool → List (Bool × List Nat)
  | _, [] => []
  | k, b :: r => (b, selI k tags 0) :: selX tags (k + 1) r
theorem selP_nil (tags : List Nat) (l : List Oper) (k : Nat) : selP tags l k [] = [] := rfl
theorem selP_cons (tags : List Nat) (l : List Oper) (k : Nat) (b : Bool) (r : List Bool) : selP tags l k (b :: r) = (b, sel k tags l) :: selP tags l (k + 1) r := rfl
theorem parts_q {R : Act → World → Prop} {qs : List Oper} {r : List (Bool × List Oper)} {a : Act} {w : World} (h : wpQuiet P ops C (fun a' => parts P ops Q C R r a' w) qs a) : parts P ops Q C R ((true, qs) :: r) a w := h
theorem parts_e {R : Act → World → Prop} {es : List Oper} {r : List (Bool × List Oper)} {a : Act} {w : World} (h : eff P ops Q C (fun a' w' => parts P ops Q C R r a' w') es a w) : parts P ops Q C R ((false, es) :: r) a w := h
theorem parts_n {R : Act → World → Prop} {a : Act} {w : World} (h : R a w) : parts P ops Q C R [] a w := h
/-- tags: of each operation, in which part it comes; kinds: of each part, does it only read; n: how many operations have a part (the others come behind, in one order) -/
theorem region {id : Nat} {a : Act} {w : World} {l : List Oper} (C : World → Prop) (n : Nat) (tags : List Nat) (kinds : List Bool) (hm : P.follows .mixedOrders = true) (hQ : ∀ c a d v w, Q (.panic c) (Act.put a d v) w → Q (.panic c) a w)
    (hio : (selX tags 0 kinds).map (fun p => (p.1, p.2.map (fun i => l[i]?))) = (selP tags l 0 kinds).map (fun p => (p.1, p.2.map some)))
    (hB : (Region.noSelect l.toArray && decide (cnt (selX tags 0 kinds) = n) && decide (n ≤ l.length) && (decide (n = l.length) || (Region.sinkB .any l.toArray n && Region.chainB .any l.toArray n)) && okPs .any l.toArray n (selX tags 0 kinds) (Array.replicate l.length false)) = true)
    (hc : C w.drew) (h : parts P l.toArray Q C (fun a' w' => wpList P l.toArray Q (l.drop n) a' w') (selP tags l 0 kinds) a w.drew) : (Code.region id l.toArray true).wp P Q a w :=
  mix_region C n _ _ hm (fun _ _ _ c a v w h => hQ c a _ v w h) hio hB hc h
/-- where a panic's end leans on slot k: no operation writes it -/
theorem region_d {id : Nat} {a : Act} {w : World} {l : List Oper} (C : World → Prop) (n : Nat) (tags : List Nat) (kinds : List Bool) (k : Nat) (hD : l.all (fun o => o.dst != some k) = true) (hm : P.follows .mixedOrders = true) (hQ : ∀ c a d v w, d ≠ some k → Q (.panic c) (Act.put a d v) w → Q (.panic c) a w)
    (hio : (selX tags 0 kinds).map (fun p => (p.1, p.2.map (fun i => l[i]?))) = (selP tags l 0 kinds).map (fun p => (p.1, p.2.map some)))
    (hB : (Region.noSelect l.toArray && decide (cnt (selX tags 0 kinds) = n) && decide (n ≤ l.length) && (decide (n = l.length) || (Region.sinkB .any l.toArray n && Region.chainB .any l.toArray n)) && okPs .any l.toArray n (selX tags 0 kinds) (Array.replicate l.length false)) = true)
    (hc : C w.drew) (h : parts P l.toArray Q C (fun a' w' => wpList P l.toArray Q (l.drop n) a' w') (selP tags l 0 kinds) a w.drew) : (Code.region id l.toArray true).wp P Q a w :=
  mix_region C n _ _ hm (fun i o ho c a v w h => hQ c a _ v w (by
    have hl : l[i]? = some o := by simpa using ho
    have := List.all_eq_true.1 hD o (List.mem_of_getElem? hl)
    simpa using this) h) hio hB hc h
end
end Mix
end Go.Proofs.YtflhmoelenmomaaGreatDoor
