/-
  Plain: the tokens and the reading of a recipe (layer 12). No program in sight.
-/
import Derived.Test.YtcigggffaofkhaaRows
import Derived.WalkKit
namespace Go.Proofs.Ytcigggffaofkhaa
open Go.RowKit
namespace Rc

/-! characters -/
def blank (c : UInt8) : Bool := c == 32 || c == 10 || c == 9 || c == 35
/-- how many bytes are skipped ahead of a token; in a note? -/
def skipL : Bool → List UInt8 → Nat
  | _, [] => 0
  | note, c :: l => if (note || blank c) = true then skipL (c == 35 || (note && c != 10)) l + 1 else 0
def letter (c : UInt8) : Bool := (decide (97 ≤ c.toNat) && decide (c.toNat ≤ 122)) || (decide (48 ≤ c.toNat) && decide (c.toNat ≤ 57)) || c == 95
def sign (c : UInt8) : Bool := c == 40 || c == 41 || c == 43 || c == 61
/-- a digit's number; 16: it is none -/
def hexv (c : UInt8) : Nat := if 48 ≤ c.toNat ∧ c.toNat ≤ 57 then c.toNat - 48 else if 97 ≤ c.toNat ∧ c.toNat ≤ 102 then c.toNat - 87 else 16
def wordN (l : List UInt8) : Nat := (l.takeWhile letter).length
/-- what stands between quotes, and how many bytes it takes with the closing quote -/
def strF : Nat → List UInt8 → Option (List UInt8 × Nat)
  | 0, _ => none
  | _ + 1, [] => none
  | f + 1, c :: l =>
    if c = 34 then some ([], 1)
    else if c.toNat < 32 ∨ 126 < c.toNat then none
    else if c ≠ 92 then (strF f l).map fun p => (c :: p.1, p.2 + 1)
    else match l with
      | a :: b :: r => if hexv a = 16 ∨ hexv b = 16 then none else (strF f r).map fun p => (UInt8.ofNat (16 * hexv a + hexv b) :: p.1, p.2 + 3)
      | _ => none
def strL (l : List UInt8) : Option (List UInt8 × Nat) := strF (l.length + 1) l
/-- a token: kind 0 the end, 1 a word, 2 a sign, 3 a text; its place, and the place behind it -/
structure Tk where
  kind : Nat
  s : ByteArray
  pl : Nat
  fin : Nat
inductive RT
  | ok (t : Tk)
  | bad (p : Nat)
/-- the token at a place, where nothing is to be skipped -/
def tokP (s : List UInt8) (p : Nat) : RT := match s.drop p with
  | [] => .ok ⟨0, ⟨#[]⟩, p, p⟩
  | c :: l =>
    if c = 34 then match strL l with
      | some (x, n) => .ok ⟨3, ⟨x.toArray⟩, p, p + 1 + n⟩
      | none => .bad p
    else if sign c = true then .ok ⟨2, ⟨#[c]⟩, p, p + 1⟩
    else if wordN (c :: l) = 0 then .bad p
    else .ok ⟨1, ⟨((c :: l).take (wordN (c :: l))).toArray⟩, p, p + wordN (c :: l)⟩
def tokAt (s : List UInt8) (p : Nat) : RT := tokP s (p + skipL false (s.drop p))

/-! names -/
def keyW : List (List UInt8) := [[112, 97, 99, 107, 97, 103, 101], [118, 101, 114, 115, 105, 111, 110], [116, 111, 111, 108], [98, 117, 105, 108, 100], [114, 117, 110], [108, 101, 116], [105, 110], [105, 102], [116, 104, 101, 110], [101, 108, 115, 101]]
def nameL (l : List UInt8) : Bool := decide (1 ≤ l.length) && decide (l.length ≤ 32) && l.all letter && (match l.head? with | some c => decide (97 ≤ c.toNat) && decide (c.toNat ≤ 122) | none => false) && !keyW.contains l

/-! expressions -/
inductive E
  | mk (kind : Int) (s : ByteArray) (kids : List E)
inductive Res (α : Type)
  | ok (x : α) (t : Tk)
  | bad (p : Nat) (e : Int)
/-- is the token this word or sign? -/
def isW (t : Tk) (w : List UInt8) : Bool := (t.kind == 1 || t.kind == 2) && t.s.data.toList == w
def stepT (s : List UInt8) (t : Tk) : Res Unit := match tokAt s t.fin with
  | .ok t' => .ok () t'
  | .bad p => .bad p 50
def wantT (s : List UInt8) (w : List UInt8) (t : Tk) : Res Unit := if isW t w = true then stepT s t else .bad t.pl 50
def Res.bind {α β : Type} (r : Res α) (f : α → Tk → Res β) : Res β := match r with
  | .ok x t => f x t
  | .bad p e => .bad p e
/-- the terms of a sum behind the first -/
def sumP (s : List UInt8) (f : Tk → Res E) : Nat → Tk → List E → Res (List E)
  | 0, t, _ => .bad t.pl 0
  | m + 1, t, acc => if isW t [43] = true then (stepT s t).bind fun _ t1 => (f t1).bind fun y t2 => sumP s f m t2 (acc ++ [y]) else .ok acc t
def catE (x : E) (l : List E) : E := if l = [] then x else .mk 3 ⟨#[]⟩ (x :: l)
def exprP (s : List UInt8) (f : Tk → Res E) (t : Tk) : Res E := (f t).bind fun x t1 => (sumP s f (s.length + 1) t1 []).bind fun l t2 => .ok (catE x l) t2
def termOk (t : Tk) : Bool := t.kind == 3 || isW t [40] || isW t [105, 102] || isW t [108, 101, 116] || (t.kind == 1 && nameL t.s.data.toList)
/-- a term, within 32 - h others -/
def termP (s : List UInt8) : Nat → Tk → Res E
  | 0, t => if termOk t = true then .bad t.pl 4 else .bad t.pl 50
  | h + 1, t =>
    if termOk t = false then .bad t.pl 50
    else (stepT s t).bind fun _ t1 =>
      if t.kind = 3 then .ok (.mk 1 t.s []) t1
      else if isW t [40] = true then (exprP s (termP s h) t1).bind fun x t2 => (wantT s [41] t2).bind fun _ t3 => .ok x t3
      else if isW t [105, 102] = true then
        (exprP s (termP s h) t1).bind fun a t2 => (wantT s [61] t2).bind fun _ t3 => (exprP s (termP s h) t3).bind fun b t4 => (wantT s [116, 104, 101, 110] t4).bind fun _ t5 =>
        (exprP s (termP s h) t5).bind fun c t6 => (wantT s [101, 108, 115, 101] t6).bind fun _ t7 => (exprP s (termP s h) t7).bind fun d t8 => .ok (.mk 4 ⟨#[]⟩ [a, b, c, d]) t8
      else if isW t [108, 101, 116] = true then
        if t1.kind = 1 ∧ nameL t1.s.data.toList = true then (stepT s t1).bind fun _ t2 => (wantT s [61] t2).bind fun _ t3 => (exprP s (termP s h) t3).bind fun a t4 => (wantT s [105, 110] t4).bind fun _ t5 =>
          (exprP s (termP s h) t5).bind fun b t6 => .ok (.mk 5 t1.s [a, b]) t6
        else .bad t1.pl 50
      else .ok (.mk 2 t.s []) t1
/-- which line of a recipe a token begins; 0: none -/
def fieldK (t : Tk) : Nat := if isW t [116, 111, 111, 108] = true then 1 else if isW t [98, 117, 105, 108, 100] = true then 2 else if isW t [114, 117, 110] = true then 3 else 0
def fieldsP (s : List UInt8) (f : Tk → Res E) : Nat → Tk → List (Int × E × E) → Res (List (Int × E × E))
  | 0, t, _ => .bad t.pl 0
  | m + 1, t, acc =>
    if t.kind = 0 then .ok acc t
    else if fieldK t = 0 then .bad t.pl 50
    else if acc.length = 20 then .bad t.pl 13
    else (stepT s t).bind fun _ t1 => (f t1).bind fun a t2 => (f t2).bind fun b t3 => fieldsP s f m t3 (acc ++ [((fieldK t : Int), a, b)])
structure Src where
  name : E
  version : E
  fields : List (Int × E × E)
def sourceP (s : List UInt8) : Res Src := match tokAt s 0 with
  | .bad p => .bad p 50
  | .ok t0 => (wantT s [112, 97, 99, 107, 97, 103, 101] t0).bind fun _ t1 => (exprP s (termP s 32) t1).bind fun a t2 => (wantT s [118, 101, 114, 115, 105, 111, 110] t2).bind fun _ t3 => (exprP s (termP s 32) t3).bind fun b t4 =>
    (fieldsP s (exprP s (termP s 32)) (s.length + 1) t4 []).bind fun l t5 => .ok ⟨a, b, l⟩ t5
inductive Out
  | ok (x : Src)
  | bad (p : Nat) (e : Int)
def parseP (s : List UInt8) : Out := if 4096 < s.length then .bad 0 3 else match sourceP s with
  | .ok x _ => .ok x
  | .bad p e => .bad p e
end Rc
end Go.Proofs.Ytcigggffaofkhaa
