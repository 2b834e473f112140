/-
  Plain: the machine: what an instruction does, what a program writes. No program in sight.
-/
import Derived.Test.YtbefgplaaghlbaaGreatDoorTrQ
import Derived.Test.YtbefgplaaghlbaaGreatDoorCodeP
import Derived.Test.YtbefgplaaghlbaaGreatDoorNum
namespace Go.Proofs.YtbefgplaaghlbaaGreatDoor
namespace Vm
open Tr

/-- a value: a number, a text -/
inductive V
  | num (n : Int)
  | txt (s : ByteArray)
def V.isT : V → Bool
  | .num _ => false
  | .txt _ => true
def V.n : V → Int
  | .num n => n
  | .txt _ => 0
def V.s : V → ByteArray
  | .num _ => ⟨#[]⟩
  | .txt s => s
/-- a machine between two instructions -/
structure St where
  stack : List V
  cells : List V
  calls : List Nat
  out : List F
  at_ : Nat
  halt : Bool
def wrap (n : Int) : Int := (n + 9223372036854775808) % 18446744073709551616 - 9223372036854775808
def truth (b : Bool) : V := .num (if b = true then 1 else 0)
/-- the values with one more on them -/
def push (st : List V) (v : V) : Except Int (List V) := if st.length < 64 then .ok (st ++ [v]) else .error 40
/-- the last values, as many as signs; true: a text -/
def kinds (st : List V) (signs : List Bool) : Except Int (List V × List V) :=
  if st.length < signs.length then .error 40
  else if ((st.drop (st.length - signs.length)).map V.isT) = signs then .ok (st.take (st.length - signs.length), st.drop (st.length - signs.length)) else .error 41
/-- the last k values, of any kind -/
def need (st : List V) (k : Nat) : Except Int (List V × List V) := if st.length < k then .error 40 else .ok (st.take (st.length - k), st.drop (st.length - k))
/-- what is done to the values alone: the stack afterwards -/
def found (st : List V) (s : ByteArray) (is : Bool) : Except Int (List V) := (push st (.txt s)).bind fun st => push st (truth is)
def reckon (op a b : Int) : Except Int Int :=
  if op = 9 then .ok (wrap (a + b)) else if op = 10 then .ok (wrap (a - b)) else if op = 11 then .ok (wrap (a * b))
  else if b = 0 then .error 42 else if op = 12 then .ok (wrap (a.tdiv b)) else .ok (a.tmod b)
def lessV (a b : V) : Bool := decide (a.n < b.n) || ltB a.s.data.toList b.s.data.toList
def eqV (a b : V) : Bool := match a, b with
  | .num n, .num m => decide (n = m)
  | .txt s, .txt t => decide (s = t)
  | _, _ => false
/-- the number that a text is -/
def numT (s : List UInt8) : Option Int := match Lib.atoiAll s with
  | .ok n => if Lib.itoa n = s then some n else none
  | _ => none
/-- the stack behind an instruction that does nothing else -/
def stackP (view : List F) (x : Cd.I) (cells : List V) (st : List V) : Except Int (List V) :=
  if x.op = 2 then push st (.num x.n)
  else if x.op = 3 then push st (.txt x.s)
  else if x.op = 4 then (need st 1).bind fun q => .ok q.1
  else if x.op = 5 then (need st 1).bind fun q => push st (q.2.getD 0 (.num 0))
  else if x.op = 6 then (need st 2).bind fun q => .ok (q.1 ++ [q.2.getD 1 (.num 0), q.2.getD 0 (.num 0)])
  else if x.op = 7 then push st (cells.getD x.n.toNat (.num 0))
  else if x.op = 9 ∨ x.op = 10 ∨ x.op = 11 ∨ x.op = 12 ∨ x.op = 13 then (kinds st [false, false]).bind fun q => (reckon x.op (q.2.getD 0 (.num 0)).n (q.2.getD 1 (.num 0)).n).bind fun n => push q.1 (.num n)
  else if x.op = 14 then (need st 2).bind fun q => if (q.2.getD 0 (.num 0)).isT = (q.2.getD 1 (.num 0)).isT then push q.1 (truth (lessV (q.2.getD 0 (.num 0)) (q.2.getD 1 (.num 0)))) else .error 41
  else if x.op = 15 then (need st 2).bind fun q => push q.1 (truth (eqV (q.2.getD 0 (.num 0)) (q.2.getD 1 (.num 0))))
  else if x.op = 16 then (kinds st [false]).bind fun q => push q.1 (truth (decide ((q.2.getD 0 (.num 0)).n = 0)))
  else if x.op = 21 then (kinds st [true, true]).bind fun q => if (q.2.getD 0 (.num 0)).s.size + (q.2.getD 1 (.num 0)).s.size ≤ 2048 then push q.1 (.txt ((q.2.getD 0 (.num 0)).s ++ (q.2.getD 1 (.num 0)).s)) else .error 43
  else if x.op = 22 then (kinds st [true]).bind fun q => push q.1 (.num (q.2.getD 0 (.num 0)).s.size)
  else if x.op = 23 then (kinds st [true, false, false]).bind fun q =>
    if 0 ≤ (q.2.getD 1 (.num 0)).n ∧ (q.2.getD 1 (.num 0)).n ≤ (q.2.getD 2 (.num 0)).n ∧ (q.2.getD 2 (.num 0)).n ≤ (q.2.getD 0 (.num 0)).s.size then push q.1 (.txt ((q.2.getD 0 (.num 0)).s.extract (q.2.getD 1 (.num 0)).n.toNat (q.2.getD 2 (.num 0)).n.toNat)) else .error 43
  else if x.op = 24 then (kinds st [false]).bind fun q => push q.1 (.txt ⟨(Lib.itoa (q.2.getD 0 (.num 0)).n).toArray⟩)
  else if x.op = 25 then (kinds st [true]).bind fun q => (push q.1 (.num ((numT (q.2.getD 0 (.num 0)).s.data.toList).getD 0))).bind fun st => push st (truth (numT (q.2.getD 0 (.num 0)).s.data.toList).isSome)
  else if x.op = 26 then (kinds st [true]).bind fun q => found q.1 ((getT view (q.2.getD 0 (.num 0)).s.data.toList).getD ⟨#[]⟩) (getT view (q.2.getD 0 (.num 0)).s.data.toList).isSome
  else if x.op = 27 then push st (.num view.length)
  else (kinds st [false]).bind fun q =>
    if 0 ≤ (q.2.getD 0 (.num 0)).n ∧ (q.2.getD 0 (.num 0)).n < view.length then found q.1 ((view.map (·.1)).getD (q.2.getD 0 (.num 0)).n.toNat ⟨#[]⟩) true else found q.1 ⟨#[]⟩ false
/-- one instruction: the machine behind it, or what it gives up with -/
def stepP (p : List Cd.I) (view : List F) (s : St) : Except Int St :=
  let x := p.getD s.at_ ⟨0, 0, ⟨#[]⟩⟩
  if x.op = 1 then .ok { s with at_ := s.at_ + 1, halt := true }
  else if x.op = 17 then .ok { s with at_ := x.n.toNat }
  else if x.op = 18 then (kinds s.stack [false]).bind fun q => .ok { s with stack := q.1, at_ := if (q.2.getD 0 (.num 0)).n = 0 then x.n.toNat else s.at_ + 1 }
  else if x.op = 19 then if s.calls.length < 16 then .ok { s with calls := s.calls ++ [s.at_ + 1], at_ := x.n.toNat } else .error 40
  else if x.op = 20 then match s.calls.getLast? with
    | none => .error 40
    | some a => .ok { s with calls := s.calls.dropLast, at_ := a }
  else if x.op = 30 then .error 44
  else if x.op = 8 then (need s.stack 1).bind fun q => .ok { s with stack := q.1, cells := s.cells.set x.n.toNat (q.2.getD 0 (.num 0)), at_ := s.at_ + 1 }
  else if x.op = 29 then (kinds s.stack [true, true]).bind fun q => (putT s.out ((q.2.getD 0 (.num 0)).s, (q.2.getD 1 (.num 0)).s)).bind fun o => .ok { s with stack := q.1, out := o, at_ := s.at_ + 1 }
  else (stackP view x s.cells s.stack).bind fun st => .ok { s with stack := st, at_ := s.at_ + 1 }
def St.start : St := ⟨[], List.replicate 16 (.num 0), [], [], 0, false⟩
/-- at most so many steps more: how many it does; what it ends with, if it does -/
def runP (p : List Cd.I) (view : List F) : Nat → St → Nat × Except Int (List F)
  | 0, _ => (0, .error 45)
  | f + 1, s => match stepP p view s with
    | .error e => (1, .error e)
    | .ok s' => if s'.halt = true ∨ s'.at_ = p.length then (1, .ok s'.out) else ((runP p view f s').1 + 1, (runP p view f s').2)
/-- what a program writes, how many steps it does, its error -/
def vmP (p : List Cd.I) (view : List F) : List F × Nat × Int :=
  if (Cd.check p).2 ≠ 0 then ([], 0, (Cd.check p).2)
  else if goodT view = false then ([], 0, 1)
  else match runP p view 4096 St.start with
    | (n, .ok o) => (o, n, 0)
    | (n, .error e) => ([], n, e)
/-! no more steps than there are -/
theorem run_le (p : List Cd.I) (view : List F) : ∀ (f : Nat) (s : St), (runP p view f s).1 ≤ f
  | 0, _ => Nat.le_refl _
  | f + 1, s => by
    rw [runP]
    cases h : stepP p view s with
    | error e => show 1 ≤ f + 1; omega
    | ok s' =>
      show (if s'.halt = true ∨ s'.at_ = p.length then ((1, .ok s'.out) : Nat × Except Int (List F)) else ((runP p view f s').1 + 1, (runP p view f s').2)).1 ≤ f + 1
      split
      · show 1 ≤ f + 1; omega
      · have := run_le p view f s'
        show (runP p view f s').1 + 1 ≤ f + 1
        omega
end Vm
end Go.Proofs.YtbefgplaaghlbaaGreatDoor
