/-
  Plain: what an expression weighs, whether it can be, its text.
-/
import Derived.Test.YtcigggffaofkhaaRcP
namespace Go.Proofs.Ytcigggffaofkhaa
open Go.RowKit
namespace Rc

theorem Eind {P : E → Prop} (step : ∀ (k : Int) (s : ByteArray) (ks : List E), (∀ x ∈ ks, P x) → P (.mk k s ks)) : ∀ x, P x := by
  have : ∀ (h : Nat) (x : E), SizeOf.sizeOf x < h → P x := by
    intro h
    induction h with
    | zero => intro x hx; omega
    | succ h ih =>
      intro x hx
      cases x with
      | mk k s ks =>
        refine step k s ks fun y hy => ih y ?_
        have := List.sizeOf_lt_of_mem hy
        simp only [E.mk.sizeOf_spec] at hx
        omega
  exact fun x => this _ x (Nat.lt_succ_self _)

/-- strings and kids of few bytes; numbers of 64 bits -/
inductive Sml : E → Prop
  | mk (k : Int) (s : ByteArray) (ks : List E) (hk1 : -9223372036854775808 ≤ k) (hk2 : k ≤ 9223372036854775807) (hs : s.size ≤ 140737488355328) (hl : ks.length ≤ 140737488355328) (hk : ∀ x ∈ ks, Sml x) : Sml (.mk k s ks)
def SmlS (x : Src) : Prop := Sml x.name ∧ Sml x.version ∧ x.fields.length ≤ 140737488355328 ∧ ∀ f ∈ x.fields, (-9223372036854775808 ≤ f.1 ∧ f.1 ≤ 9223372036854775807) ∧ Sml f.2.1 ∧ Sml f.2.2

/-! weight -/
mutual
/-- what is left when an expression's parts and bytes are taken away -/
def weigh : E → Int → Nat → Int
  | .mk _ s ks, left, d => if 200 < d then -1 else weighs ks (left - 1 - s.size) (d + 1)
def weighs : List E → Int → Nat → Int
  | [], left, _ => left
  | x :: l, left, d => if left < 0 then left else weighs l (weigh x left d) d
end
mutual
def sizeW : E → Nat
  | .mk _ s ks => 1 + s.size + sizeWs ks
def sizeWs : List E → Nat
  | [] => 0
  | x :: l => sizeW x + sizeWs l
end
theorem weighs_neg {l : List E} {m : Int} {d : Nat} (h : m < 0) : weighs l m d = m := by
  cases l with
  | nil => rw [weighs]
  | cons x l => rw [weighs, if_pos h]
theorem weighs_le (l : List E) (ih : ∀ x ∈ l, ∀ (m : Int) (d : Nat), weigh x m d ≤ max m (-1) ∧ (0 ≤ weigh x m d → weigh x m d + sizeW x ≤ m)) (m : Int) (d : Nat) : weighs l m d ≤ max m (-1) ∧ (0 ≤ weighs l m d → weighs l m d + sizeWs l ≤ m) := by
  induction l generalizing m with
  | nil => rw [weighs, sizeWs]; omega
  | cons x l ihl =>
    rw [weighs, sizeWs]
    split
    · omega
    · have h1 := ih x (List.mem_cons_self ..) m d
      have h2 := ihl (fun y hy => ih y (List.mem_cons_of_mem _ hy)) (weigh x m d)
      refine ⟨by omega, fun h => ?_⟩
      have h3 := h2.2 h
      have h4 := h1.2 (by omega)
      omega
theorem weigh_le (x : E) : ∀ (m : Int) (d : Nat), weigh x m d ≤ max m (-1) ∧ (0 ≤ weigh x m d → weigh x m d + sizeW x ≤ m) := by
  refine Eind (P := fun x => ∀ (m : Int) (d : Nat), weigh x m d ≤ max m (-1) ∧ (0 ≤ weigh x m d → weigh x m d + sizeW x ≤ m)) (fun k s ks ih m d => ?_) x
  rw [weigh, sizeW]
  split
  · omega
  · have := weighs_le ks ih (m - 1 - s.size) (d + 1)
    omega
theorem weighs_ge (l : List E) (ih : ∀ x ∈ l, ∀ (m : Int) (d : Nat), min m 0 - 140737488355329 ≤ weigh x m d) (m : Int) (d : Nat) : min m (-140737488355329) ≤ weighs l m d := by
  induction l generalizing m with
  | nil => rw [weighs]; omega
  | cons x l ihl =>
    rw [weighs]
    split
    · omega
    · have h1 := ih x (List.mem_cons_self ..) m d
      have h2 := ihl (fun y hy => ih y (List.mem_cons_of_mem _ hy)) (weigh x m d)
      omega
theorem weigh_ge {x : E} (hx : Sml x) : ∀ (m : Int) (d : Nat), min m 0 - 140737488355329 ≤ weigh x m d := by
  refine Eind (P := fun x => Sml x → ∀ (m : Int) (d : Nat), min m 0 - 140737488355329 ≤ weigh x m d) (fun k s ks ih hx m d => ?_) x hx
  rw [weigh]
  cases hx with
  | mk _ _ _ hk1 hk2 hs hl hk =>
    split
    · omega
    · have := weighs_ge ks (fun x hx => ih x hx (hk x hx)) (m - 1 - s.size) (d + 1)
      omega

/-! whether an expression can be -/
def partOk (k : Int) (s : List UInt8) (n : Nat) : Bool :=
  (k == 1 && n == 0) || (k == 2 && n == 0 && nameL s) || (k == 3 && decide (2 ≤ n) && s.isEmpty) || (k == 4 && n == 4 && s.isEmpty) || (k == 5 && n == 2 && nameL s)
mutual
/-- how many parts are left when an expression's are taken away -/
def count : E → Nat → Int → Int
  | .mk k s ks, d, left => if partOk k s.data.toList ks.length = false ∨ 64 ≤ d then -1 else counts ks (d + 1) (left - 1)
def counts : List E → Nat → Int → Int
  | [], _, left => left
  | x :: l, d, left => if left < 0 then left else counts l d (count x d left)
end
def goodE (x : E) : Bool := decide (0 ≤ count x 0 4096)
theorem counts_neg {l : List E} {m : Int} {d : Nat} (h : m < 0) : counts l d m = m := by
  cases l with
  | nil => rw [counts]
  | cons x l => rw [counts, if_pos h]
/-- each part is as a part may be -/
inductive Wf : E → Prop
  | mk (k : Int) (s : ByteArray) (ks : List E) (h : partOk k s.data.toList ks.length = true) (hk : ∀ x ∈ ks, Wf x) : Wf (.mk k s ks)
theorem counts_le (l : List E) (ih : ∀ x ∈ l, ∀ (d : Nat) (m : Int), 0 ≤ m → -1 ≤ count x d m ∧ count x d m ≤ m ∧ (0 ≤ count x d m → Wf x)) (d : Nat) (m : Int) (hm : -1 ≤ m) : -1 ≤ counts l d m ∧ counts l d m ≤ m ∧ (0 ≤ counts l d m → ∀ x ∈ l, Wf x) := by
  induction l generalizing m with
  | nil => rw [counts]; exact ⟨hm, Int.le_refl _, fun _ x hx => absurd hx (by simp)⟩
  | cons x l ihl =>
    rw [counts]
    split
    · exact ⟨hm, Int.le_refl _, fun h => absurd h (by omega)⟩
    · have h1 := ih x (List.mem_cons_self ..) d m (by omega)
      have h2 := ihl (fun y hy => ih y (List.mem_cons_of_mem _ hy)) (count x d m) h1.1
      refine ⟨h2.1, by omega, fun h y hy => ?_⟩
      rcases List.mem_cons.1 hy with rfl | hy
      · exact h1.2.2 (by omega)
      · exact h2.2.2 h y hy
theorem count_le (x : E) : ∀ (d : Nat) (m : Int), 0 ≤ m → -1 ≤ count x d m ∧ count x d m ≤ m ∧ (0 ≤ count x d m → Wf x) := by
  refine Eind (P := fun x => ∀ (d : Nat) (m : Int), 0 ≤ m → -1 ≤ count x d m ∧ count x d m ≤ m ∧ (0 ≤ count x d m → Wf x)) (fun k s ks ih d m hm => ?_) x
  rw [count]
  split
  · omega
  · rename_i h
    rw [not_or, Bool.not_eq_false] at h
    have := counts_le ks ih (d + 1) (m - 1) (by omega)
    exact ⟨this.1, by omega, fun h0 => .mk k s ks h.1 (this.2.2 h0)⟩

/-! texts -/
def hexDig (n : Nat) : UInt8 := if n < 10 then UInt8.ofNat (48 + n) else UInt8.ofNat (87 + n)
def escB (c : UInt8) : List UInt8 := if c.toNat < 32 ∨ 126 < c.toNat ∨ c = 34 ∨ c = 92 then [92, hexDig (c.toNat / 16), hexDig (c.toNat % 16)] else [c]
def quoteL (s : List UInt8) : List UInt8 := 34 :: (s.flatMap escB ++ [34])
def E.kind : E → Int
  | .mk k _ _ => k
def E.str : E → List UInt8
  | .mk _ s _ => s.data.toList
def E.kids : E → List E
  | .mk _ _ ks => ks
/-- terms with " + " between -/
def joinP : List (List UInt8) → List UInt8
  | [] => []
  | [t] => t
  | t :: u :: l => t ++ ([32, 43, 32] ++ joinP (u :: l))
/-- a text in a sum -/
def brL (k : Int) (t : List UInt8) : List UInt8 := if 3 ≤ k then [40] ++ (t ++ [41]) else t
def wIf : List UInt8 := [105, 102, 32]
def wEq : List UInt8 := [32, 61, 32]
def wThen : List UInt8 := [32, 116, 104, 101, 110, 32]
def wElse : List UInt8 := [32, 101, 108, 115, 101, 32]
def wLet : List UInt8 := [108, 101, 116, 32]
def wIn : List UInt8 := [32, 105, 110, 32]
mutual
def textE : E → List UInt8
  | .mk k s ks =>
    if k = 1 then quoteL s.data.toList else if k = 2 then s.data.toList else if k = 3 then joinP (bts ks)
    else if k = 4 then (match texts ks with | [a, b, c, d] => wIf ++ (a ++ (wEq ++ (b ++ (wThen ++ (c ++ (wElse ++ d)))))) | _ => [])
    else if k = 5 then (match texts ks with | [a, b] => wLet ++ (s.data.toList ++ (wEq ++ (a ++ (wIn ++ b)))) | _ => [])
    else []
/-- the kids' texts -/
def texts : List E → List (List UInt8)
  | [] => []
  | x :: l => textE x :: texts l
/-- the kids' texts as they stand in a sum -/
def bts : List E → List (List UInt8)
  | [] => []
  | x :: l => brL x.kind (textE x) :: bts l
end
def wKind (k : Int) : List UInt8 := if k = 1 then [116, 111, 111, 108, 32] else if k = 2 then [98, 117, 105, 108, 100, 32] else [114, 117, 110, 32]
def fieldL (f : Int × E × E) : List UInt8 := wKind f.1 ++ (textE f.2.1 ++ ([32] ++ (textE f.2.2 ++ [10])))
def wPack : List UInt8 := [112, 97, 99, 107, 97, 103, 101, 32]
def wVers : List UInt8 := [10, 118, 101, 114, 115, 105, 111, 110, 32]
def textS (x : Src) : List UInt8 := wPack ++ (textE x.name ++ (wVers ++ (textE x.version ++ ([10] ++ x.fields.flatMap fieldL))))
def goodS (x : Src) : Bool := goodE x.name && goodE x.version && decide (x.fields.length ≤ 20) && x.fields.all fun f => decide (1 ≤ f.1) && decide (f.1 ≤ 3) && goodE f.2.1 && goodE f.2.2
/-- what Print answers: the text, or an error -/
def printP (x : Src) : List UInt8 × Int := if goodS x = false then ([], 1) else if 4096 < (textS x).length then ([], 3) else (textS x, 0)

/-! cut texts -/
/-- the same, or both too long -/
def Cut (a b : List UInt8) : Prop := a = b ∨ (4096 < a.length ∧ 4096 < b.length)
theorem Cut.refl (a : List UInt8) : Cut a a := .inl rfl
theorem Cut.app {a b c d : List UInt8} (h : Cut a b) (h' : Cut c d) : Cut (a ++ c) (b ++ d) := by
  rcases h with rfl | ⟨h1, h2⟩
  · rcases h' with rfl | ⟨h3, h4⟩
    · exact .inl rfl
    · exact .inr ⟨by rw [List.length_append]; omega, by rw [List.length_append]; omega⟩
  · exact .inr ⟨by rw [List.length_append]; omega, by rw [List.length_append]; omega⟩
theorem Cut.len {a b : List UInt8} (h : Cut a b) : (4096 < a.length ↔ 4096 < b.length) ∧ (¬ 4096 < a.length → a = b) := by
  rcases h with rfl | ⟨h1, h2⟩
  · exact ⟨Iff.rfl, fun _ => rfl⟩
  · exact ⟨⟨fun _ => h2, fun _ => h1⟩, fun h => absurd h1 h⟩
end Rc
end Go.Proofs.Ytcigggffaofkhaa
