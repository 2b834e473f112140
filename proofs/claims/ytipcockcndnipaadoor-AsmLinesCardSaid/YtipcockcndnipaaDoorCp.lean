/-
  copy of elements of several cells, over a row that is known whole; what two copies leave. No program in sight.
-/
import Derived.Laws.CopyRow
import Derived.Laws.AppendOwn
import Derived.Below
namespace Go.Proofs.YtipcockcndnipaaDoor
open Go.RowKit
namespace Cp
variable {P : Program}

theorem run_copy_sz (w : World) (dT sT ty elem : TypeId) (g o dLen dCap : Nat) (a : Addr) (sLen sCap : Nat) (cur : Array Value) (t : TypeId) (cs : List Value) (sz : Nat)
    (hu : P.underlying dT = some (.slice elem)) (hs : (P.info? elem).map (·.size) = some sz)
    (hg : w.heap[g]? = some (.cells cur t (0, 0))) (hn : cs.length = Nat.min sLen dLen * sz)
    (hsrc : ∀ j v, cs[j]? = some v → w.cell? (a.add j) = some v) (hfit : o + cs.length ≤ cur.size) (h1 : ∀ v ∈ cs, v.oneCell' = true) :
    (Builtin.copy_ #[dT, sT] ty #[.slice (some ⟨g, o, none⟩) dLen dCap, .slice (some a) sLen sCap]).run P w =
      .ok (goInt (Nat.min sLen dLen)) (w.setRow g (cur.toList.take o ++ cs ++ cur.toList.drop (o + cs.length)).toArray) := by
  have hl := run_loadCells_list (P := P) w a cs hsrc
  have hst := run_storeCells_at P g o t cs 0 cur w hg (by simpa using hfit) h1
  cases hq : P.info? elem with
  | none => simp [hq] at hs
  | some i =>
    have hi : i.size = sz := by simpa [hq] using hs
    simp [Builtin.copy_, run_underlying hu, Builtin.lenOf, Builtin.firstCells, sizeOf, typeInfo, hq, hi, ← hn, hl, hst]
theorem setRow_grown {w : World} {g : Nat} {v : Value} (hv : v.ownBlock = some g) (cs : Array Value) : w.grownBy (w.setRow g cs) v.ownBlock :=
  ⟨rfl, rfl, rfl, by simp, fun k _ hk => setRow_other w g k cs (fun e => hk (by rw [hv, e]))⟩
theorem grown_trans {a b c : World} {row : Option Nat} (h : a.grownBy b row) (k : b.grownBy c row) : a.grownBy c row :=
  ⟨k.os.trans h.os, k.tape.trans h.tape, k.output.trans h.output, Nat.le_trans h.size k.size, fun i hi hr => (k.block i (Nat.lt_of_lt_of_le hi h.size) hr).trans (h.block i hi hr)⟩
theorem grown_new {a b : World} {row : Option Nat} (h : a.grownBy b none) : a.grownBy b row := ⟨h.os, h.tape, h.output, h.size, fun i hi _ => h.block i hi (by simp)⟩
/-- a copy within the row, then one into the gap -/
theorem shift2 {α : Type} (R1 R2 Z E : List α) (hE : E.length ≤ Z.length) :
    (((R1 ++ R2 ++ Z).take (R1.length + E.length) ++ R2 ++ (R1 ++ R2 ++ Z).drop (R1.length + E.length + R2.length)).take R1.length ++ E ++
      ((R1 ++ R2 ++ Z).take (R1.length + E.length) ++ R2 ++ (R1 ++ R2 ++ Z).drop (R1.length + E.length + R2.length)).drop (R1.length + E.length)) = R1 ++ E ++ R2 ++ Z.drop E.length := by
  have e1 : ((R1 ++ R2 ++ Z).take (R1.length + E.length)).length = R1.length + E.length := by simp only [List.length_take, List.length_append]; omega
  have e2 : (R1 ++ R2 ++ Z).drop (R1.length + E.length + R2.length) = Z.drop E.length := by
    rw [List.drop_append, List.drop_eq_nil_of_le (by simp only [List.length_append]; omega)]
    simp only [List.length_append, List.nil_append]
    congr 1
    omega
  rw [e2, List.append_assoc ((R1 ++ R2 ++ Z).take (R1.length + E.length))]
  have e3 : ((R1 ++ R2 ++ Z).take (R1.length + E.length) ++ (R2 ++ Z.drop E.length)).drop (R1.length + E.length) = R2 ++ Z.drop E.length := by
    generalize (R1 ++ R2 ++ Z).take (R1.length + E.length) = T at *
    rw [← e1]
    exact List.drop_left
  have e4 : ((R1 ++ R2 ++ Z).take (R1.length + E.length) ++ (R2 ++ Z.drop E.length)).take R1.length = R1 := by
    rw [List.take_append_of_le_length (by rw [e1]; omega), List.take_take, Nat.min_eq_left (by omega), List.append_assoc, List.take_left]
  rw [e3, e4]
  simp only [List.append_assoc]
/-- what is put in, then what stood behind, into a row that is new -/
theorem fill2 {α : Type} (R1 Y R2 E : List α) :
    (((R1 ++ Y).take R1.length ++ E ++ (R1 ++ Y).drop (R1.length + E.length)).take (R1.length + E.length) ++ R2 ++
      ((R1 ++ Y).take R1.length ++ E ++ (R1 ++ Y).drop (R1.length + E.length)).drop (R1.length + E.length + R2.length)) = R1 ++ E ++ R2 ++ Y.drop (E.length + R2.length) := by
  have e0 : (R1 ++ Y).drop (R1.length + E.length) = Y.drop E.length := by
    rw [← List.drop_drop, List.drop_left]
  rw [e0, List.take_left]
  have e1 : (R1 ++ E).length = R1.length + E.length := List.length_append
  have e2 : (R1 ++ E ++ Y.drop E.length).take (R1.length + E.length) = R1 ++ E := by rw [← e1, List.take_left]
  have e3 : (R1 ++ E ++ Y.drop E.length).drop (R1.length + E.length + R2.length) = Y.drop (E.length + R2.length) := by
    rw [← List.drop_drop, ← e1, List.drop_left, List.drop_drop]
  rw [e2, e3]
theorem step_run {ops : Array Oper} {o : Oper} {a : Act} {w : World} {K : Act → World → Prop} {Q : Exit → Act → World → Prop} {E : Prop}
    (hg : o.guard = none) (d x : Operand) (dT sT : TypeId) (hop : o.op = Op.call { callee := Callee.builtin Builtin.copy, args := #[d, x], argTypes := #[dT, sT] })
    (v u : Value) (hd : a.eval d = v) (hx : a.eval x = u) {v' : Value} {w' : World} (hr : (Builtin.copy_ #[dT, sT] o.type #[v, u]).run P w = .ok v' w') (hK : K (a.put o.dst v') w') :
    if Region.wanted o (yielded ops a.tmps) = true then Oper.wp P o a w K Q else E := by
  have hw : Region.wanted o (yielded ops a.tmps) = true := by simp [Region.wanted, hg]
  rw [if_pos hw]
  unfold Oper.wp
  simp [execOp, hop, resolve, invoke, builtin, hd, hx, hr, Result.andThen]
  exact hK
theorem list_run (w : World) {ops : Array Oper} {rest : List Oper} {o : Oper} {a : Act} {Q : Exit → Act → World → Prop} (hgd : o.guard = none) (d s : Operand) (t t' : TypeId)
    (ho : o.op = .call { callee := .builtin .copy, args := #[d, s], argTypes := #[t, t'] }) (v u : Value) (hd : a.eval d = v) (hs : a.eval s = u) {v' : Value} {w' : World}
    (hr : (Builtin.copy_ #[t, t'] o.type #[v, u]).run P w = .ok v' w') (h : wpList P ops Q rest (a.put o.dst v') w') : wpList P ops Q (o :: rest) a w := by
  refine wpList_plain hgd fun K hK => ?_
  unfold Oper.wp
  simp [execOp, ho, resolve, invoke, builtin, hd, hs, hr, Result.andThen]
  exact hK _ _ h
theorem app_run (w : World) {ops : Array Oper} {rest : List Oper} {o : Oper} {a : Act} {Q : Exit → Act → World → Prop} (hgd : o.guard = none) (d s : Operand) (t t' : TypeId)
    (ho : o.op = .call { callee := .builtin .append, args := #[d, s], argTypes := #[t, t'] }) (v u : Value) (hd : a.eval d = v) (hs : a.eval s = u) {v' : Value} {w' : World}
    (hr : (Builtin.append_ #[t, t'] o.type #[v, u]).run P w = .ok v' w') (h : wpList P ops Q rest (a.put o.dst v') w') : wpList P ops Q (o :: rest) a w := by
  refine wpList_plain hgd fun K hK => ?_
  unfold Oper.wp
  simp [execOp, ho, resolve, invoke, builtin, hd, hs, hr, Result.andThen]
  exact hK _ _ h
end Cp
end Go.Proofs.YtipcockcndnipaaDoor
