/-
  Plain: the machine's instructions keep it in order; its steps, one behind the other.
-/
import Derived.Test.YtbefgplaaghlbaaGreatDoorMVmE
namespace Go.Proofs.YtbefgplaaghlbaaGreatDoor
namespace Vm
open Tr

theorem bind_ok {α β : Type} {a : Except Int α} {f : α → Except Int β} {r : β} (h : a.bind f = .ok r) : ∃ q, a = .ok q ∧ f q = .ok r := by
  cases a with
  | error c => cases h
  | ok q => exact ⟨q, rfl, h⟩
/-- values that can be, so many at most -/
def StOk (st : List V) : Prop := st.length ≤ 64 ∧ ∀ v ∈ st, v.ok
theorem push_ok {st st2 : List V} {v : V} (h : push st v = .ok st2) (hs : ∀ u ∈ st, u.ok) (hv : v.ok) : StOk st2 := by
  unfold push at h
  split at h
  · cases h
    refine ⟨by rw [List.length_append, List.length_singleton]; omega, fun u hu => ?_⟩
    rcases List.mem_append.1 hu with hu | hu
    · exact hs u hu
    · rw [List.mem_singleton.1 hu]
      exact hv
  · cases h
theorem kinds_ok {st : List V} {sg : List Bool} {q : List V × List V} (h : kinds st sg = .ok q) (hs : StOk st) : StOk q.1 ∧ ∀ v ∈ q.2, v.ok := by
  unfold kinds at h
  split at h
  · cases h
  · split at h
    · cases h
      exact ⟨⟨by show (st.take _).length ≤ 64; rw [List.length_take]; have := hs.1; omega, fun v hv => hs.2 v (List.mem_of_mem_take hv)⟩, fun v hv => hs.2 v (List.mem_of_mem_drop hv)⟩
    · cases h
theorem need_ok2 {st : List V} {k : Nat} {q : List V × List V} (h : need st k = .ok q) (hs : StOk st) : StOk q.1 ∧ (∀ v ∈ q.2, v.ok) ∧ q.1.length + k = st.length := by
  unfold need at h
  split at h
  · cases h
  · cases h
    refine ⟨⟨by show (st.take _).length ≤ 64; rw [List.length_take]; have := hs.1; omega, fun v hv => hs.2 v (List.mem_of_mem_take hv)⟩, fun v hv => hs.2 v (List.mem_of_mem_drop hv), ?_⟩
    show (st.take _).length + k = _
    rw [List.length_take]
    omega
theorem zero_ok : (V.num 0).ok := ⟨by decide, by decide, by decide⟩
theorem getD_ok {l : List V} (h : ∀ v ∈ l, v.ok) (k : Nat) : (l.getD k (.num 0)).ok := by
  rw [List.getD_eq_getElem?_getD]
  cases hk : l[k]? with
  | none => exact zero_ok
  | some v => exact h v (List.mem_of_getElem? hk)
theorem truth_ok (b : Bool) : (truth b).ok := by
  cases b <;> exact ⟨by decide, by decide, by decide⟩
theorem num_ok {n : Int} (h0 : -9223372036854775808 ≤ n) (h1 : n ≤ 9223372036854775807) : (V.num n).ok := ⟨by show 0 ≤ 2048; omega, h0, h1⟩
theorem txt_ok {s : ByteArray} (h : s.size ≤ 2048) : (V.txt s).ok := ⟨h, by show (-9223372036854775808 : Int) ≤ 0; omega, by show (0 : Int) ≤ 9223372036854775807; omega⟩
theorem wrap_bd (n : Int) : -9223372036854775808 ≤ wrap n ∧ wrap n ≤ 9223372036854775807 := by
  unfold wrap
  omega
theorem reckon_ok {op a b n : Int} (h : reckon op a b = .ok n) (ha : -9223372036854775808 ≤ a ∧ a ≤ 9223372036854775807) : -9223372036854775808 ≤ n ∧ n ≤ 9223372036854775807 := by
  unfold reckon at h
  split at h
  · cases h; exact wrap_bd _
  split at h
  · cases h; exact wrap_bd _
  split at h
  · cases h; exact wrap_bd _
  split at h
  · cases h
  split at h
  · cases h; exact wrap_bd _
  · cases h
    have h1 := Int.natAbs_tmod a b
    have h2 : (a.tmod b).natAbs ≤ a.natAbs := by rw [h1]; exact Nat.mod_le _ _
    by_cases h0 : 0 ≤ a
    · have h3 := Int.tmod_nonneg b h0
      omega
    · have h3 := Int.tmod_nonneg b (show 0 ≤ -a by omega)
      rw [Int.neg_tmod] at h3
      omega
theorem found_ok {st st2 : List V} {s : ByteArray} {is : Bool} (h : found st s is = .ok st2) (hs : ∀ u ∈ st, u.ok) (hz : s.size ≤ 2048) : StOk st2 := by
  obtain ⟨q, h1, h2⟩ := bind_ok h
  exact push_ok h2 (push_ok h1 hs (txt_ok hz)).2 (truth_ok is)
theorem getT_ok {l : List F} {p : List UInt8} {n : Nat} (h : ∀ f ∈ l, f.2.size ≤ n) : ((getT l p).getD ⟨#[]⟩).size ≤ n := by
  unfold getT
  cases hf : l.find? (fun f => K f == p) with
  | none => exact Nat.zero_le _
  | some f => exact h f (List.mem_of_find?_eq_some hf)
theorem itoa_small {n : Int} (h0 : -9223372036854775808 ≤ n) (h1 : n ≤ 9223372036854775807) : (ByteArray.mk (Lib.itoa n).toArray).size ≤ 2048 := by
  have := Lib.itoa_length_le n h0 h1
  show (Lib.itoa n).toArray.size ≤ 2048
  simp
  omega
theorem stackP_ok {view : List F} {x : Cd.I} {cells st st2 : List V} (h : stackP view x cells st = .ok st2) (hs : StOk st) (hc : ∀ v ∈ cells, v.ok) (hg : goodT view = true) (hx : -9223372036854775808 ≤ x.n ∧ x.n ≤ 9223372036854775807) (ht : x.op = 3 → x.s.size ≤ 256) : StOk st2 := by
  obtain ⟨hsz, hlen⟩ := good_sizes hg
  unfold stackP at h
  by_cases ho : x.op = 2
  · rw [if_pos ho] at h
    exact push_ok h hs.2 (num_ok hx.1 hx.2)
  rw [if_neg ho] at h; clear ho
  by_cases ho : x.op = 3
  · rw [if_pos ho] at h
    exact push_ok h hs.2 (txt_ok (Nat.le_trans (ht ho) (by decide)))
  rw [if_neg ho] at h; clear ho
  by_cases ho : x.op = 4
  · rw [if_pos ho] at h
    obtain ⟨q, h1, h2⟩ := bind_ok h
    cases h2
    exact (need_ok2 h1 hs).1
  rw [if_neg ho] at h; clear ho
  by_cases ho : x.op = 5
  · rw [if_pos ho] at h
    obtain ⟨q, h1, h2⟩ := bind_ok h
    exact push_ok h2 hs.2 (getD_ok (need_ok2 h1 hs).2.1 0)
  rw [if_neg ho] at h; clear ho
  by_cases ho : x.op = 6
  · rw [if_pos ho] at h
    obtain ⟨q, h1, h2⟩ := bind_ok h
    cases h2
    obtain ⟨a1, a2, a3⟩ := need_ok2 h1 hs
    refine ⟨by have := hs.1; simp; omega, fun v hv => ?_⟩
    rcases List.mem_append.1 hv with hv | hv
    · exact a1.2 v hv
    · simp only [List.mem_cons, List.not_mem_nil, or_false] at hv
      rcases hv with rfl | rfl
      · exact getD_ok a2 1
      · exact getD_ok a2 0
  rw [if_neg ho] at h; clear ho
  by_cases ho : x.op = 7
  · rw [if_pos ho] at h
    exact push_ok h hs.2 (getD_ok hc _)
  rw [if_neg ho] at h; clear ho
  by_cases ho : x.op = 9 ∨ x.op = 10 ∨ x.op = 11 ∨ x.op = 12 ∨ x.op = 13
  · rw [if_pos ho] at h
    obtain ⟨q, h1, h2⟩ := bind_ok h
    obtain ⟨n, h3, h4⟩ := bind_ok h2
    obtain ⟨a1, a2⟩ := kinds_ok h1 hs
    have hb := reckon_ok h3 (getD_ok a2 0).2
    exact push_ok h4 a1.2 (num_ok hb.1 hb.2)
  rw [if_neg ho] at h; clear ho
  by_cases ho : x.op = 14
  · rw [if_pos ho] at h
    obtain ⟨q, h1, h2⟩ := bind_ok h
    obtain ⟨a1, a2, -⟩ := need_ok2 h1 hs
    split at h2
    · exact push_ok h2 a1.2 (truth_ok _)
    · cases h2
  rw [if_neg ho] at h; clear ho
  by_cases ho : x.op = 15
  · rw [if_pos ho] at h
    obtain ⟨q, h1, h2⟩ := bind_ok h
    exact push_ok h2 (need_ok2 h1 hs).1.2 (truth_ok _)
  rw [if_neg ho] at h; clear ho
  by_cases ho : x.op = 16
  · rw [if_pos ho] at h
    obtain ⟨q, h1, h2⟩ := bind_ok h
    exact push_ok h2 (kinds_ok h1 hs).1.2 (truth_ok _)
  rw [if_neg ho] at h; clear ho
  by_cases ho : x.op = 21
  · rw [if_pos ho] at h
    obtain ⟨q, h1, h2⟩ := bind_ok h
    split at h2
    · rename_i hle
      exact push_ok h2 (kinds_ok h1 hs).1.2 (txt_ok (by rw [ByteArray.size_append]; exact hle))
    · cases h2
  rw [if_neg ho] at h; clear ho
  by_cases ho : x.op = 22
  · rw [if_pos ho] at h
    obtain ⟨q, h1, h2⟩ := bind_ok h
    have := (getD_ok (kinds_ok h1 hs).2 0).1
    exact push_ok h2 (kinds_ok h1 hs).1.2 (num_ok (by omega) (by omega))
  rw [if_neg ho] at h; clear ho
  by_cases ho : x.op = 23
  · rw [if_pos ho] at h
    obtain ⟨q, h1, h2⟩ := bind_ok h
    split at h2
    · have := (getD_ok (kinds_ok h1 hs).2 0).1
      exact push_ok h2 (kinds_ok h1 hs).1.2 (txt_ok (by rw [ByteArray.size_extract]; omega))
    · cases h2
  rw [if_neg ho] at h; clear ho
  by_cases ho : x.op = 24
  · rw [if_pos ho] at h
    obtain ⟨q, h1, h2⟩ := bind_ok h
    have hv := (getD_ok (kinds_ok h1 hs).2 0).2
    exact push_ok h2 (kinds_ok h1 hs).1.2 (txt_ok (itoa_small hv.1 hv.2))
  rw [if_neg ho] at h; clear ho
  by_cases ho : x.op = 25
  · rw [if_pos ho] at h
    obtain ⟨q, h1, h2⟩ := bind_ok h
    obtain ⟨st3, h3, h4⟩ := bind_ok h2
    refine push_ok h4 (push_ok h3 (kinds_ok h1 hs).1.2 ?_).2 (truth_ok _)
    cases hn : numT (q.2.getD 0 (.num 0)).s.data.toList with
    | none => exact zero_ok
    | some n =>
      have hb : -9223372036854775808 ≤ n ∧ n ≤ 9223372036854775807 := by
        unfold numT at hn
        split at hn
        · rename_i v hv
          split at hn
          · cases hn; exact Lib.atoiAll_bounds hv
          · cases hn
        · cases hn
      exact num_ok hb.1 hb.2
  rw [if_neg ho] at h; clear ho
  by_cases ho : x.op = 26
  · rw [if_pos ho] at h
    obtain ⟨q, h1, h2⟩ := bind_ok h
    exact found_ok h2 (kinds_ok h1 hs).1.2 (getT_ok fun f hf => (hsz f hf).2)
  rw [if_neg ho] at h; clear ho
  by_cases ho : x.op = 27
  · rw [if_pos ho] at h
    exact push_ok h hs.2 (num_ok (by omega) (by omega))
  · rw [if_neg ho] at h
    obtain ⟨q, h1, h2⟩ := bind_ok h
    split at h2
    · refine found_ok h2 (kinds_ok h1 hs).1.2 ?_
      rw [List.getD_eq_getElem?_getD, List.getElem?_map]
      cases hf : view[(q.2.getD 0 (.num 0)).n.toNat]? with
      | none => exact Nat.zero_le _
      | some f => exact Nat.le_trans (hsz f (List.mem_of_getElem? hf)).1 (by decide)
    · exact found_ok h2 (kinds_ok h1 hs).1.2 (Nat.zero_le _)
end Vm
end Go.Proofs.YtbefgplaaghlbaaGreatDoor

/-
  Plain: the machine's steps, one behind the other; what a run answers.
-/
namespace Go.Proofs.YtbefgplaaghlbaaGreatDoor
namespace Vm
open Tr

/-! no instruction gives up with nothing -/
theorem push_err {st : List V} {v : V} {c : Int} (h : push st v = .error c) : c ≠ 0 := by
  unfold push at h
  split at h
  · cases h
  · cases h; decide
theorem kinds_err {st : List V} {sg : List Bool} {c : Int} (h : kinds st sg = .error c) : c ≠ 0 := by
  unfold kinds at h
  split at h
  · cases h; decide
  · split at h
    · cases h
    · cases h; decide
theorem need_err {st : List V} {k : Nat} {c : Int} (h : need st k = .error c) : c ≠ 0 := by
  unfold need at h
  split at h
  · cases h; decide
  · cases h
theorem bind_err {α β : Type} {a : Except Int α} {f : α → Except Int β} {c : Int} (h : a.bind f = .error c) (h1 : ∀ c, a = .error c → c ≠ 0) (h2 : ∀ q c, a = .ok q → f q = .error c → c ≠ 0) : c ≠ 0 := by
  cases a with
  | error d => cases h; exact h1 _ rfl
  | ok q => exact h2 q c rfl h
theorem reckon_err {op a b : Int} {c : Int} (h : reckon op a b = .error c) : c ≠ 0 := by
  unfold reckon at h
  split at h
  · cases h
  split at h
  · cases h
  split at h
  · cases h
  split at h
  · cases h; decide
  split at h
  · cases h
  · cases h
theorem found_err {st : List V} {s : ByteArray} {is : Bool} {c : Int} (h : found st s is = .error c) : c ≠ 0 :=
  bind_err h (fun _ => push_err) fun _ _ _ => push_err
theorem badF_err : ∀ {l : List F} {c : Int}, badF l = some c → c ≠ 0
  | [], c, h => by cases h
  | f :: l, c, h => by
    unfold badF at h
    split at h
    · cases h; decide
    · split at h
      · cases h; decide
      · exact badF_err h
theorem make_err {l : List F} {c : Int} (h : makeP l = .error c) : c ≠ 0 := by
  unfold makeP at h
  split at h
  · cases h; decide
  · split at h
    · rename_i e he
      cases h
      exact badF_err he
    · split at h
      · cases h; decide
      · split at h
        · cases h; decide
        · cases h
theorem putT_err {l : List F} {f : F} {c : Int} (h : putT l f = .error c) : c ≠ 0 := by
  unfold putT at h
  split at h
  · exact make_err h
  · cases h; decide
theorem stackP_err {view : List F} {x : Cd.I} {cells st : List V} {c : Int} (h : stackP view x cells st = .error c) : c ≠ 0 := by
  unfold stackP at h
  by_cases ho : x.op = 2
  · rw [if_pos ho] at h
    exact push_err h
  rw [if_neg ho] at h; clear ho
  by_cases ho : x.op = 3
  · rw [if_pos ho] at h
    exact push_err h
  rw [if_neg ho] at h; clear ho
  by_cases ho : x.op = 4
  · rw [if_pos ho] at h
    exact bind_err h (fun _ => need_err) fun _ _ _ h => by cases h
  rw [if_neg ho] at h; clear ho
  by_cases ho : x.op = 5
  · rw [if_pos ho] at h
    exact bind_err h (fun _ => need_err) fun _ _ _ h => push_err h
  rw [if_neg ho] at h; clear ho
  by_cases ho : x.op = 6
  · rw [if_pos ho] at h
    exact bind_err h (fun _ => need_err) fun _ _ _ h => by cases h
  rw [if_neg ho] at h; clear ho
  by_cases ho : x.op = 7
  · rw [if_pos ho] at h
    exact push_err h
  rw [if_neg ho] at h; clear ho
  by_cases ho : x.op = 9 ∨ x.op = 10 ∨ x.op = 11 ∨ x.op = 12 ∨ x.op = 13
  · rw [if_pos ho] at h
    exact bind_err h (fun _ => kinds_err) fun _ _ _ h => bind_err h (fun _ => reckon_err) fun _ _ _ h => push_err h
  rw [if_neg ho] at h; clear ho
  by_cases ho : x.op = 14
  · rw [if_pos ho] at h
    exact bind_err h (fun _ => need_err) fun _ _ _ h => by
      split at h
      · exact push_err h
      · cases h; decide
  rw [if_neg ho] at h; clear ho
  by_cases ho : x.op = 15
  · rw [if_pos ho] at h
    exact bind_err h (fun _ => need_err) fun _ _ _ h => push_err h
  rw [if_neg ho] at h; clear ho
  by_cases ho : x.op = 16
  · rw [if_pos ho] at h
    exact bind_err h (fun _ => kinds_err) fun _ _ _ h => push_err h
  rw [if_neg ho] at h; clear ho
  by_cases ho : x.op = 21
  · rw [if_pos ho] at h
    exact bind_err h (fun _ => kinds_err) fun _ _ _ h => by
      split at h
      · exact push_err h
      · cases h; decide
  rw [if_neg ho] at h; clear ho
  by_cases ho : x.op = 22
  · rw [if_pos ho] at h
    exact bind_err h (fun _ => kinds_err) fun _ _ _ h => push_err h
  rw [if_neg ho] at h; clear ho
  by_cases ho : x.op = 23
  · rw [if_pos ho] at h
    exact bind_err h (fun _ => kinds_err) fun _ _ _ h => by
      split at h
      · exact push_err h
      · cases h; decide
  rw [if_neg ho] at h; clear ho
  by_cases ho : x.op = 24
  · rw [if_pos ho] at h
    exact bind_err h (fun _ => kinds_err) fun _ _ _ h => push_err h
  rw [if_neg ho] at h; clear ho
  by_cases ho : x.op = 25
  · rw [if_pos ho] at h
    exact bind_err h (fun _ => kinds_err) fun _ _ _ h => bind_err h (fun _ => push_err) fun _ _ _ h => push_err h
  rw [if_neg ho] at h; clear ho
  by_cases ho : x.op = 26
  · rw [if_pos ho] at h
    exact bind_err h (fun _ => kinds_err) fun _ _ _ h => found_err h
  rw [if_neg ho] at h; clear ho
  by_cases ho : x.op = 27
  · rw [if_pos ho] at h
    exact push_err h
  rw [if_neg ho] at h; clear ho
  exact bind_err h (fun _ => kinds_err) fun _ _ _ h => by
    split at h
    · exact found_err h
    · exact found_err h
theorem opM_err {m : Mc} {x : Cd.I} {c : Int} (h : opM m x = .error c) : c ≠ 0 := by
  unfold opM at h
  split at h
  · cases h
  split at h
  · cases h
  split at h
  · exact bind_err h (fun _ => kinds_err) fun _ _ _ h => by cases h
  split at h
  · split at h
    · cases h
    · cases h; decide
  split at h
  · split at h
    · cases h; decide
    · cases h
  split at h
  · cases h; decide
  split at h
  · exact bind_err h (fun _ => need_err) fun _ _ _ h => by cases h
  split at h
  · exact bind_err h (fun _ => kinds_err) fun _ _ _ h => bind_err h (fun _ => putT_err) fun _ _ _ h => by cases h
  · unfold Mc.st at h
    split at h
    · cases h
    · rename_i e
      cases h
      exact stackP_err e
/-! an instruction keeps the machine in order -/
theorem opM_ok {m m2 : Mc} {x : Cd.I} (h : opM m x = .ok m2) (hm : OkM m) (hx : -9223372036854775808 ≤ x.n ∧ x.n ≤ 9223372036854775807) (ht : x.op = 3 → x.s.size ≤ 256) : OkM m2 := by
  have hs : StOk m.stack := ⟨hm.st, hm.sv⟩
  unfold opM at h
  split at h
  · cases h; exact ⟨hm.st, hm.sv, hm.cv, hm.c16, hm.cl, hm.view, hm.out⟩
  split at h
  · cases h; exact ⟨hm.st, hm.sv, hm.cv, hm.c16, hm.cl, hm.view, hm.out⟩
  split at h
  · obtain ⟨q, h1, h2⟩ := bind_ok h
    cases h2
    exact ⟨(kinds_ok h1 hs).1.1, (kinds_ok h1 hs).1.2, hm.cv, hm.c16, hm.cl, hm.view, hm.out⟩
  split at h
  · split at h
    · rename_i hl
      cases h
      exact ⟨hm.st, hm.sv, hm.cv, hm.c16, by show (m.calls ++ [m.at_]).length ≤ 16; rw [List.length_append, List.length_singleton]; omega, hm.view, hm.out⟩
    · cases h
  split at h
  · split at h
    · cases h
    · cases h
      exact ⟨hm.st, hm.sv, hm.cv, hm.c16, by show m.calls.dropLast.length ≤ 16; rw [List.length_dropLast]; have := hm.cl; omega, hm.view, hm.out⟩
  split at h
  · cases h
  split at h
  · obtain ⟨q, h1, h2⟩ := bind_ok h
    cases h2
    refine ⟨(need_ok2 h1 hs).1.1, (need_ok2 h1 hs).1.2, fun v hv => ?_, by show (m.cells.set _ _).length = 16; rw [List.length_set]; exact hm.c16, hm.cl, hm.view, hm.out⟩
    rcases List.mem_or_eq_of_mem_set hv with hv | rfl
    · exact hm.cv v hv
    · exact getD_ok (need_ok2 h1 hs).2.1 0
  split at h
  · obtain ⟨q, h1, h2⟩ := bind_ok h
    obtain ⟨o, h3, h4⟩ := bind_ok h2
    cases h4
    exact ⟨(kinds_ok h1 hs).1.1, (kinds_ok h1 hs).1.2, hm.cv, hm.c16, hm.cl, hm.view, put_is h3⟩
  · obtain ⟨st, h1, rfl⟩ := st_keeps h
    have h2 := stackP_ok h1 hs hm.cv hm.view hx ht
    exact ⟨h2.1, h2.2, hm.cv, hm.c16, hm.cl, hm.view, hm.out⟩
/-- its place stays in the program, or just behind it -/
theorem opM_at {m m2 : Mc} {x : Cd.I} {L : Nat} (h : opM m x = .ok m2) (ha : m.at_ ≤ L) (hc : ∀ a ∈ m.calls, a ≤ L) (hx : x.op = 17 ∨ x.op = 18 ∨ x.op = 19 → 0 ≤ x.n ∧ x.n < L) : m2.at_ ≤ L ∧ ∀ a ∈ m2.calls, a ≤ L := by
  unfold opM at h
  split at h
  · cases h; exact ⟨ha, hc⟩
  split at h
  · rename_i ho
    have := hx (.inl ho)
    cases h
    exact ⟨by show x.n.toNat ≤ L; omega, hc⟩
  split at h
  · rename_i ho
    have := hx (.inr (.inl ho))
    obtain ⟨q, h1, h2⟩ := bind_ok h
    cases h2
    refine ⟨?_, hc⟩
    show (if (q.2.getD 0 (.num 0)).n = 0 then x.n.toNat else m.at_) ≤ L
    split <;> omega
  split at h
  · rename_i ho
    have := hx (.inr (.inr ho))
    split at h
    · cases h
      refine ⟨by show x.n.toNat ≤ L; omega, fun a h1 => ?_⟩
      rcases List.mem_append.1 h1 with h1 | h1
      · exact hc a h1
      · rw [List.mem_singleton.1 h1]; exact ha
    · cases h
  split at h
  · split at h
    · cases h
    · rename_i a hl
      cases h
      refine ⟨hc a (List.mem_of_getLast? hl), fun a h1 => hc a (List.dropLast_subset _ h1)⟩
  split at h
  · cases h
  split at h
  · obtain ⟨q, h1, h2⟩ := bind_ok h
    cases h2
    exact ⟨ha, hc⟩
  split at h
  · obtain ⟨q, h1, h2⟩ := bind_ok h
    obtain ⟨o, h3, h4⟩ := bind_ok h2
    cases h4
    exact ⟨ha, hc⟩
  · obtain ⟨st, h1, rfl⟩ := st_keeps h
    exact ⟨ha, hc⟩
/-! the program -/
theorem firstBad_none {c : Int} : ∀ {p : List Cd.I}, Cd.firstBad c p = none → ∀ x ∈ p, Cd.right x c = true
  | [], _, x, hx => by cases hx
  | y :: p, h, x, hx => by
    unfold Cd.firstBad at h
    split at h
    · rename_i hr
      rcases List.mem_cons.1 hx with rfl | hx
      · exact hr
      · exact firstBad_none (by simpa using h) x hx
    · cases h
theorem check_zero {p : List Cd.I} (h : (Cd.check p).2 = 0) : 0 < p.length ∧ p.length ≤ 256 ∧ ∀ x ∈ p, Cd.right x p.length = true := by
  unfold Cd.check at h
  split at h
  · exact absurd h (by decide)
  · rename_i hl
    split at h
    · exact absurd h (by show (30 : Int) ≠ 0; decide)
    · rename_i hb
      exact ⟨by omega, by omega, firstBad_none hb⟩
/-! the steps -/
def stepM (m : Mc) : Mc := match opM { m with at_ := m.at_ + 1, steps := m.steps + 1 } (m.p.getD m.at_ ⟨0, 0, ⟨#[]⟩⟩) with
  | .ok m2 => if m2.at_ = m.p.length then { m2 with done := true } else m2
  | .error c => { m with done := true, fault := c, steps := m.steps + 1 }
def tick (m : Mc) : Mc := if m.done = false ∧ m.steps = 4096 then { m with done := true, fault := 45 } else m
/-- at most so many steps: how many; the machine then -/
def stepsM : Nat → Mc → Nat × Mc
  | 0, m => (0, m)
  | k + 1, m => if m.done = true then (0, m) else ((stepsM k (tick (stepM m))).1 + 1, (stepsM k (tick (stepM m))).2)
/-- the same machine, or two that gave up alike -/
def Sim (m m' : Mc) : Prop := m = m' ∨ m.done = true ∧ m'.done = true ∧ m.fault = m'.fault ∧ m.fault ≠ 0 ∧ m.steps = m'.steps
/-- a machine between two steps -/
def GoodM (m : Mc) : Prop := m.steps ≤ 4096 ∧ ((m.done = true ∧ (m.fault = 0 → goodT m.out = true)) ∨ (OkM m ∧ (Cd.check m.p).2 = 0 ∧ (∀ x ∈ m.p, -9223372036854775808 ≤ x.n ∧ x.n ≤ 9223372036854775807) ∧ m.at_ < m.p.length ∧ (∀ a ∈ m.calls, a ≤ m.p.length) ∧ m.steps < 4096 ∧ m.fault = 0))
theorem steps_done {m : Mc} (h : m.done = true) : ∀ k, stepsM k m = (0, m)
  | 0 => rfl
  | k + 1 => by unfold stepsM; rw [if_pos h]
theorem steps_more {m : Mc} (h : m.done = false) (k : Nat) : stepsM (k + 1) m = ((stepsM k (tick (stepM m))).1 + 1, (stepsM k (tick (stepM m))).2) := by
  rw [stepsM, if_neg (by rw [h]; decide)]
theorem Sim.tick {m m' : Mc} (h : Sim m m') : Sim (tick m) (tick m') := by
  rcases h with rfl | h
  · exact .inl rfl
  · refine .inr ?_
    unfold Vm.tick
    rw [if_neg (by rw [h.1]; simp), if_neg (by rw [h.2.1]; simp)]
    exact h
theorem Sim.done {m m' : Mc} (h : Sim m m') : m.done = m'.done := by
  rcases h with rfl | h
  · rfl
  · rw [h.1, h.2.1]
/-- so many steps from like machines -/
theorem Sim.steps {m m' : Mc} (h : Sim m m') (k : Nat) : (stepsM k m).1 = (stepsM k m').1 ∧ Sim (stepsM k m).2 (stepsM k m').2 := by
  rcases h with rfl | h
  · exact ⟨rfl, .inl rfl⟩
  · rw [steps_done h.1, steps_done h.2.1]
    exact ⟨rfl, .inr h⟩
theorem steps_le : ∀ (k : Nat) (m : Mc), (stepsM k m).1 ≤ k
  | 0, m => Nat.le_refl _
  | k + 1, m => by
    rw [stepsM]
    split
    · exact Nat.zero_le _
    · exact Nat.succ_le_succ (steps_le k _)
/-- a good machine stays one -/
theorem good_step {m : Mc} (h : GoodM m) (hd : m.done = false) : GoodM (tick (stepM m)) ∧ (stepM m).steps = m.steps + 1 ∧ (tick (stepM m)).steps = m.steps + 1 := by
  obtain ⟨-, h | ⟨h1, h2, h3, h4, h5, h6, h7⟩⟩ := h
  · rw [h.1] at hd; cases hd
  obtain ⟨c1, c2, c3⟩ := check_zero h2
  have hx : m.p[m.at_]? = some (m.p[m.at_]'h4) := List.getElem?_eq_getElem h4
  have hmem : m.p[m.at_]'h4 ∈ m.p := List.getElem_mem h4
  have hgd : m.p.getD m.at_ ⟨0, 0, ⟨#[]⟩⟩ = m.p[m.at_]'h4 := by rw [List.getD_eq_getElem?_getD, hx]; rfl
  have hr := c3 _ hmem
  have hm5 : OkM { m with at_ := m.at_ + 1, steps := m.steps + 1 } := ⟨h1.st, h1.sv, h1.cv, h1.c16, h1.cl, h1.view, h1.out⟩
  generalize m.p[m.at_]'h4 = x at *
  unfold stepM
  rw [hgd]
  cases ho : opM { m with at_ := m.at_ + 1, steps := m.steps + 1 } x with
  | error c =>
    have : tick { m with done := true, fault := c, steps := m.steps + 1 } = { m with done := true, fault := c, steps := m.steps + 1 } := by unfold tick; rw [if_neg (by simp)]
    refine ⟨?_, rfl, ?_⟩
    · show GoodM (tick { m with done := true, fault := c, steps := m.steps + 1 })
      rw [this]
      exact ⟨h6, .inl ⟨rfl, fun h => absurd h (opM_err ho)⟩⟩
    · show (tick { m with done := true, fault := c, steps := m.steps + 1 }).steps = _
      rw [this]
  | ok m2 =>
    have hk := opM_ok ho hm5 (h3 x hmem) (right_text hr)
    obtain ⟨k1, k2, k3, k4⟩ := op_keeps ho
    obtain ⟨a1, a2⟩ := opM_at (L := m.p.length) ho h4 h5 (right_place hr)
    simp only at k1 k2 k3 k4
    show GoodM (tick (if m2.at_ = m.p.length then { m2 with done := true } else m2)) ∧ (if m2.at_ = m.p.length then { m2 with done := true } else m2).steps = _ ∧ (tick (if m2.at_ = m.p.length then { m2 with done := true } else m2)).steps = _
    split
    · have : tick { m2 with done := true } = { m2 with done := true } := by unfold tick; rw [if_neg (by simp)]
      rw [this]
      exact ⟨⟨by show m2.steps ≤ 4096; omega, .inl ⟨rfl, fun _ => hk.out⟩⟩, k3, k3⟩
    · rename_i hne
      refine ⟨?_, k3, ?_⟩
      · unfold tick
        split
        · exact ⟨by show m2.steps ≤ 4096; omega, .inl ⟨rfl, fun h => absurd h (by show (45 : Int) ≠ 0; decide)⟩⟩
        · rename_i hnt
          cases hd2 : m2.done with
          | true => exact ⟨by omega, .inl ⟨hd2, fun _ => hk.out⟩⟩
          | false =>
            have : m2.steps ≠ 4096 := fun e => hnt ⟨hd2, e⟩
            exact ⟨by omega, .inr ⟨hk, by rw [k1]; exact h2, by rw [k1]; exact h3, by rw [k1]; omega, by rw [k1]; exact a2, by omega, by rw [k4]; exact h7⟩⟩
      · unfold tick
        split <;> exact k3
/-! a run -/
def startM (p : List Cd.I) (view : List F) : Mc := ⟨p, view, [], [], [], List.replicate 16 (.num 0), 0, 0, false, 0⟩
/-- what a machine shows -/
def showM (m : Mc) : List F × Int := if m.done = false then ([], 80) else if m.fault ≠ 0 then ([], m.fault) else (m.out, 0)
def runM (p : List Cd.I) (view : List F) : List F × Nat × Int :=
  if (Cd.check p).2 ≠ 0 then ([], 0, (Cd.check p).2)
  else if goodT view = false then ([], 0, 1)
  else ((showM (stepsM 4096 (startM p view)).2).1, (stepsM 4096 (startM p view)).1, (showM (stepsM 4096 (startM p view)).2).2)
theorem Sim.show_ {m m' : Mc} (h : Sim m m') : showM m = showM m' := by
  rcases h with rfl | ⟨h1, h2, h3, h4, -⟩
  · rfl
  · unfold showM
    have h5 : m'.fault ≠ 0 := h3 ▸ h4
    rw [h1, h2, h3]
    simp [h5]
theorem start_good {p : List Cd.I} {view : List F} (hp : (Cd.check p).2 = 0) (hv : goodT view = true) (hn : ∀ x ∈ p, -9223372036854775808 ≤ x.n ∧ x.n ≤ 9223372036854775807) : GoodM (startM p view) := by
  have ho : OkM (startM p view) := {
    st := Nat.zero_le _
    sv := fun v h => nomatch h
    cv := fun v h => by
      have : v = .num 0 := List.eq_of_mem_replicate h
      rw [this]
      exact zero_ok
    c16 := rfl
    cl := Nat.zero_le _
    view := hv
    out := good_nil }
  exact ⟨Nat.zero_le _, .inr ⟨ho, hp, hn, (check_zero hp).1, (fun a h => nomatch h), by show 0 < 4096; decide, rfl⟩⟩
end Vm
end Go.Proofs.YtbefgplaaghlbaaGreatDoor

/-
  The machine: a number of steps (Step), whether it is done, how many steps it has done.
-/
namespace Go.Proofs.YtbefgplaaghlbaaGreatDoor
open Go.RowKit Go.Shelf Go.Lib
namespace Vm
open Tr

theorem Sim.good {m m' : Mc} (h : Sim m m') (hg : GoodM m') : GoodM m := by
  rcases h with rfl | ⟨h1, h2, h3, h4, h5⟩
  · exact hg
  · exact ⟨by rw [h5]; exact hg.1, .inl ⟨h1, fun h => absurd h h4⟩⟩
theorem step_sim {w : World} {b : Nat} {m : Mc} {S : Nat → Prop} {x : MV} (h : MR w b m S x) (hE : EnvS w S) (hG : GoodM m) (hd : m.done = false) :
    Calls Tryz.prog 44 #[.pointer (some ⟨b, 0, none⟩)] w fun e w' => e = .returned (.tuple #[]) ∧ ∃ m' S' x', MR w' b m' S' x' ∧ Fr w w' S S' ∧ Sim m' (stepM m) := by
  obtain ⟨-, h9 | ⟨h1, h2, h3, h4, h5, h6, h7⟩⟩ := hG
  · rw [h9.1] at hd; cases hd
  obtain ⟨c1, c2, c3⟩ := check_zero h2
  have hx : m.p[m.at_]? = some (m.p[m.at_]'h4) := List.getElem?_eq_getElem h4
  have hmem : m.p[m.at_]'h4 ∈ m.p := List.getElem_mem h4
  have hgd : m.p.getD m.at_ ⟨0, 0, ⟨#[]⟩⟩ = m.p[m.at_]'h4 := by rw [List.getD_eq_getElem?_getD, hx]; rfl
  refine (step_any h hE h1 _ hx (c3 _ hmem) ⟨c2, by omega⟩ rfl).mono ?_
  rintro e w' ⟨he, m', S', x', hm, hF, hr⟩
  refine ⟨he, m', S', x', hm, hF, ?_⟩
  unfold stepM
  rw [hgd]
  generalize m.p[m.at_]'h4 = i at *
  cases ho : opM { m with at_ := m.at_ + 1, steps := m.steps + 1 } i with
  | error c =>
    rw [ho] at hr
    obtain ⟨a1, a2, a3⟩ := hr
    exact .inr ⟨a1, rfl, a2, by rw [a2]; exact opM_err ho, a3⟩
  | ok m2 =>
    rw [ho] at hr
    exact .inl hr
/-- what a number of steps answers -/
def StepsOut (w : World) (b : Nat) (m : Mc) (S : Nat → Prop) (k : Nat) (e : Ending) (w' : World) : Prop :=
  e = .returned (.int .i64 (stepsM k m).1) ∧ ∃ m' S' x', MR w' b m' S' x' ∧ Fr w w' S S' ∧ Sim m' (stepsM k m).2 ∧ GoodM m'
/-- between two steps -/
structure SI (w : World) (b : Nat) (m : Mc) (S : Nat → Prop) (N k : Nat) (mi : Mc) (Si : Nat → Prop) (xi : MV) (wr : World) : Prop where
  mr : MR wr b mi Si xi
  fr : Fr w wr S Si
  gd : GoodM mi
  le : k ≤ mi.steps
  kn : k ≤ N
  num : k + (stepsM (N - k) mi).1 = (stepsM N m).1
  sim : Sim (stepsM (N - k) mi).2 (stepsM N m).2
  env : EnvS wr Si
theorem SI.out {w wr : World} {b : Nat} {m mi : Mc} {S Si : Nat → Prop} {N k : Nat} {xi : MV} (h : SI w b m S N k mi Si xi wr) (he : mi.done = true ∨ k = N) : (stepsM N m).1 = k ∧ Sim mi (stepsM N m).2 := by
  have h1 := h.num
  have h2 := h.sim
  rcases he with he | rfl
  · rw [steps_done he] at h1 h2
    exact ⟨h1.symm, h2⟩
  · rw [Nat.sub_self] at h1 h2
    exact ⟨h1.symm, h2⟩
theorem SI.next {w wr w2 : World} {b : Nat} {m mi m2 : Mc} {S Si S2 : Nat → Prop} {N k : Nat} {xi x2 : MV} (h : SI w b m S N k mi Si xi wr) (hd : mi.done = false) (hk : k < N) (hm : MR w2 b m2 S2 x2) (hF : Fr w w2 S S2) (hE : EnvS w2 S2) (hs : Sim m2 (tick (stepM mi))) : SI w b m S N (k + 1) m2 S2 x2 w2 := by
  obtain ⟨g1, g2, g3⟩ := good_step h.gd hd
  have h1 := h.num
  have h2 := h.sim
  rw [show N - k = (N - (k + 1)) + 1 by omega, steps_more hd] at h1 h2
  obtain ⟨a1, a2⟩ := hs.steps (N - (k + 1))
  refine ⟨hm, hF, hs.good g1, ?_, hk, ?_, ?_, hE⟩
  · have : m2.steps = mi.steps + 1 := by
      rcases hs with rfl | ⟨-, -, -, -, h5⟩
      · exact g3
      · rw [h5]; exact g3
    have := h.le
    omega
  · rw [a1, ← h1]
    simp only
    omega
  · rcases a2 with e | ⟨b1, b2, b3, b4, b5⟩
    · rw [e]; exact h2
    · rcases h2 with e | ⟨c1, c2, c3, c4, c5⟩
      · simp only at e
        exact .inr ⟨b1, by rw [← e]; exact b2, by rw [← e]; exact b3, b4, by rw [← e]; exact b5⟩
      · exact .inr ⟨b1, c2, b3.trans c3, b4, b5.trans c5⟩
set_option maxHeartbeats 4000000 in
set_option maxRecDepth 100000 in
theorem steps_any {w : World} {b : Nat} {m : Mc} {S : Nat → Prop} {x : MV} (h : MR w b m S x) (hE : EnvS w S) (hG : GoodM m) (n : Int) (hn : n ≤ 9223372036854775807) :
    Calls Tryz.prog 25 #[.pointer (some ⟨b, 0, none⟩), .int .i64 n] w (StepsOut w b m S n.toNat) := by
  have HS := Lib.hid (show SI w b m S n.toNat 0 m S x w from ⟨h, Fr.refl _ _, hG, Nat.zero_le _, Nat.zero_le _, by simp, .inl (by simp), hE⟩)
  clear h hE hG
  go_enter Tryz.func25, Tryz.ntmps25
  go_wp2_with fail
  go_loopw [5] (fun i wr => ∃ (k : Nat) (mi : Mc) (Si : Nat → Prop) (xi : MV), i = .int .i64 (k : Int) ∧ SI w b m S n.toNat k mi Si xi wr) (fun i _ => n.toNat - (RowKit.intOf i).toNat)
  case atStart => exact ⟨0, m, S, x, rfl, HS.out⟩
  case round =>
    obtain ⟨k, mi, Si, xi, rfl, hi⟩ := hrel
    have c55 := hi.mr.cells4.2.2.1
    have HI := Lib.hid hi
    have hk := hi.kn
    have hle := hi.le
    have hst := hi.gd.1
    clear hi
    by_cases hlt : (k : Int) < n
    · cases hd : mi.done with
      | true =>
        rw [hd] at c55
        have ho := HI.out.out (.inl hd)
        go_wp2_with fail
        go_ret
        refine ⟨by rw [ho.1]; rfl, mi, Si, xi, HI.out.mr, HI.out.fr, ho.2, HI.out.gd⟩
      | false =>
        rw [hd] at c55
        have HC := Lib.hid (step_sim HI.out.mr HI.out.env HI.out.gd hd)
        have HD := Lib.hid hd
        clear hd
        go_wp2_with fail
        refine HC.out.mono ?_
        clear HC
        rintro e w2 ⟨rfl, m2, S2, x2, hm2, hF2, hs2⟩
        have c54 := hm2.cells4.2.1
        have c55' := hm2.cells4.2.2.1
        have y55 := hm2.frz 55
        have y56 := hm2.frz 56
        have HM := Lib.hid hm2
        have HF := Lib.hid (HI.out.fr.trans hF2)
        have HE := Lib.hid (HI.out.env.fr hF2)
        have HT := Lib.hid hs2.tick
        clear hm2 hF2 hs2 c55
        cases hd2 : m2.done with
        | true =>
          rw [hd2] at c55'
          have ht : tick m2 = m2 := by unfold tick; rw [if_neg (by rw [hd2]; simp)]
          have HN := Lib.hid (HI.out.next HD.out (by omega) HM.out HF.out HE.out (by have := HT.out; rw [ht] at this; exact this))
          clear ht hd2
          go_wp2_with fail
          go_roundw
          case rel => exact ⟨k + 1, m2, S2, x2, by push_cast; rfl, HN.out⟩
          case measure => simp [RowKit.intOf]; omega
        | false =>
          rw [hd2] at c55'
          by_cases hs4 : m2.steps = 4096
          · have ht : tick m2 = { m2 with done := true, fault := 45 } := by unfold tick; rw [if_pos ⟨hd2, hs4⟩]
            have h3 := (HM.out.done true).fault 45
            have HN := Lib.hid (HI.out.next HD.out (by omega) h3 ((HF.out.set (p := ⟨b, 55, none⟩) HM.out.sb (.bool true)).set (p := ⟨b, 56, none⟩) HM.out.sb (.int .i64 45)) (HE.out.fr (((Fr.refl w2 S2).set (p := ⟨b, 55, none⟩) HM.out.sb (.bool true)).set (p := ⟨b, 56, none⟩) HM.out.sb (.int .i64 45))) (by have := HT.out; rw [ht] at this; exact this))
            have c56 := (HM.out.done true).cells4.2.2.2
            have z56 := (HM.out.done true).frz 56
            have hq : ((m2.steps : Int) == 4096) = true := by rw [hs4]; rfl
            clear ht hd2 h3 hs4
            go_wp2_with fail
            go_roundw
            case rel => exact ⟨k + 1, _, S2, x2, by push_cast; rfl, HN.out⟩
            case measure => simp [RowKit.intOf]; omega
          · have ht : tick m2 = m2 := by unfold tick; rw [if_neg (fun h => hs4 h.2)]
            have HN := Lib.hid (HI.out.next HD.out (by omega) HM.out HF.out HE.out (by have := HT.out; rw [ht] at this; exact this))
            have hq : ((m2.steps : Int) == 4096) = false := by rw [beq_eq_false_iff_ne]; omega
            clear ht hd2 hs4
            go_wp2_with fail
            go_roundw
            case rel => exact ⟨k + 1, m2, S2, x2, by push_cast; rfl, HN.out⟩
            case measure => simp [RowKit.intOf]; omega
    · have ho := HI.out.out (.inr (by omega))
      go_wp2_with fail
      go_ret
      refine ⟨by rw [ho.1]; rfl, mi, Si, xi, HI.out.mr, HI.out.fr, ho.2, HI.out.gd⟩
end Vm
end Go.Proofs.YtbefgplaaghlbaaGreatDoor

/-
  The machine: whether it is done, how many steps it has done, what it has written.
-/
namespace Go.Proofs.YtbefgplaaghlbaaGreatDoor
open Go.RowKit Go.Shelf Go.Lib
namespace Vm
open Tr

set_option maxRecDepth 100000 in
theorem done_any {w : World} {b : Nat} {m : Mc} {S : Nat → Prop} {x : MV} (h : MR w b m S x) :
    Calls Tryz.prog 30 #[.pointer (some ⟨b, 0, none⟩)] w fun e w' => e = .returned (.bool m.done) ∧ w' = w := by
  have c := h.cells4.2.2.1
  clear h
  go_enter Tryz.func30, Tryz.ntmps30
  go_wp2_with fail
  go_ret
  exact ⟨rfl, rfl⟩
set_option maxRecDepth 100000 in
theorem done_nil (w : World) : Calls Tryz.prog 30 #[.pointer none] w fun e w' => e = .returned (.bool false) ∧ w' = w := by
  go_enter Tryz.func30, Tryz.ntmps30
  go_wp2_with fail
  go_ret
  exact ⟨rfl, rfl⟩
set_option maxRecDepth 100000 in
theorem count_any {w : World} {b : Nat} {m : Mc} {S : Nat → Prop} {x : MV} (h : MR w b m S x) :
    Calls Tryz.prog 31 #[.pointer (some ⟨b, 0, none⟩)] w fun e w' => e = .returned (.int .i64 m.steps) ∧ w' = w := by
  have c := h.cells4.2.1
  clear h
  go_enter Tryz.func31, Tryz.ntmps31
  go_wp2_with fail
  go_ret
  exact ⟨rfl, rfl⟩
set_option maxRecDepth 100000 in
theorem count_nil (w : World) : Calls Tryz.prog 31 #[.pointer none] w fun e w' => e = .returned (.int .i64 0) ∧ w' = w := by
  go_enter Tryz.func31, Tryz.ntmps31
  go_wp2_with fail
  go_ret
  exact ⟨rfl, rfl⟩
set_option maxRecDepth 100000 in
theorem steps_nil (n : Int) (w : World) : Calls Tryz.prog 25 #[.pointer none, .int .i64 n] w fun e w' => e = .returned (.int .i64 0) ∧ w' = w := by
  go_enter Tryz.func25, Tryz.ntmps25
  go_wp2_with fail
  go_ret
  exact ⟨rfl, rfl⟩
/-- Clone of any slice of files -/
theorem fclone_fs (l : List F) (v : Value) (w : World) (hF : FS w v l) (hl : l.length ≤ 1000000) :
    Calls Tryz.prog 37 #[v] w fun e w' => ∃ v', e = .returned v' ∧ FS w' v' l ∧ (∀ k, v'.ownBlock = some k → w.heap.size ≤ k) ∧ Below w.heap.size w w' := by
  rcases hF with ⟨rfl, rfl⟩ | ⟨g, off, cap, rfl, hC⟩
  · refine (fclone_nil w).mono ?_
    rintro e w' ⟨rfl, rfl⟩
    exact ⟨_, rfl, .inl ⟨rfl, rfl⟩, (fun k hk => by cases hk), Below.refl _ _⟩
  · refine (fclone_any l g off cap w hC hl).mono ?_
    rintro e w' ⟨g', cap', rfl, hg, hR, hB⟩
    refine ⟨_, rfl, .inr ⟨g', 0, cap', rfl, hR.fc⟩, fun k hk => ?_, hB⟩
    cases hk
    exact hg
/-- what Result answers -/
def ResOut (w : World) (r : List F × Int) (e : Ending) (w' : World) : Prop := ∃ v, e = .returned (.tuple #[.agg #[v], .int .i64 r.2]) ∧ FS w' v r.1 ∧ (∀ k, v.ownBlock = some k → w.heap.size ≤ k) ∧ Below w.heap.size w w'
theorem res_ret {w X : World} (h : RC w X) {v : Value} {c : Int} {tm : Array Value} {r : List F × Int} (h2 : tm[2]? = some (.pointer (some ⟨w.heap.size, 0, none⟩))) (h3 : tm[3]? = some (.int .i64 c)) (hc : c = r.2) (hF : FS X v r.1) (hk : ∀ k, v.ownBlock = some k → w.heap.size < k) :
    bodyPost Tryz.prog Tryz.f26 (ResOut w r) Exit.ret ⟨tm, []⟩ (X.setCell ⟨w.heap.size, 0, none⟩ v) := by
  subst hc
  refine bodyPost_ret (v := .tuple #[.agg #[v], .int .i64 r.2]) (by simp [results, Tryz.results26, go_sem, h2, h3, h.res v]) rfl ⟨v, rfl, ?_, fun k h => Nat.le_of_lt (hk k h), h.fin v⟩
  refine FS.blk hF (by simp) fun k h => Below.heap_setCell _ _ _ _ ?_
  show k ≠ w.heap.size
  have := hk k h
  omega
theorem res_none {w X : World} (h : RC w X) {c : Int} {tm : Array Value} {r : List F × Int} (h2 : tm[2]? = some (.pointer (some ⟨w.heap.size, 0, none⟩))) (h3 : tm[3]? = some (.int .i64 c)) (hr : r = ([], c)) :
    bodyPost Tryz.prog Tryz.f26 (ResOut w r) Exit.ret ⟨tm, []⟩ X := by
  subst hr
  exact bodyPost_ret (v := .tuple #[.agg #[.slice none 0 0], .int .i64 c]) (by simp [results, Tryz.results26, go_sem, h2, h3, h.c.1]) rfl ⟨_, rfl, .inl ⟨rfl, rfl⟩, (fun k h => by cases h), h.old⟩
set_option maxRecDepth 100000 in
theorem result_nil (w : World) : Calls Tryz.prog 26 #[.pointer none] w (ResOut w ([], 2)) := by
  have HC := Lib.hid (RC.start w)
  obtain ⟨c0, f0⟩ := HC.out.c
  go_enter Tryz.func26, Tryz.ntmps26
  go_wp2_with fail
  exact res_none HC.out rfl rfl rfl
set_option maxHeartbeats 1000000 in
set_option maxRecDepth 100000 in
theorem result_any {w : World} {b : Nat} {m : Mc} {S : Nat → Prop} {x : MV} (h : MR w b m S x) (hG : GoodM m) :
    Calls Tryz.prog 26 #[.pointer (some ⟨b, 0, none⟩)] w (ResOut w (showM m)) := by
  have HC := Lib.hid (RC.start w)
  obtain ⟨c0, f0⟩ := HC.out.c
  have h1 := h.keep HC.out.old
  obtain ⟨-, -, co, -, -⟩ := h1.cells5
  obtain ⟨-, -, c55, c56⟩ := h1.cells4
  have HM := Lib.hid h1
  have hbw := h.hS b h.sb
  have HN := Lib.hid (show b ≠ w.heap.size by omega)
  clear h h1 hbw
  go_enter Tryz.func26, Tryz.ntmps26
  cases hd : m.done with
  | false =>
    rw [hd] at c55
    have HR := Lib.hid (show showM m = ([], 80) by unfold showM; rw [if_pos hd])
    rw [HR.out]
    go_wp2_with fail
    exact res_none HC.out rfl rfl rfl
  | true =>
    rw [hd] at c55
    by_cases hf : m.fault = 0
    · have HR := Lib.hid (show showM m = (m.out, 0) by unfold showM; rw [if_neg (by rw [hd]; decide), if_neg (by simpa using hf)])
      rw [HR.out]
      have hq : (m.fault != 0) = false := by simp [hf]
      have hlen : m.out.length ≤ 1000000 := by
        obtain ⟨-, h | h⟩ := hG
        · have := (good_sizes (h.2 hf)).2; omega
        · have := (good_sizes h.1.out).2; omega
      have hcl := fclone_fs m.out x.ov _ HM.out.out.1 hlen
      clear hf
      go_wp2_with (go_at_call 37; with_reducible refine hcl.mono ?_; clear hcl; rintro e w2 ⟨v2, he, hF2, hk2, hb2⟩; obtain ⟨sl2, cap2, hv2⟩ := hF2.len; subst hv2; subst he; have c2 := Sx.keep_cell hb2 c0; have H2 := Lib.hid (And.intro hF2 (And.intro hk2 (HC.out.next hb2))); have f2 := H2.out.2.2.c.2; clear hF2 hk2 hb2)
      exact res_ret H2.out.2.2 rfl rfl rfl H2.out.1 (fun k h => by have := H2.out.2.1 k h; simp at this; omega)
    · have HR := Lib.hid (show showM m = ([], m.fault) by unfold showM; rw [if_neg (by rw [hd]; decide), if_pos hf])
      rw [HR.out]
      have hq : (m.fault != 0) = true := by simp [hf]
      clear hf
      go_wp2_with fail
      have e1 := kb_cell c56
      clear c56 c55 co
      refine Mix.region (fun u => ∃ Y, u = kb (w.alloc (.cells #[.slice none 0 0] 25)) b Y) 6 [0, 0, 0, 0, 0, 1, 9] [true, false] (by kernel_rfl) (fun _ _ d _ _ h => by cases d <;> exact h) (by rfl) (by kernel_rfl) (kb_of rfl) ?_
      simp only [Mix.selP_cons, Mix.selP_nil, Mix.sel_cons, Mix.sel_nil, Nat.reduceBEq, Nat.reduceAdd, cond_true, cond_false, List.drop_succ_cons, List.drop_zero]
      refine Mix.parts_q ?_
      repeat (go_big_quiet_step (fail))
      refine wpQuiet_nil ?_
      refine Mix.parts_e ?_
      refine Mix.eff_step (fun K hK => ?_)
      go_simp
      refine hK _ _ (kb_of rfl) ?_
      clear hK K
      refine Mix.eff_nil ?_
      refine Mix.parts_n ?_
      go_wp2_with fail
      exact res_none HC.out.drew rfl rfl rfl
end Vm
end Go.Proofs.YtbefgplaaghlbaaGreatDoor

/-
  The machine: a new one (New).
-/
namespace Go.Proofs.YtbefgplaaghlbaaGreatDoor
open Go.RowKit Go.Shelf Go.Lib
namespace Vm
open Tr

/-! a copy of a program -/
abbrev insCl (x : Cd.I) : List Value := [.int .i64 x.op, .int .i64 x.n, .string x.s]
def rowJ (l : List Cd.I) : List Value := l.flatMap insCl
theorem rowJ_len : ∀ l : List Cd.I, (rowJ l).length = l.length * 3
  | [] => rfl
  | a :: l => by
    have := rowJ_len l
    simp only [rowJ, List.flatMap_cons, List.length_append, List.length_cons, List.length_nil] at *
    omega
theorem rowJ_at : ∀ (l : List Cd.I) (k : Nat) (a : Cd.I), l[k]? = some a → (rowJ l)[k * 3]? = some (.int .i64 a.op) ∧ (rowJ l)[k * 3 + 1]? = some (.int .i64 a.n) ∧ (rowJ l)[k * 3 + 2]? = some (.string a.s)
  | [], k, a, h => by simp at h
  | b :: l, 0, a, h => by simp at h; subst h; exact ⟨rfl, rfl, rfl⟩
  | b :: l, k + 1, a, h => by
    have ih := rowJ_at l k a (by simpa using h)
    rw [show (k + 1) * 3 = k * 3 + 3 by omega]
    exact ih
theorem rowJ_one (l : List Cd.I) : ∀ v ∈ rowJ l, v.oneCell' = true := by
  intro v hv
  obtain ⟨p, _, hp⟩ := List.mem_flatMap.1 hv
  simp at hp
  rcases hp with rfl | rfl | rfl <;> rfl
theorem rowJ_cell {w : World} {b o : Nat} {l : List Cd.I} (h : ∀ k x, l[k]? = some x → Cd.At3 w b o k x) {j : Nat} {u : Value} (hj : (rowJ l)[j]? = some u) : w.cell? ⟨b, o + j, none⟩ = some u := by
  have hjl : j < l.length * 3 := by rw [← rowJ_len]; exact (List.getElem?_eq_some_iff.1 hj).1
  obtain ⟨x, hx⟩ : ∃ x, l[j / 3]? = some x := ⟨_, List.getElem?_eq_getElem (by omega)⟩
  obtain ⟨a0, a1, a2⟩ := h _ x hx
  obtain ⟨b0, b1, b2⟩ := rowJ_at l _ x hx
  have e : j % 3 = 0 ∨ j % 3 = 1 ∨ j % 3 = 2 := by omega
  rcases e with e | e | e
  · have e1 : j / 3 * 3 = j := by omega
    rw [e1] at a0 b0
    rw [hj] at b0
    rw [a0, b0]
  · have e1 : j / 3 * 3 + 1 = j := by omega
    rw [Nat.add_assoc, e1] at a1
    rw [e1] at b1
    rw [hj] at b1
    rw [a1, b1]
  · have e1 : j / 3 * 3 + 2 = j := by omega
    rw [Nat.add_assoc, e1] at a2
    rw [e1] at b2
    rw [hj] at b2
    rw [a2, b2]
theorem info_ins : (Tryz.prog.info? 38).map (fun i => (i.zero, i.size, i.bytes)) = some (some (.agg #[.int .i64 0, .int .i64 0, .string ⟨#[]⟩]), 3, 32) := by kernel_rfl
theorem sizeIns : ∀ w, (Go.sizeOf 38).run Tryz.prog w = .ok 3 w := Tryz.sizeOf38
theorem iclone_any (p : List Cd.I) (v : Value) (w : World) (hP : Cd.PS w v p) (hp : 0 < p.length) (hl : p.length ≤ 1000000) :
    Calls Tryz.prog 43 #[v] w fun e w' => ∃ g cap, e = .returned (.slice (some ⟨g, 0, none⟩) p.length cap) ∧ Cd.PS w' (.slice (some ⟨g, 0, none⟩) p.length cap) p ∧ w.heap.size ≤ g ∧ g < w'.heap.size ∧ Below w.heap.size w w' := by
  obtain ⟨sl, cap, rfl, hf⟩ := hP.form
  obtain ⟨x0, hx0⟩ : ∃ x, p[0]? = some x := ⟨_, List.getElem?_eq_getElem hp⟩
  obtain ⟨g, off, rfl, hg, -⟩ := hf 0 x0 hx0
  have hat : ∀ k x, p[k]? = some x → Cd.At3 w g off k x := fun k x hk => by
    obtain ⟨g', o', e, -, h3⟩ := hf k x hk
    cases e
    exact h3
  obtain ⟨i0, hi0, hz⟩ := Option.map_eq_some_iff.1 info_ins
  obtain ⟨z1, z2⟩ := Prod.mk.inj hz
  obtain ⟨z2, z3⟩ := Prod.mk.inj z2
  refine (AnyE.slices_Clone Tryz.cloneI i0 _ 3 32 hi0 z1 z2 z3 rfl (by decide) sizeIns g off p.length cap (rowJ p) w (rowJ_len p) (by simp only [maxLen]; omega) (by omega) (fun j u hj => rowJ_cell hat hj) (rowJ_one p)).mono ?_
  rintro e w' ⟨v', rfl, h4, h5, h6⟩
  rcases h4.2 with ⟨rfl, -⟩ | ⟨g', cap', cur, rfl, hb, hg', hn, hm, hs, ht⟩
  · exact absurd rfl h5
  · have hlt : g' < w'.heap.size := (Array.getElem?_eq_some_iff.1 hg').1
    refine ⟨g', cap', rfl, ⟨hP.small, hP.nb, _, cap', rfl, fun k x hk => ⟨g', 0, rfl, hlt, ?_⟩⟩, hb, hlt, h6⟩
    obtain ⟨b0, b1, b2⟩ := rowJ_at p k x hk
    have hk' := (List.getElem?_eq_some_iff.1 hk).1
    rw [← ht, List.getElem?_take_of_lt (by omega), Array.getElem?_toList] at b0 b1 b2
    refine ⟨?_, ?_, ?_⟩
    · simp only [World.cell?, hg']; simpa using b0
    · simp only [World.cell?, hg']; simpa using b1
    · simp only [World.cell?, hg']; simpa using b2
/-! the machine as it starts -/
abbrev nilV : Value := .slice none 0 0
abbrev startV (pv vv : Value) : MV := ⟨pv, vv, nilV, nilV, nilV⟩
theorem start_mr {w : World} {pv vv : Value} {p : List Cd.I} {view : List F} (hP : Cd.PS w pv p) (hpk : ∀ k, pv.ownBlock = some k → k < w.heap.size) (hF : FS w vv view) (hvk : ∀ k, vv.ownBlock = some k → k < w.heap.size) :
    MR (w.alloc (.cells (mcells (startM p view) (startV pv vv)).toArray 78)) w.heap.size (startM p view) (fun k => k = w.heap.size) (startV pv vv) := by
  have hA : Below w.heap.size w (w.alloc (.cells (mcells (startM p view) (startV pv vv)).toArray 78)) := (Below.refl _ _).alloc (Nat.le_refl _) _
  have hsz : (w.alloc (.cells (mcells (startM p view) (startV pv vv)).toArray 78)).heap.size = w.heap.size + 1 := by simp
  refine ⟨heap_alloc_new _ _, rfl, rfl, ⟨hP.below hA, fun k hk => ⟨fun h => ?_, ?_⟩⟩, ⟨hF.keep hA, fun k hk => ⟨fun h => ?_, ?_⟩⟩, ⟨.inl ⟨rfl, rfl⟩, fun k hk => by cases hk⟩, World.ownsRow_nil _ _ _ 3, World.ownsRow_nil _ _ _ 1, (fun k hk => by cases hk), (fun k hk => by cases hk), fun k hk => ?_⟩
  · have := hpk k hk; omega
  · have := hpk k hk; omega
  · have := hvk k hk; omega
  · have := hvk k hk; omega
  · rw [hsz, hk]; omega
theorem fs_lt {w : World} {v : Value} {l : List F} (h : FS w v l) {k : Nat} (hk : v.ownBlock = some k) : k < w.heap.size := by
  rcases h with ⟨rfl, -⟩ | ⟨g, off, cap, rfl, hC⟩
  · cases hk
  · cases hk
    exact hC.1
/-- what New answers -/
def NewOut (w : World) (p : List Cd.I) (view : List F) (e : Ending) (w' : World) : Prop :=
  Below w.heap.size w w' ∧
  if (Cd.check p).2 ≠ 0 then e = .returned (.tuple #[.pointer none, .int .i64 (Cd.check p).2])
  else if goodT view = false then e = .returned (.tuple #[.pointer none, .int .i64 1])
  else ∃ b S x, e = .returned (.tuple #[.pointer (some ⟨b, 0, none⟩), .int .i64 0]) ∧ MR w' b (startM p view) S x ∧ ∀ k, S k → w.heap.size ≤ k
theorem new_bad {w w' : World} {p : List Cd.I} {view : List F} {c : Int} (h : Below w.heap.size w w') (hc : (Cd.check p).2 = c) (h0 : c ≠ 0) : NewOut w p view (.returned (.tuple #[.pointer none, .int .i64 c])) w' := by
  subst hc
  exact ⟨h, by rw [if_pos h0]⟩
theorem new_false {w w' : World} {p : List Cd.I} {view : List F} (h : Below w.heap.size w w') (hc : (Cd.check p).2 = 0) (hg : goodT view = false) : NewOut w p view (.returned (.tuple #[.pointer none, .int .i64 1])) w' :=
  ⟨h, by rw [if_neg (by simpa using hc), if_pos hg]⟩
theorem new_ok {w w' : World} {p : List Cd.I} {view : List F} {b : Nat} {S : Nat → Prop} {x : MV} (h : Below w.heap.size w w') (hc : (Cd.check p).2 = 0) (hg : goodT view = true) (hm : MR w' b (startM p view) S x) (hS : ∀ k, S k → w.heap.size ≤ k) : NewOut w p view (.returned (.tuple #[.pointer (some ⟨b, 0, none⟩), .int .i64 0])) w' :=
  ⟨h, by rw [if_neg (by simpa using hc), if_neg (by simp [hg])]; exact ⟨b, S, x, rfl, hm, hS⟩⟩
set_option maxHeartbeats 4000000 in
set_option maxRecDepth 100000 in
theorem new_any (p : List Cd.I) (view : List F) (pv vv : Value) (w : World) (hE : Env w) (hP : Cd.PS w pv p) (hF : FS w vv view) (hs : ∀ f ∈ view, f.1.size ≤ 1000000) (hl : view.length ≤ 1000000) :
    Calls Tryz.prog 23 #[pv, .agg #[vv]] w (NewOut w p view) := by
  have hA : Below w.heap.size w (w.alloc (.cells #[vv] 25)) := (Below.refl _ _).alloc (Nat.le_refl _) _
  have hn := heap_alloc_new w (.cells #[vv] 25)
  have hck := Cd.check_any p pv _ (hP.below hA) (hE.below hA).tab
  unfold Cd.CKV at hck
  obtain ⟨slv, capv, rfl⟩ := hF.len
  obtain ⟨slp, capp, hpv, -⟩ := hP.form
  subst hpv
  have c0 := (blk_cell hn).1
  have HA := Lib.hid hA
  have HP := Lib.hid hP
  have HF := Lib.hid hF
  have HE := Lib.hid hE
  have HS := Lib.hid (And.intro hs hl)
  clear hA hn hP hF hE hs hl
  by_cases hc : (Cd.check p).2 = 0
  · rw [hc] at hck
    have HC := Lib.hid hc
    clear hc
    go_enter Tryz.func23, Tryz.ntmps23
    go_wp2_with fail
    refine hck.mono ?_
    clear hck
    rintro e w2 ⟨rfl, hb2⟩
    have c2 := Sx.keep_cell hb2 c0
    have HB2 := Lib.hid (HA.out.trans (hb2.mono HA.out.size))
    have hgd := good_any view _ w2 (HE.out.below HB2.out) (HF.out.keep HB2.out) HS.out.1 HS.out.2
    have hsz2 : w.heap.size < w2.heap.size := by have := hb2.size; simp at this; omega
    clear hb2 c0
    cases hg : goodT view with
    | false =>
      rw [hg] at hgd
      go_wp2_with fail
      refine hgd.mono ?_
      clear hgd
      rintro e w3 ⟨rfl, hb3⟩
      have HB3 := Lib.hid (HB2.out.trans (hb3.mono HB2.out.size))
      clear hb3
      go_wp2_with fail
      exact bodyPost_ret (v := .tuple #[.pointer none, .int .i64 1]) (by simp [results, Tryz.results23, go_sem]) rfl (new_false HB3.out HC.out hg)
    | true =>
      rw [hg] at hgd
      go_wp2_with fail
      refine hgd.mono ?_
      clear hgd
      rintro e w3 ⟨rfl, hb3⟩
      have c3 := Sx.keep_cell hb3 c2
      have HB3 := Lib.hid (HB2.out.trans (hb3.mono HB2.out.size))
      clear hb3 c2 hsz2
      go_wp2_with fail
      have hD := (Below.refl w3.heap.size w3).drew
      have e0 := Sx.ext_cell c3
      have hic := iclone_any p _ w3.drew (HP.out.below (HB3.out.drew)) (check_zero HC.out).1 (by have := (check_zero HC.out).2.1; omega)
      have hfc := fun w4 (hb4 : Below w3.drew.heap.size w3.drew w4) => fclone_fs view _ w4 ((HF.out.keep (HB3.out.drew)).keep hb4) HS.out.2
      refine Mix.region (fun w' => ∃ Y, w' = Sx.ext w3 Y) 5 [0, 1, 0, 0, 1, 9, 9, 9, 9, 9] [true, false] (by kernel_rfl) (fun _ _ d _ _ h => by cases d <;> exact h) (by rfl) (by kernel_rfl) ⟨w3.drew, Sx.ext_of hD⟩ ?_
      simp only [Mix.selP_cons, Mix.selP_nil, Mix.sel_cons, Mix.sel_nil, Nat.reduceBEq, Nat.reduceAdd, cond_true, cond_false, List.drop_succ_cons, List.drop_zero]
      refine Mix.parts_q ?_
      repeat (go_big_quiet_step (fail))
      refine wpQuiet_nil ?_
      clear e0 c3
      refine Mix.parts_e ?_
      refine Mix.eff_step (fun K hK => ?_)
      go_simp
      refine hic.mono ?_
      clear hic
      rintro e w4 ⟨g4, cap4, rfl, hP4, hg4, hl4, hb4⟩
      have hb34 : Below w3.heap.size w3 w4 := hD.trans (hb4.mono hD.size)
      have hfc4 := hfc w4 hb4
      refine hK _ _ ⟨_, Sx.ext_of hb34⟩ ?_
      clear hK K hfc
      refine Mix.eff_step (fun K hK => ?_)
      go_simp
      refine hfc4.mono ?_
      clear hfc4
      rintro e w5 ⟨v5, he, hF5, hk5, hb5⟩
      obtain ⟨sl5, cap5, hv5⟩ := hF5.len
      subst hv5
      subst he
      have hb35 : Below w3.heap.size w3 w5 := hb34.trans (hb5.mono hb34.size)
      refine hK _ _ ⟨_, Sx.ext_of hb35⟩ ?_
      clear hK K
      have HM := Lib.hid (start_mr (hP4.below hb5) (fun k hk => by cases hk; exact Nat.lt_of_lt_of_le hl4 hb5.size) hF5 (fun k hk => fs_lt hF5 hk))
      have HB5 := Lib.hid (HB3.out.trans (hb35.mono HB3.out.size))
      clear hP4 hF5 hb5 hk5 hb35 hb34 hb4 hD
      refine Mix.eff_nil ?_
      refine Mix.parts_n ?_
      go_wp2_with fail
      exact bodyPost_ret (v := .tuple #[.pointer (some ⟨w5.heap.size, 0, none⟩), .int .i64 0]) (by simp [results, Tryz.results23, go_sem]) rfl (new_ok (HB5.out.alloc HB5.out.size _) HC.out hg HM.out (fun k hk => by rw [hk]; exact HB5.out.size))
  · have HC := Lib.hid hc
    have HQ := Lib.hid (show ∀ w', Below w.heap.size w w' → NewOut w p view (.returned (.tuple #[.pointer none, .int .i64 (Cd.check p).2])) w' from fun w' h => new_bad h rfl hc)
    have hq : ((Cd.check p).2 != 0) = true := by simp [hc]
    generalize (Cd.check p).2 = c at *
    generalize (Cd.check p).1 = i at *
    clear hc
    go_enter Tryz.func23, Tryz.ntmps23
    go_wp2_with fail
    refine hck.mono ?_
    clear hck
    rintro e w2 ⟨rfl, hb2⟩
    have HB2 := Lib.hid (HA.out.trans (hb2.mono HA.out.size))
    clear hb2 c0
    go_wp2_with fail
    exact bodyPost_ret (v := .tuple #[.pointer none, .int .i64 c]) (by simp [results, Tryz.results23, go_sem]) rfl (HQ.out _ HB2.out)
end Vm
end Go.Proofs.YtbefgplaaghlbaaGreatDoor

/-
  The machine: a run (Run).
-/
namespace Go.Proofs.YtbefgplaaghlbaaGreatDoor
open Go.RowKit Go.Shelf Go.Lib
namespace Vm
open Tr

/-- what Run answers -/
def RunOut (w : World) (r : List F × Nat × Int) (e : Ending) (w' : World) : Prop :=
  ∃ v, e = .returned (.tuple #[.agg #[v], .int .i64 r.2.1, .int .i64 r.2.2]) ∧ FS w' v r.1 ∧ (∀ k, v.ownBlock = some k → w.heap.size ≤ k) ∧ Below w.heap.size w w'
theorem run_bad {p : List Cd.I} {view : List F} {c : Int} (h : (Cd.check p).2 = c) (h0 : c ≠ 0) : runM p view = ([], 0, c) := by
  unfold runM
  rw [h, if_pos h0]
theorem run_false {p : List Cd.I} {view : List F} (h : (Cd.check p).2 = 0) (hg : goodT view = false) : runM p view = ([], 0, 1) := by
  unfold runM
  rw [h, if_neg (by decide), if_pos hg]
theorem run_ok {p : List Cd.I} {view : List F} (h : (Cd.check p).2 = 0) (hg : goodT view = true) : runM p view = ((showM (stepsM 4096 (startM p view)).2).1, (stepsM 4096 (startM p view)).1, (showM (stepsM 4096 (startM p view)).2).2) := by
  unfold runM
  rw [h, if_neg (by decide), if_neg (by rw [hg]; decide)]
theorem run_ret {w X : World} {v : Value} {n c : Int} {tm : Array Value} {r : List F × Nat × Int} (hX : Below w.heap.size w X) (hb : X.heap[w.heap.size + 1]? = some (.cells #[nilV] 25 (0, 0)))
    (h4 : tm[4]? = some (.pointer (some ⟨w.heap.size + 1, 0, none⟩))) (h5 : tm[5]? = some (.int .i64 n)) (h6 : tm[6]? = some (.int .i64 c)) (hn : n = r.2.1) (hc : c = r.2.2) (hF : FS X v r.1) (hk : ∀ k, v.ownBlock = some k → w.heap.size + 1 < k) :
    bodyPost Tryz.prog Tryz.f15 (RunOut w r) Exit.ret ⟨tm, []⟩ (X.setCell ⟨w.heap.size + 1, 0, none⟩ v) := by
  subst hn hc
  have hcl : (X.setCell ⟨w.heap.size + 1, 0, none⟩ v).cell? ⟨w.heap.size + 1, 0, none⟩ = some v := by
    have := heap_setCell_same X (w.heap.size + 1) 0 _ _ v hb
    simp [World.cell?, this]
  refine bodyPost_ret (v := .tuple #[.agg #[v], .int .i64 r.2.1, .int .i64 r.2.2]) (by simp [results, Tryz.results15, go_sem, h4, h5, h6, hcl]) rfl ⟨v, rfl, ?_, fun k h => by have := hk k h; omega, hX.setCell (p := ⟨w.heap.size + 1, 0, none⟩) (Nat.le_succ _) _⟩
  refine FS.blk hF (by simp) fun k h => Below.heap_setCell _ _ _ _ ?_
  show k ≠ w.heap.size + 1
  have := hk k h
  omega
set_option maxHeartbeats 4000000 in
set_option maxRecDepth 100000 in
theorem run_any (p : List Cd.I) (view : List F) (pv vv : Value) (w : World) (hE : Env w) (hP : Cd.PS w pv p) (hF : FS w vv view) (hs : ∀ f ∈ view, f.1.size ≤ 1000000) (hl : view.length ≤ 1000000) {r : List F × Nat × Int} (hr : r = runM p view) :
    Calls Tryz.prog 15 #[pv, .agg #[vv]] w (RunOut w r) := by
  obtain ⟨hW, b0, b1⟩ := two_start w (.cells #[vv] 25) (.cells #[nilV] 25)
  have hsz : ((w.alloc (.cells #[vv] 25)).alloc (.cells #[nilV] 25)).heap.size = w.heap.size + 2 := by simp
  have hnw := new_any p view pv vv _ (hE.below hW) (hP.below hW) (hF.keep hW) hs hl
  obtain ⟨slv, capv, rfl⟩ := hF.len
  obtain ⟨slp, capp, hpv, -⟩ := hP.form
  subst hpv
  have c0 := (blk_cell b0).1
  have HW := Lib.hid hW
  have HB := Lib.hid b1
  have HE := Lib.hid hE
  have HR := Lib.hid hr
  have HZ := Lib.hid hsz
  have HN := Lib.hid hP.nb
  clear hW b0 b1 hP hF hE hs hl hr hsz
  go_enter Tryz.func15, Tryz.ntmps15
  go_wp2_with fail
  generalize (w.alloc (.cells #[.slice slv view.length capv] 25)).alloc (.cells #[nilV] 25) = W at *
  refine hnw.mono ?_
  clear hnw c0
  rintro e w1 ⟨hb1, ho⟩
  have HB1 := Lib.hid hb1
  have HX := Lib.hid ((hb1.block _ (by rw [HZ.out]; omega)).trans HB.out)
  have HW1 := Lib.hid (HW.out.trans (hb1.mono HW.out.size))
  clear hb1
  have c1 := (blk_cell HX.out).1
  have z1 := (blk_cell HX.out).2
  by_cases hc : (Cd.check p).2 = 0
  · rw [if_neg (by simpa using hc)] at ho
    cases hg : goodT view with
    | false =>
      rw [if_pos hg] at ho
      subst ho
      have HQ := Lib.hid (HR.out.trans (run_false hc hg))
      clear hc hg
      go_wp2_with fail
      rw [HQ.out]
      exact run_ret (v := nilV) (r := ([], 0, 1)) HW1.out HX.out rfl rfl rfl rfl rfl (.inl ⟨rfl, rfl⟩) (fun k hk => by cases hk)
    | true =>
      rw [if_neg (by rw [hg]; decide)] at ho
      obtain ⟨b, S, x, rfl, hm, hS⟩ := ho
      have HQ := Lib.hid (HR.out.trans (run_ok hc hg))
      have HS := Lib.hid hS
      have hE1 : EnvS w1 S := ⟨HE.out.below HW1.out, fun k hk => by have h1 := hS k hk; have h2 := HE.out.big; have h3 := HZ.out; omega⟩
      have hst := steps_any hm hE1 (start_good hc hg HN.out) 4096 (by decide)
      clear hm hS hE1 hc hg
      go_wp2_with fail
      refine hst.mono ?_
      clear hst
      rintro e w2 ⟨rfl, m2, S2, x2, hm2, hF2, hs2, hg2⟩
      have hres := result_any hm2 hg2
      rw [hs2.show_] at hres
      rw [show ((4096 : Int).toNat) = 4096 from rfl] at *
      have HX2 := Lib.hid ((hF2.block (w.heap.size + 1) (Array.getElem?_eq_some_iff.1 HX.out).1 (fun h => by have h1 := HS.out _ h; have h3 := HZ.out; omega)).trans HX.out)
      have HW2 := Lib.hid (hF2.below HW1.out (fun k hk => by have h1 := HS.out k hk; have h3 := HZ.out; omega) HW1.out.size)
      have hle2 := hF2.size
      clear hm2 hF2 hs2 hg2 c1 z1
      have HQ2 := HQ
      generalize (stepsM 4096 (startM p view)).1 = N2 at *
      generalize showM (stepsM 4096 (startM p view)).2 = R2 at *
      go_wp2_with fail
      refine hres.mono ?_
      clear hres
      rintro e w3 ⟨v3, he, hF3, hk3, hb3⟩
      obtain ⟨sl3, cap3, hv3⟩ := hF3.len
      subst hv3
      subst he
      have hx3 := (hb3.block _ (Array.getElem?_eq_some_iff.1 HX2.out).1).trans HX2.out
      have hA3 : Below w3.heap.size w3 (w3.alloc (.cells #[.slice sl3 R2.1.length cap3] 25)) := (Below.refl _ _).alloc (Nat.le_refl _) _
      have hx4 := (hA3.block _ (Array.getElem?_eq_some_iff.1 hx3).1).trans hx3
      have c4 := (blk_cell hx4).1
      have z4 := (blk_cell hx4).2
      have d4 := (blk_cell (heap_alloc_new w3 (.cells #[.slice sl3 R2.1.length cap3] 25))).1
      have HW4 := Lib.hid ((HW2.out.trans (hb3.mono HW2.out.size)).trans (hA3.mono (Nat.le_trans HW2.out.size hb3.size)))
      have HF4 := Lib.hid (hF3.keep hA3)
      have HK := Lib.hid (show ∀ k, (Value.slice sl3 R2.1.length cap3).ownBlock = some k → w.heap.size + 1 < k from fun k hk => by
        have h1 := hk3 k hk
        have h2 := (Array.getElem?_eq_some_iff.1 HX2.out).1
        omega)
      have HX4 := Lib.hid hx4
      clear hF3 hk3 hb3 hx3 hA3 hx4
      go_wp2_with fail
      rw [HQ2.out]
      exact run_ret HW4.out HX4.out rfl rfl rfl rfl rfl HF4.out HK.out
  · rw [if_pos hc] at ho
    subst ho
    have HQ := Lib.hid (HR.out.trans (run_bad rfl hc))
    have hq : ((Cd.check p).2 != 0) = true := by simp [hc]
    generalize (Cd.check p).2 = c at *
    clear hc
    go_wp2_with fail
    rw [HQ.out]
    exact run_ret (v := nilV) (r := ([], 0, c)) HW1.out HX.out rfl rfl rfl rfl rfl (.inl ⟨rfl, rfl⟩) (fun k hk => by cases hk)
end Vm
end Go.Proofs.YtbefgplaaghlbaaGreatDoor

/-
  Plain: runs whose steps are known: the two of `alive`; the loop.
-/
namespace Go.Proofs.YtbefgplaaghlbaaGreatDoor
open Go.RowKit Go.Shelf Go.Lib
namespace Vm
open Tr

/-- steps one by one: f i, the machine after i of them -/
structure Trj (f : Nat → Mc) (T : Nat) : Prop where
  next : ∀ i, i < T → stepM (f i) = f (i + 1)
  num : ∀ i, i ≤ T → (f i).steps = i
  not : ∀ i, i < T → (f i).done = false
theorem tick_id {m : Mc} (h : m.done = true ∨ m.steps ≠ 4096) : tick m = m := by
  unfold tick
  split
  · rename_i h1
    rcases h with h | h
    · rw [h] at h1; cases h1.1
    · exact absurd h1.2 h
  · rfl
/-- it ends -/
theorem Trj.ends {f : Nat → Mc} {T : Nat} (h : Trj f T) (hT : T ≤ 4096) (hd : (f T).done = true) : ∀ (d i : Nat), i + d = T → ∀ k, d ≤ k → stepsM k (f i) = (d, f T)
  | 0, i, hi, k, _ => by
    rw [Nat.add_zero] at hi
    subst hi
    exact steps_done hd k
  | d + 1, i, hi, k, hk => by
    obtain ⟨k, rfl⟩ : ∃ j, k = j + 1 := ⟨k - 1, by omega⟩
    rw [steps_more (h.not i (by omega)), h.next i (by omega), tick_id, Trj.ends h hT hd d (i + 1) (by omega) k (by omega)]
    by_cases he : i + 1 = T
    · rw [he]; exact .inl hd
    · right
      rw [h.num (i + 1) (by omega)]
      omega
/-- it does not end in time -/
theorem Trj.long {f : Nat → Mc} {T : Nat} (h : Trj f T) (hT : 4096 < T) : ∀ (d i : Nat), i + (d + 1) = 4096 → (stepsM (d + 1) (f i)).1 = d + 1 ∧ showM (stepsM (d + 1) (f i)).2 = ([], 45)
  | 0, i, hi => by
    have h1 : tick (f (i + 1)) = { f (i + 1) with done := true, fault := 45 } := by
      unfold tick
      rw [if_pos ⟨h.not _ (by omega), by rw [h.num _ (by omega)]; omega⟩]
    rw [steps_more (h.not i (by omega)), h.next i (by omega), h1]
    exact ⟨rfl, rfl⟩
  | d + 1, i, hi => by
    have h1 : tick (f (i + 1)) = f (i + 1) := tick_id (.inr (by rw [h.num _ (by omega)]; omega))
    obtain ⟨a, b⟩ := Trj.long h hT d (i + 1) (by omega)
    rw [steps_more (h.not i (by omega)), h.next i (by omega), h1]
    exact ⟨by simp only; rw [a], b⟩
/-! the two runs of alive -/
def nilB : ByteArray := ⟨#[]⟩
def liveP : List Cd.I := [⟨3, 0, ⟨#[97]⟩⟩, ⟨3, 0, ⟨#[120]⟩⟩, ⟨29, 0, ⟨#[]⟩⟩]
def spinP : List Cd.I := [⟨17, 0, ⟨#[]⟩⟩]
theorem live_check : (Cd.check liveP).2 = 0 := by decide +kernel
theorem spin_check : (Cd.check spinP).2 = 0 := by decide +kernel
def fA : F := (⟨#[97]⟩, ⟨#[120]⟩)
theorem make_one {f : F} (h : badF [f] = none) (hc : clashF [f] = false) : makeP [f] = .ok [f] :=
  make_of (by simp) h (by simp [Unl]) hc (List.pairwise_singleton _ _) (List.Perm.refl _)
theorem put_a : putT [] fA = .ok [fA] := by
  unfold putT
  rw [if_pos good_nil]
  exact make_one (by decide +kernel) (by decide +kernel)
def liveF : Nat → Mc
  | 0 => startM liveP []
  | 1 => { startM liveP [] with stack := [.txt ⟨#[97]⟩], at_ := 1, steps := 1 }
  | 2 => { startM liveP [] with stack := [.txt ⟨#[97]⟩, .txt ⟨#[120]⟩], at_ := 2, steps := 2 }
  | _ => { startM liveP [] with out := [fA], at_ := 3, steps := 3, done := true }
theorem live_trj : Trj liveF 3 := by
  refine ⟨fun i hi => ?_, fun i hi => ?_, fun i hi => ?_⟩
  · have : i = 0 ∨ i = 1 ∨ i = 2 := by omega
    rcases this with rfl | rfl | rfl
    · rfl
    · rfl
    · have ho : opM { liveF 2 with at_ := 3, steps := 3 } ⟨29, 0, ⟨#[]⟩⟩ = .ok { startM liveP [] with out := [fA], at_ := 3, steps := 3 } := by
        have hk : kinds (liveF 2).stack [true, true] = .ok ([], [.txt ⟨#[97]⟩, .txt ⟨#[120]⟩]) := rfl
        unfold opM
        rw [if_neg (by decide), if_neg (by decide), if_neg (by decide), if_neg (by decide), if_neg (by decide), if_neg (by decide), if_neg (by decide), if_pos rfl]
        show (kinds (liveF 2).stack [true, true]).bind _ = _
        rw [hk]
        show (putT [] fA).bind _ = _
        rw [put_a]
        rfl
      unfold stepM
      rw [show opM { liveF 2 with at_ := (liveF 2).at_ + 1, steps := (liveF 2).steps + 1 } ((liveF 2).p.getD (liveF 2).at_ ⟨0, 0, ⟨#[]⟩⟩) = .ok { startM liveP [] with out := [fA], at_ := 3, steps := 3 } from ho]
      rfl
  · have : i = 0 ∨ i = 1 ∨ i = 2 ∨ i = 3 := by omega
    rcases this with rfl | rfl | rfl | rfl <;> rfl
  · have : i = 0 ∨ i = 1 ∨ i = 2 := by omega
    rcases this with rfl | rfl | rfl <;> rfl
theorem live_run : runM liveP [] = ([fA], 3, 0) := by
  rw [run_ok live_check good_nil, show startM liveP [] = liveF 0 from rfl, live_trj.ends (by decide) rfl 3 0 rfl 4096 (by decide)]
  rfl
def spinF (i : Nat) : Mc := { startM spinP [] with steps := i }
theorem spin_trj : Trj spinF 5000 := ⟨fun _ _ => rfl, fun _ _ => rfl, fun _ _ => rfl⟩
theorem spin_run : runM spinP [] = ([], 4096, 45) := by
  obtain ⟨a, b⟩ := spin_trj.long (by decide) 4095 0 rfl
  rw [run_ok spin_check good_nil, show startM spinP [] = spinF 0 from rfl, a, b]
/-! the loop -/
def loopP (n : Int) : List Cd.I := [⟨2, n, nilB⟩, ⟨8, 0, nilB⟩, ⟨7, 0, nilB⟩, ⟨18, 9, nilB⟩, ⟨7, 0, nilB⟩, ⟨2, -1, nilB⟩, ⟨9, 0, nilB⟩, ⟨8, 0, nilB⟩, ⟨17, 2, nilB⟩, ⟨1, 0, nilB⟩]
theorem loop_check (n : Int) : (Cd.check (loopP n)).2 = 0 := by rfl
def lpM (n : Int) (st : List V) (c : Int) (a s : Nat) : Mc := ⟨loopP n, [], [], st, [], .num c :: List.replicate 15 (.num 0), a, s, false, 0⟩
/-- the machine, r steps into the round that has c in its cell -/
def lpR (n c : Int) (s : Nat) : Nat → Mc
  | 0 => lpM n [] c 2 s
  | 1 => lpM n [.num c] c 3 (s + 1)
  | 2 => lpM n [] c 4 (s + 2)
  | 3 => lpM n [.num c] c 5 (s + 3)
  | 4 => lpM n [.num c, .num (-1)] c 6 (s + 4)
  | 5 => lpM n [.num (c - 1)] c 7 (s + 5)
  | _ => lpM n [] (c - 1) 8 (s + 6)
def lpE (n : Int) (s : Nat) : Nat → Mc
  | 0 => lpM n [] 0 2 s
  | 1 => lpM n [.num 0] 0 3 (s + 1)
  | 2 => lpM n [] 0 9 (s + 2)
  | _ => { lpM n [] 0 10 (s + 3) with done := true }
def loopF (N i : Nat) : Mc :=
  if i = 0 then startM (loopP N) [] else if i = 1 then lpM N [.num N] 0 1 1
  else if i < 2 + 7 * N then lpR N ((N : Int) - ((i - 2) / 7 : Nat)) (2 + 7 * ((i - 2) / 7)) ((i - 2) % 7)
  else lpE N (2 + 7 * N) (i - (2 + 7 * N))
theorem lpR_step (n c : Int) (s : Nat) (hc : c ≠ 0) (h0 : 0 < c) (h1 : c ≤ 1000) : ∀ r, r < 6 → stepM (lpR n c s r) = lpR n c s (r + 1)
  | 0, _ => rfl
  | 1, _ => by
    unfold stepM
    have ho : opM { lpR n c s 1 with at_ := (lpR n c s 1).at_ + 1, steps := (lpR n c s 1).steps + 1 } ((lpR n c s 1).p.getD (lpR n c s 1).at_ ⟨0, 0, ⟨#[]⟩⟩) = .ok (lpM n [] c (if c = 0 then 9 else 4) (s + 2)) := rfl
    rw [ho, if_neg hc]
    rfl
  | 2, _ => rfl
  | 3, _ => rfl
  | 4, _ => by
    unfold stepM
    have ho : opM { lpR n c s 4 with at_ := (lpR n c s 4).at_ + 1, steps := (lpR n c s 4).steps + 1 } ((lpR n c s 4).p.getD (lpR n c s 4).at_ ⟨0, 0, ⟨#[]⟩⟩) = .ok (lpM n [.num (wrap (c + -1))] c 7 (s + 5)) := rfl
    have hw : wrap (c + -1) = c - 1 := by unfold wrap; omega
    rw [ho, hw]
    rfl
  | 5, _ => rfl
theorem lpR_last (n c : Int) (s : Nat) : stepM (lpR n c s 6) = lpM n [] (c - 1) 2 (s + 7) := rfl
theorem loop_trj {N : Nat} (hN : N ≤ 1000) : Trj (loopF N) (5 + 7 * N) ∧ (loopF N (5 + 7 * N)).done = true ∧ (loopF N (5 + 7 * N)).fault = 0 ∧ (loopF N (5 + 7 * N)).out = [] := by
  have hE : ∀ j, loopF N (2 + 7 * N + j) = if N = 0 ∨ 0 < N then lpE N (2 + 7 * N) j else lpE N (2 + 7 * N) j := by
    intro j
    unfold loopF
    rw [if_neg (by omega), if_neg (by omega), if_neg (by omega), if_pos (by omega), show 2 + 7 * N + j - (2 + 7 * N) = j by omega]
  have hE' : ∀ j, loopF N (2 + 7 * N + j) = lpE N (2 + 7 * N) j := fun j => by rw [hE j]; split <;> rfl
  have hR : ∀ q r, q < N → r < 7 → loopF N (2 + 7 * q + r) = lpR N ((N : Int) - q) (2 + 7 * q) r := by
    intro q r hq hr
    unfold loopF
    rw [if_neg (by omega), if_neg (by omega), if_pos (by omega), show (2 + 7 * q + r - 2) / 7 = q by omega, show (2 + 7 * q + r - 2) % 7 = r by omega]
  have hsplit : ∀ i, 2 ≤ i → i < 2 + 7 * N → ∃ q r, i = 2 + 7 * q + r ∧ q < N ∧ r < 7 := fun i h1 h2 => ⟨(i - 2) / 7, (i - 2) % 7, by omega, by omega, by omega⟩
  have hfin : loopF N (5 + 7 * N) = lpE N (2 + 7 * N) 3 := by rw [← hE', show 2 + 7 * N + 3 = 5 + 7 * N by omega]
  have h0 : ∀ q, q ≤ N → loopF N (2 + 7 * q) = lpM N [] ((N : Int) - q) 2 (2 + 7 * q) := by
    intro q hq
    by_cases h : q < N
    · exact hR q 0 h (by omega)
    · obtain rfl : q = N := by omega
      have := hE' 0
      rw [Nat.add_zero] at this
      rw [this, Int.sub_self]
      rfl
  refine ⟨⟨fun i hi => ?_, fun i hi => ?_, fun i hi => ?_⟩, by rw [hfin]; rfl, by rw [hfin]; rfl, by rw [hfin]; rfl⟩
  · by_cases i0 : i = 0
    · subst i0; rfl
    by_cases i1 : i = 1
    · subst i1
      have := h0 0 (Nat.zero_le _)
      rw [show 2 + 7 * 0 = 1 + 1 by rfl] at this
      rw [this, show ((N : Int) - (0 : Nat)) = N by omega]
      rfl
    by_cases i2 : i < 2 + 7 * N
    · obtain ⟨q, r, rfl, hq, hr⟩ := hsplit i (by omega) i2
      rw [hR q r hq hr]
      by_cases h6 : r < 6
      · rw [lpR_step _ _ _ (by omega) (by omega) (by omega) r h6, Nat.add_assoc, hR q (r + 1) hq (by omega)]
      · obtain rfl : r = 6 := by omega
        rw [lpR_last, show 2 + 7 * q + 6 + 1 = 2 + 7 * (q + 1) by omega, h0 (q + 1) hq, show (N : Int) - q - 1 = N - (q + 1 : Nat) by omega]
    · obtain ⟨j, rfl⟩ : ∃ j, i = 2 + 7 * N + j := ⟨i - (2 + 7 * N), by omega⟩
      have hj : j = 0 ∨ j = 1 ∨ j = 2 := by omega
      rw [hE', Nat.add_assoc, hE']
      rcases hj with rfl | rfl | rfl <;> rfl
  · by_cases i0 : i = 0
    · subst i0; rfl
    by_cases i1 : i = 1
    · subst i1; rfl
    by_cases i2 : i < 2 + 7 * N
    · obtain ⟨q, r, rfl, hq, hr⟩ := hsplit i (by omega) i2
      rw [hR q r hq hr]
      have : r = 0 ∨ r = 1 ∨ r = 2 ∨ r = 3 ∨ r = 4 ∨ r = 5 ∨ r = 6 := by omega
      rcases this with rfl | rfl | rfl | rfl | rfl | rfl | rfl <;> rfl
    · obtain ⟨j, rfl⟩ : ∃ j, i = 2 + 7 * N + j := ⟨i - (2 + 7 * N), by omega⟩
      have hj : j = 0 ∨ j = 1 ∨ j = 2 ∨ j = 3 := by omega
      rw [hE']
      rcases hj with rfl | rfl | rfl | rfl <;> rfl
  · by_cases i0 : i = 0
    · subst i0; rfl
    by_cases i1 : i = 1
    · subst i1; rfl
    by_cases i2 : i < 2 + 7 * N
    · obtain ⟨q, r, rfl, hq, hr⟩ := hsplit i (by omega) i2
      rw [hR q r hq hr]
      have : r = 0 ∨ r = 1 ∨ r = 2 ∨ r = 3 ∨ r = 4 ∨ r = 5 ∨ r = 6 := by omega
      rcases this with rfl | rfl | rfl | rfl | rfl | rfl | rfl <;> rfl
    · obtain ⟨j, rfl⟩ : ∃ j, i = 2 + 7 * N + j := ⟨i - (2 + 7 * N), by omega⟩
      have hj : j = 0 ∨ j = 1 ∨ j = 2 := by omega
      rw [hE']
      rcases hj with rfl | rfl | rfl <;> rfl
/-- what the loop's run answers -/
theorem loop_run {N : Nat} (hN : N ≤ 1000) : runM (loopP N) [] = if 4096 < 5 + 7 * N then ([], 4096, 45) else ([], 5 + 7 * N, 0) := by
  obtain ⟨h, h1, h2, h3⟩ := loop_trj hN
  rw [run_ok (loop_check _) good_nil, show startM (loopP N) [] = loopF N 0 from rfl]
  split
  · rename_i hl
    obtain ⟨a, b⟩ := h.long hl 4095 0 rfl
    rw [a, b]
  · rw [h.ends (by omega) h1 (5 + 7 * N) 0 (by omega) 4096 (by omega)]
    unfold showM
    rw [if_neg (by rw [h1]; decide), if_neg (by rw [h2]; decide), h3]
end Vm
end Go.Proofs.YtbefgplaaghlbaaGreatDoor

/-
  The laws' helper alive; VmLoops.
-/
namespace Go.Proofs.YtbefgplaaghlbaaGreatDoor
open Go.RowKit Go.Shelf Go.Lib
namespace Vm
open Tr

/-- a program that a block holds -/
theorem ps_block {w : World} {g cap : Nat} {p : List Cd.I} {t : TypeId} {fz : Nat × Nat} (h : w.heap[g]? = some (.cells (rowJ p).toArray t fz)) (hs : p.length ≤ 1000000) (hn : ∀ x ∈ p, -9223372036854775808 ≤ x.n ∧ x.n ≤ 9223372036854775807) : Cd.PS w (.slice (some ⟨g, 0, none⟩) p.length cap) p := by
  refine ⟨by omega, hn, _, cap, rfl, fun k x hk => ⟨g, 0, rfl, (Array.getElem?_eq_some_iff.1 h).1, ?_⟩⟩
  obtain ⟨b0, b1, b2⟩ := rowJ_at p k x hk
  refine ⟨?_, ?_, ?_⟩
  · simp only [World.cell?, h]; simpa using b0
  · simp only [World.cell?, h]; simpa using b1
  · simp only [World.cell?, h]; simpa using b2
theorem live_nb : ∀ x ∈ liveP, -9223372036854775808 ≤ x.n ∧ x.n ≤ 9223372036854775807 := by decide
theorem spin_nb : ∀ x ∈ spinP, -9223372036854775808 ≤ x.n ∧ x.n ≤ 9223372036854775807 := by decide
theorem fs_one {w : World} {v : Value} {f : F} (h : FS w v [f]) : ∃ g off cap, v = .slice (some ⟨g, off, none⟩) 1 cap ∧ g < w.heap.size ∧ w.cell? ⟨g, off, none⟩ = some (.string f.1) ∧ w.cell? ⟨g, off + 1, none⟩ = some (.string f.2) := by
  rcases h with ⟨-, h⟩ | ⟨g, off, cap, rfl, h1, h2⟩
  · cases h
  · obtain ⟨a, b⟩ := h2 0 f rfl
    exact ⟨g, off, cap, rfl, h1, by simpa using a, by simpa using b⟩
set_option maxHeartbeats 4000000 in
set_option maxRecDepth 100000 in
theorem alive_any (w : World) (hE : Env w) : Calls Tryz.prog 13 #[] w fun e w' => e = .returned (.bool true) ∧ Below w.heap.size w w' := by
  have hA : Below w.heap.size w (w.alloc (.cells (rowJ liveP).toArray 38)) := (Below.refl _ _).alloc (Nat.le_refl _) _
  have hr := run_any liveP [] _ nilV _ (hE.below hA) (ps_block (cap := 3) (heap_alloc_new w (.cells (rowJ liveP).toArray 38)) (by decide) live_nb) (.inl ⟨rfl, rfl⟩) (fun f h => by cases h) (Nat.zero_le _) live_run.symm
  have HA := Lib.hid hA
  have HE := Lib.hid hE
  clear hA hE
  go_enter Tryz.func13, Tryz.ntmps13
  go_wp2_with fail
  refine hr.mono ?_
  clear hr
  rintro e w2 ⟨v2, he, hF2, hk2, hb2⟩
  obtain ⟨g, off, cap, rfl, hg, c1, c2⟩ := fs_one hF2
  subst he
  have HB2 := Lib.hid (HA.out.trans (hb2.mono HA.out.size))
  clear hF2 hk2 hb2
  obtain ⟨hB3, n3, m3⟩ := two_start w2 (.cells #[.slice (some ⟨g, off, none⟩) 1 cap] 25) (.cells (rowJ spinP).toArray 38)
  have hr := run_any spinP [] _ nilV _ (HE.out.below (HB2.out.trans (hB3.mono HB2.out.size))) (ps_block (cap := 1) m3 (by decide) spin_nb) (.inl ⟨rfl, rfl⟩) (fun f h => by cases h) (Nat.zero_le _) spin_run.symm
  have d3 := (blk_cell n3).1
  have HB3 := Lib.hid (HB2.out.trans (hB3.mono HB2.out.size))
  have c1 := Sx.keep_cell hB3 c1
  have c2 := Sx.keep_cell hB3 c2
  clear hB3 n3 m3
  go_wp2_with fail
  refine hr.mono ?_
  clear hr
  rintro e w4 ⟨v4, he, hF4, hk4, hb4⟩
  obtain ⟨sl4, cap4, hv4⟩ := FS.len hF4
  replace hv4 : v4 = .slice sl4 0 cap4 := hv4
  subst hv4
  subst he
  have HB4 := Lib.hid (HB3.out.trans (hb4.mono HB3.out.size))
  have hA4 : Below w4.heap.size w4 (w4.alloc (.cells #[.slice sl4 0 cap4] 25)) := (Below.refl _ _).alloc (Nat.le_refl _) _
  have c1 := Sx.keep_cell hA4 (Sx.keep_cell hb4 c1)
  have c2 := Sx.keep_cell hA4 (Sx.keep_cell hb4 c2)
  have d4 := Sx.keep_cell hA4 (Sx.keep_cell hb4 d3)
  have HB5 := Lib.hid (HB4.out.trans (hA4.mono HB4.out.size))
  have hs : (fA.2.toList == [120]) = true := by decide +kernel
  clear hF4 hk4 hb4 hA4 d3
  go_wp2_with fail
  go_ret
  exact ⟨rfl, HB5.out⟩
theorem loop_nb {N : Nat} (h : N ≤ 1000) : ∀ x ∈ loopP N, -9223372036854775808 ≤ x.n ∧ x.n ≤ 9223372036854775807 := by
  intro x hx
  simp only [loopP, List.mem_cons, List.not_mem_nil, or_false] at hx
  rcases hx with rfl | rfl | rfl | rfl | rfl | rfl | rfl | rfl | rfl | rfl <;> simp only <;> omega
set_option maxHeartbeats 4000000 in
set_option maxRecDepth 100000 in
theorem loops_any (n : Int) (w : World) (hE : Env w) : Calls Tryz.prog 10 #[.int .i64 n] w fun e w' => e = .returned (.bool true) ∧ Below w.heap.size w w' := by
  have hal := alive_any w hE
  have HE := Lib.hid hE
  clear hE
  by_cases hn : n < 0 ∨ 1000 < n
  · have HN := Lib.hid hn
    by_cases h1 : n < 0
    · clear hn
      go_enter Tryz.func10, Tryz.ntmps10
      go_wp2_with (go_at_call 13; with_reducible refine hal.mono ?_; clear hal; rintro e w1 ⟨rfl, hb1⟩; have HB1 := Lib.hid hb1; clear hb1)
      go_ret
      exact ⟨rfl, HB1.out⟩
    · have h2 : 1000 < n := by omega
      clear hn
      go_enter Tryz.func10, Tryz.ntmps10
      go_wp2_with (go_at_call 13; with_reducible refine hal.mono ?_; clear hal; rintro e w1 ⟨rfl, hb1⟩; have HB1 := Lib.hid hb1; clear hb1)
      go_ret
      exact ⟨rfl, HB1.out⟩
  · obtain ⟨N, rfl⟩ : ∃ N : Nat, n = N := ⟨n.toNat, by omega⟩
    have hN : N ≤ 1000 := by omega
    have HN := Lib.hid hN
    have g1 : ¬ (N : Int) < 0 := by omega
    have g2 : ¬ 1000 < (N : Int) := by omega
    clear hn hN
    go_enter Tryz.func10, Tryz.ntmps10
    go_wp2_with fail
    refine hal.mono ?_
    clear hal
    rintro e w1 ⟨rfl, hb1⟩
    have hA : Below w1.heap.size w1 (w1.alloc (.cells (rowJ (loopP N)).toArray 38)) := (Below.refl _ _).alloc (Nat.le_refl _) _
    have HB1 := Lib.hid (hb1.trans (hA.mono hb1.size))
    have hr := run_any (loopP N) [] _ nilV _ (HE.out.below HB1.out) (ps_block (cap := 10) (heap_alloc_new w1 (.cells (rowJ (loopP N)).toArray 38)) (by show 10 ≤ 1000000; decide) (loop_nb HN.out)) (.inl ⟨rfl, rfl⟩) (fun f h => by cases h) (Nat.zero_le _) (loop_run HN.out).symm
    clear hb1 hA
    by_cases hl : 4096 < 5 + 7 * N
    · rw [if_pos hl] at hr
      have g3 : (4096 : Int) < 5 + 7 * N := by omega
      go_wp2_with fail
      refine hr.mono ?_
      clear hr
      rintro e w2 ⟨v2, he, hF2, -, hb2⟩
      obtain ⟨sl2, cap2, hv2⟩ := FS.len hF2
      replace hv2 : v2 = .slice sl2 0 cap2 := hv2
      subst hv2
      simp only at he
      subst he
      have HB2 := Lib.hid (HB1.out.trans (hb2.mono HB1.out.size))
      clear hb2 hF2
      go_wp2_with fail
      go_ret
      exact ⟨rfl, HB2.out.alloc HB2.out.size _⟩
    · rw [if_neg hl] at hr
      have g3 : ¬ (4096 : Int) < 5 + 7 * N := by omega
      go_wp2_with fail
      refine hr.mono ?_
      clear hr
      rintro e w2 ⟨v2, he, hF2, -, hb2⟩
      obtain ⟨sl2, cap2, hv2⟩ := FS.len hF2
      replace hv2 : v2 = .slice sl2 0 cap2 := hv2
      subst hv2
      simp only at he
      subst he
      have HB2 := Lib.hid (HB1.out.trans (hb2.mono HB1.out.size))
      clear hb2 hF2
      go_wp2_with fail
      go_ret
      exact ⟨congrArg (fun b => Ending.returned (.bool b)) (show ((5 + 7 * (N : Int)) == 2 + 7 * (N : Int) + 2 + 1) = true by rw [beq_iff_eq]; omega), HB2.out.alloc HB2.out.size _⟩
end Vm
end Go.Proofs.YtbefgplaaghlbaaGreatDoor
