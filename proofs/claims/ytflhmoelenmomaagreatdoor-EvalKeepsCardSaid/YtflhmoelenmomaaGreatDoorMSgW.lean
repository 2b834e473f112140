/-
  The reference's with: one more end at its place.
-/
import Derived.Test.YtflhmoelenmomaaGreatDoorMSgS
namespace Go.Proofs.YtflhmoelenmomaaGreatDoor
open Go.RowKit Go.Shelf Go.Lib
namespace Sg

theorem info_int : (Tryz.prog.info? 3).map (fun i => (i.zero, i.size, i.bytes)) = some (some (.int .i64 0), 1, 8) := by kernel_rfl
/-- a slice of ints that is its holder's own -/
def IO (W : World) (B : Nat) (v : Value) (l : List Int) : Prop := W.ownsRow B 3 1 v l.length (l.map (Value.int .i64))
theorem io_nil (W : World) (B : Nat) : IO W B (.slice none 0 0) [] := World.ownsRow_nil W B _ 1
theorem IO.isl {W : World} {B : Nat} {v : Value} {l : List Int} (h : IO W B v l) : ∃ sl cap, v = .slice sl l.length cap := by
  rcases h.2 with ⟨rfl, hn⟩ | ⟨g, cap, cur, rfl, _⟩
  · exact ⟨none, 0, by rw [hn]⟩
  · exact ⟨_, _, rfl⟩
theorem IO.at {W : World} {B : Nat} {sl : Option Addr} {n cap : Nat} {l : List Int} (h : IO W B (.slice sl n cap) l) {k : Nat} {x : Int} (ha : l[k]? = some x) :
    ∃ g, sl = some ⟨g, 0, none⟩ ∧ g < W.heap.size ∧ W.cell? ⟨g, k, none⟩ = some (.int .i64 x) := by
  have hk := (List.getElem?_eq_some_iff.1 ha).1
  have h0 := h
  rcases h.2 with ⟨_, hn⟩ | ⟨g, cap', cur, e, hb, hg, _⟩
  · omega
  · cases e
    have h1 := World.ownsRow.cells h0 (g := g) rfl k (.int .i64 x) (by rw [List.getElem?_map, ha]; rfl)
    rw [add_at, Nat.zero_add] at h1
    exact ⟨g, rfl, (Array.getElem?_eq_some_iff.1 hg).1, h1⟩
theorem IO.below {W W' : World} {B : Nat} {v : Value} {l : List Int} (h : IO W B v l) (hb : Below W.heap.size W W') : IO W' B v l :=
  World.ownsRow.kept h (row := none) ⟨hb.os, hb.tape, hb.output, hb.size, fun k hk _ => hb.block k hk⟩ (by cases v.ownBlock <;> simp)
theorem IO.le {W : World} {B B' : Nat} {v : Value} {l : List Int} (h : IO W B v l) (hb : B' ≤ B) : IO W B' v l := ⟨h.1, h.2.imp id fun ⟨g, cap, cur, a, b, c⟩ => ⟨g, cap, cur, a, Nat.le_trans hb b, c⟩⟩
theorem IO.push {w : World} {B : Nat} {v : Value} {l : List Int} (h : IO w B v l) (x : Int) (hn : l.length ≤ 1000000) (hBw : B ≤ w.heap.size) {ops : Array Oper} {rest : List Oper} {o : Oper} {a : Act} {Q : Exit → Act → World → Prop} (hgd : o.guard = none) (sl xo : Operand)
    (ho : o.op = .call { callee := .builtin .append, args := #[sl, xo], argTypes := #[133, 133] }) (hv : a.eval sl = v) {A : Nat} (hx : a.eval xo = .slice (some ⟨A, 0, none⟩) 1 1) (hA : A = w.heap.size)
    (hK : ∀ v' w', IO w' B v' (l ++ [x]) → (∀ w0, Below B w0 w → Below B w0 w') → wpList Tryz.prog ops Q rest (a.put o.dst v') w') : wpList Tryz.prog ops Q (o :: rest) a (w.alloc (.cells #[.int .i64 x] 3)) := by
  subst hA
  obtain ⟨i0, hi0, hz⟩ := Option.map_eq_some_iff.1 info_int
  obtain ⟨z1, z2⟩ := Prod.mk.inj hz
  obtain ⟨z2, z3⟩ := Prod.mk.inj z2
  have h1 : IO (w.alloc (.cells #[.int .i64 x] 3)) B v l := h.below ((Below.refl _ _).alloc (Nat.le_refl _) _)
  refine wpList_append_own _ hgd sl xo 133 ho B 3 i0 _ 1 8 Tryz.underlying133 hi0 z1 z2 z3 rfl (by decide) v l.length _ hv h1 ⟨w.heap.size, 0, none⟩ 1 1 [.int .i64 x] hx rfl (World.news_of_block (cs := #[.int .i64 x]) (heap_alloc_new w _)) ?_ (by unfold maxLen; omega) (by omega) (by simp; omega) ?_
  · intro q hq
    simp only [List.mem_cons, List.not_mem_nil, or_false] at hq
    subst hq
    rfl
  intro v' w2 hown2 hg2 _
  refine hK v' w2 ?_ (fun w0 h0 => (h0.alloc hBw _).grown hg2 (by simp; omega) (fun k hk => (h.lt k hk).1))
  unfold IO
  rw [List.length_append, List.map_append]
  exact hown2
theorem filt_take {l : List Int} {f : Int → Bool} {k : Nat} {x : Int} (h : l[k]? = some x) : (l.take (k + 1)).filter f = (l.take k).filter f ++ (if f x then [x] else []) := by
  rw [List.take_add_one, h, List.filter_append]
  cases hf : f x <;> simp [hf]
theorem filt_len (l : List Int) (f : Int → Bool) (k : Nat) : ((l.take k).filter f).length ≤ l.length := Nat.le_trans (List.length_filter_le _ _) (by simp; omega)
theorem with_out (l : List Int) (n : Int) (B : Nat) (v : Value) (W : World) (hO : IO W B v l) (h : n < 0 ∨ 1000000000 < n) :
    Calls Tryz.prog 111 #[v, .int .i64 n] W fun e W' => ∃ v', e = .returned v' ∧ IO W' B v' (withF l n) ∧ Below W.heap.size W W' := by
  rw [withF, if_pos h]
  obtain ⟨sl, cap, rfl⟩ := hO.isl
  by_cases h1 : n < 0
  · clear h
    have HO := Lib.hid hO
    clear hO
    go_enter Tryz.func111, Tryz.ntmps111
    go_wp2_with fail
    go_ret
    exact ⟨_, rfl, HO.out, Below.refl _ _⟩
  · have h2 : 1000000000 < n := by omega
    clear h
    have HO := Lib.hid hO
    clear hO
    go_enter Tryz.func111, Tryz.ntmps111
    go_wp2_with fail
    go_ret
    exact ⟨_, rfl, HO.out, Below.refl _ _⟩
set_option maxHeartbeats 2000000 in
set_option maxRecDepth 100000 in
theorem with_in (l : List Int) (n : Int) (B : Nat) (v : Value) (W : World) (hO : IO W B v l) (hBW : B ≤ W.heap.size) (hl : l.length ≤ 100000) (h1 : 0 ≤ n) (h2 : n ≤ 1000000000) :
    Calls Tryz.prog 111 #[v, .int .i64 n] W fun e W' => ∃ v', e = .returned v' ∧ IO W' B v' (withF l n) ∧ Below W.heap.size W W' := by
  rw [withF, if_neg (by omega)]
  obtain ⟨sl, cap, rfl⟩ := hO.isl
  have HO := Lib.hid hO
  clear hO
  go_enter Tryz.func111, Tryz.ntmps111
  go_wp2_with fail
  go_loopw [5, 19] (fun v i wr => ∃ k : Nat, k ≤ l.length ∧ i = .int .i64 (k : Int) ∧ IO wr W.heap.size v ((l.take k).filter fun x => decide (x < n)) ∧ Below W.heap.size W wr) (fun _ i _ => l.length - (intOf i).toNat)
  case atStart => exact ⟨0, Nat.zero_le _, rfl, io_nil _ _, Below.refl _ _⟩
  case round =>
    obtain ⟨k, hk, rfl, hv, hb⟩ := hrel
    have HV := Lib.hid hv
    have HL := Lib.hid (filt_len l (fun x => decide (x < n)) k)
    clear hv
    by_cases hlt : k < l.length
    · obtain ⟨x, hx⟩ : ∃ x, l[k]? = some x := ⟨l[k], List.getElem?_eq_getElem hlt⟩
      obtain ⟨g, rfl, hg, hc⟩ := HO.out.at hx
      have c0 := (hb.cell (p := ⟨g, k, none⟩) hg).trans hc
      have HT := Lib.hid (filt_take (f := fun x => decide (x < n)) hx)
      clear hx hc
      by_cases hxn : x < n
      · go_wp2_with (first
          | (at_builtin; refine IO.push (l := (l.take k).filter fun x => decide (x < n)) (B := W.heap.size) ?hh x ?hl ?hk rfl _ _ rfl rfl rfl ?he ?_; (case hh => exact HV.out); (case hl => have := HL.out; omega); (case hk => exact hb.size); (case he => simp); intro v9 w9 hO9 hB9))
        have HO9 := Lib.hid hO9
        have hB8 := hB9 _ hb
        clear hO9 hB9
        go_wp2_with fail
        go_roundw
        case rel => exact ⟨k + 1, by omega, by go_num, by rw [HT.out, if_pos (by simpa using hxn)]; exact HO9.out, hB8⟩
        case measure => simp [intOf]; omega
      · go_wp2_with fail
        go_roundw
        case rel => exact ⟨k + 1, by omega, by go_num, by rw [HT.out, if_neg (by simpa using hxn), List.append_nil]; exact HV.out, hb⟩
        case measure => simp [intOf]; omega
    · obtain rfl : k = l.length := by omega
      have HL2 := Lib.hid (List.length_filter_le (fun x => decide (x < n)) l)
      have HV2 := Lib.hid (show IO wr W.heap.size _ (l.filter fun x => decide (x < n)) by have := HV.out; rw [List.take_length] at this; exact this)
      go_wp2_with (first
        | (at_builtin; refine IO.push (l := l.filter fun x => decide (x < n)) (B := W.heap.size) ?hh n ?hl ?hk rfl _ _ rfl rfl rfl ?he ?_; (case hh => exact HV2.out); (case hl => have := HL2.out; omega); (case hk => exact hb.size); (case he => simp); intro v9 w9 hO9 hB9))
      have HO9 := Lib.hid hO9
      have hB8 := hB9 _ hb
      clear hO9 hB9
      go_wp2_with fail
      go_loopw [5, 37] (fun v i wz => ∃ k : Nat, k ≤ l.length ∧ i = .int .i64 (k : Int) ∧ IO wz W.heap.size v ((l.filter fun x => decide (x < n)) ++ [n] ++ ((l.take k).filter fun x => decide (n < x))) ∧ Below W.heap.size W wz) (fun _ i _ => l.length - (intOf i).toNat)
      case atStart => exact ⟨0, Nat.zero_le _, rfl, by simpa using HO9.out, hB8⟩
      case round =>
        obtain ⟨m, hm, rfl, hz, hbz⟩ := hrel
        have HZ := Lib.hid hz
        have HM := Lib.hid (filt_len l (fun x => decide (n < x)) m)
        clear hz
        by_cases hlt2 : m < l.length
        · obtain ⟨x, hx⟩ : ∃ x, l[m]? = some x := ⟨l[m], List.getElem?_eq_getElem hlt2⟩
          obtain ⟨g, rfl, hg, hc⟩ := HO.out.at hx
          have c0 := (hbz.cell (p := ⟨g, m, none⟩) hg).trans hc
          have HT := Lib.hid (filt_take (f := fun x => decide (n < x)) hx)
          clear hx hc
          by_cases hxn : n < x
          · go_wp2_with (first
              | (at_builtin; refine IO.push (l := (l.filter fun x => decide (x < n)) ++ [n] ++ ((l.take m).filter fun x => decide (n < x))) (B := W.heap.size) ?hh x ?hl ?hk rfl _ _ rfl rfl rfl ?he ?_; (case hh => exact HZ.out); (case hl => have := HM.out; have := HL2.out; rw [List.length_append, List.length_append]; simp only [List.length_cons, List.length_nil]; omega); (case hk => exact hbz.size); (case he => simp); intro v7 w7 hO7 hB7))
            have HO7 := Lib.hid hO7
            have hB6 := hB7 _ hbz
            clear hO7 hB7
            go_wp2_with fail
            go_roundw
            case rel => exact ⟨m + 1, by omega, by go_num, by rw [HT.out, if_pos (by simpa using hxn), ← List.append_assoc]; exact HO7.out, hB6⟩
            case measure => simp [intOf]; omega
          · go_wp2_with fail
            go_roundw
            case rel => exact ⟨m + 1, by omega, by go_num, by rw [HT.out, if_neg (by simpa using hxn), List.append_nil]; exact HZ.out, hbz⟩
            case measure => simp [intOf]; omega
        · obtain rfl : m = l.length := by omega
          have HZ2 := Lib.hid (show IO _ B _ ((l.filter fun x => decide (x < n)) ++ (n :: l.filter fun x => decide (n < x))) by have := HZ.out.le hBW; rw [List.take_length, List.append_assoc] at this; exact this)
          go_wp2_with fail
          go_ret
          exact ⟨_, rfl, HZ2.out, hbz⟩
end Sg
end Go.Proofs.YtflhmoelenmomaaGreatDoor
