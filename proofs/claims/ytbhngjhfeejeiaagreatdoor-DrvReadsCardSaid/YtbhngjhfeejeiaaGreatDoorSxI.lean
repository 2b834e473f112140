/-
  Walk: sexp.Encode for every tree.
-/
import Derived.Test.YtbhngjhfeejeiaaGreatDoorSxH
import Derived.Laws.IdiomStrings
import Derived.Deep.AppendLies
namespace Go.Proofs.YtbhngjhfeejeiaaGreatDoor
open Go.RowKit
namespace Sx

theorem Rep.form {W : World} {B h : Nat} {t : T} {v : Value} (hr : Rep W B h t v) : ∃ x y z, v = .agg #[x, y, z] := by
  cases hr with
  | leaf _ s => exact ⟨_, _, _, rfl⟩
  | list _ ks sl cap x y z hc hr => exact ⟨_, _, _, rfl⟩
theorem own_conv {W : World} {B : Nat} {v : Value} {l : List UInt8} (h : W.ownsRow B 5 1 v l.length (u8s l)) (hl : 0 < l.length) : (convert 78 9 v).run Tryz.prog W = .ok (.string ⟨l.toArray⟩) W := by
  obtain ⟨g, cap, rfl, _, _⟩ := h.form hl
  refine run_convert_bytes_back W 78 9 5 ⟨g, 0, none⟩ cap l Tryz.underlying78 Tryz.underlying5 Tryz.underlying9 (fun j hj => ?_)
  refine h.cells (g := g) rfl j _ ?_
  simp [u8s, List.getElem?_eq_getElem hj]
theorem WS.start (W : World) : WS (W.alloc (.cells #[.slice none 0 0, .int .i64 0] 80)) W.heap.size [] 0 (.slice none 0 0) := by
  refine ⟨by simp, ?_, ?_, ?_, World.ownsRow_nil _ _ _ _⟩
  all_goals first | go_simp | (intro j; go_simp)
def EV (l : List UInt8) : Value := if 65536 < l.length then .tuple #[.string ⟨#[]⟩, .int .i64 3] else .tuple #[.string ⟨l.toArray⟩, .int .i64 0]
theorem EV_tt {l : List UInt8} (h : 65536 < l.length) : EV l = .tuple #[.string ⟨#[]⟩, .int .i64 3] := by unfold EV; rw [if_pos h]
theorem EV_ff {l : List UInt8} (h : ¬ 65536 < l.length) : EV l = .tuple #[.string ⟨l.toArray⟩, .int .i64 0] := by unfold EV; rw [if_neg h]

set_option maxHeartbeats 1000000 in
set_option maxRecDepth 100000 in
theorem sexp_any (h : Nat) (t : T) (v : Value) (W : World) (hr : Rep W W.heap.size h t v) (hE : Env W) (hh : h ≤ 32) :
    Calls Tryz.prog 20 #[v] W fun e W' => e = .returned (EV (enc t)) ∧ Below W.heap.size W W' := by
  obtain ⟨x, y, z, rfl⟩ := hr.form
  have hX : Below W.heap.size W (W.alloc (.cells #[x, y, z] 39)) := (Below.refl _ _).alloc (Nat.le_refl _) _
  have hY : Below W.heap.size W ((W.alloc (.cells #[x, y, z] 39)).alloc (.cells #[.slice none 0 0, .int .i64 0] 80)) := hX.alloc hX.size _
  have hS := WS.start (W.alloc (.cells #[x, y, z] 39))
  have hsz : (W.alloc (.cells #[x, y, z] 39)).heap.size = W.heap.size + 1 := by simp
  rw [hsz] at hS
  have hE2 := hE.below hY
  have hr2 : Rep ((W.alloc (.cells #[x, y, z] 39)).alloc (.cells #[.slice none 0 0, .int .i64 0] 80)) W.heap.size h t (.agg #[x, y, z]) := hr.same (fun b o hb => hY.cell (p := ⟨b, o, none⟩) hb)
  have hbig := hE.big
  have hN := node_any W.heap.size h t _ _ (W.heap.size + 1) [] _ 0 hr2 (by omega) hE2 (by omega) hS (by simp) (by omega)
  clear hr hr2 hE2 hS hsz
  go_enter Tryz.func20, Tryz.ntmps20
  go_wp2_with fail
  refine hN.mono ?_
  rintro e w1 ⟨rfl, ⟨o, u, hws, hoe⟩, hfr⟩
  have hb : Below W.heap.size W w1 := hY.trans (hfr.below.mono (by omega))
  have hf1 := hws.c1
  have hf0 := hws.c0
  have hpos := enc_pos t
  by_cases hl : 65536 < (enc t).length
  · have hx := Lib.hid (EV_tt hl)
    rw [full_tt (by simpa using hl)] at hf1
    clear hN hX hY hws hoe hfr
    go_wp2_with fail
    go_quiet (fail)
    go_wp2
    refine bodyPost_ret (v := .tuple #[.string ⟨#[]⟩, .int .i64 3]) (by simp [results, Tryz.results20, go_sem]) rfl ⟨by rw [hx.out], below_drewN hb _⟩
  · have hx := Lib.hid (EV_ff hl)
    rw [full_ff (by simpa using hl)] at hf1
    have ho := hoe (by simp; omega)
    have hown := hws.own
    rw [List.nil_append] at ho
    subst ho
    have hcv := own_conv hown hpos
    clear hN hX hY hws hoe hfr hown
    go_wp2_with fail
    refine bodyPost_ret (v := .tuple #[.string ⟨(enc t).toArray⟩, .int .i64 0]) (by simp [results, Tryz.results20, go_sem]) rfl ⟨by rw [hx.out], hb⟩
end Sx
end Go.Proofs.YtbhngjhfeejeiaaGreatDoor
