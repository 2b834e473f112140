/-
  Walk: the reference's sexp encoding, for every tree.
-/
import Derived.Test.YtbhngjhfeejeiaaDoorSxQ
namespace Go.Proofs.YtbhngjhfeejeiaaDoor
open Go.RowKit
namespace Sx

set_option maxHeartbeats 1000000 in
set_option maxRecDepth 100000 in
theorem sexpr_any (h : Nat) (t : T) (v : Value) (W : World) (hr : Rep W W.heap.size h t v) (hE : Env W) (hh : h ≤ 32) :
    Calls Tryd.prog 19 #[v] W fun e W' => e = .returned (EV (enc t)) ∧ Below W.heap.size W W' := by
  obtain ⟨x, y, z, rfl⟩ := hr.form
  have hX : Below W.heap.size W (W.alloc (.cells #[x, y, z] 43)) := (Below.refl _ _).alloc (Nat.le_refl _) _
  have hE2 := hE.below hX
  have hr2 : Rep (W.alloc (.cells #[x, y, z] 43)) W.heap.size h t (.agg #[x, y, z]) := hr.same (fun b o hb => hX.cell (p := ⟨b, o, none⟩) hb)
  have hbig := hE.big
  have hN := putr_any W.heap.size h t _ _ W.heap.size [] _ 0 hr2 (Nat.le_refl _) hE2 hbig hX.size (World.ownsRow_nil _ _ _ _) (by simp) (by omega)
  simp only [List.length_nil, Nat.zero_add] at hN
  have hpos := enc_pos t
  clear hr hr2 hE2
  by_cases hl : 65536 < (enc t).length
  · have hx := Lib.hid (EV_tt hl)
    rw [full_tt hl] at hN
    go_enter Tryd.func19, Tryd.ntmps19
    go_wp2_with fail
    refine hN.mono ?_
    rintro e w1 ⟨u, rfl, -, hu, hF⟩
    obtain rfl := hu (by simpa using hl)
    have hcv : ∀ W : World, (convert 66 9 (.slice none 0 0)).run Tryd.prog W = .ok (.string ⟨#[]⟩) W := fun W => by
      rw [run_convert_bytes_string W 66 9 5 none 0 0 Tryd.underlying66 Tryd.underlying5 Tryd.underlying9]
      rfl
    clear hN
    go_wp2
    refine bodyPost_ret (v := .tuple #[.string ⟨#[]⟩, .int .i64 3]) (by simp [results, Tryd.results19, go_sem]) rfl ⟨by rw [hx.out], hX.trans hF.below⟩
  · have hx := Lib.hid (EV_ff hl)
    rw [full_ff hl] at hN
    go_enter Tryd.func19, Tryd.ntmps19
    go_wp2_with fail
    refine hN.mono ?_
    rintro e w1 ⟨u, rfl, hu, -, hF⟩
    have hown := hu (by simpa using hl)
    rw [List.nil_append] at hown
    have hcv := own_conv hown hpos
    clear hN hown hu
    go_wp2
    refine bodyPost_ret (v := .tuple #[.string ⟨(enc t).toArray⟩, .int .i64 0]) (by simp [results, Tryd.results19, go_sem]) rfl ⟨by rw [hx.out], hX.trans hF.below⟩
end Sx
end Go.Proofs.YtbhngjhfeejeiaaDoor
