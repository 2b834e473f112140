/-
  The reference's Encode, and the law CodeChecks, for every list of instructions.
-/
import Derived.Test.YtjfchdgdgbdeeaaDoorCodeT
namespace Go.Proofs.YtjfchdgdgbdeeaaDoor
open Go.RowKit
namespace Cd

set_option maxHeartbeats 1000000 in
set_option maxRecDepth 100000 in
theorem encoder_any (p : List I) (v : Value) (W : World) (hP : PS W v p) (hE : Env W) :
    Calls Tryd.prog 13 #[v] W fun e W' => e = .returned (ENV p) ∧ Below W.heap.size W W' := by
  have hck := checkr_any p v W hP
  unfold CKV at hck
  by_cases hc0 : (check p).2 = 0
  · have hx := Lib.hid (ENV_ok hc0)
    obtain ⟨hp0, hp1⟩ := check_len hc0
    rw [hc0] at hck
    have hP0 := hP
    obtain ⟨sl, cap, rfl, -⟩ := hP.form
    go_enter Tryd.func13, Tryd.ntmps13
    go_wp2_with fail
    refine hck.mono ?_
    rintro e w0 ⟨rfl, hb0⟩
    have hNd := node8_any p _ w0 (hP0.below hb0) (hE.below hb0) hp0 hp1
    clear hck
    go_wp2_with fail
    refine hNd.mono ?_
    rintro e w1 ⟨u, rfl, hrep, hb1⟩
    have hB1 := hb0.trans (hb1.mono hb0.size)
    have hEV := sexpr_any 2 (progT p) u w1 hrep (hE.below hB1) (by omega)
    rw [EV_eq] at hEV hx
    clear hNd hrep
    go_wp2_with fail
    refine hEV.mono ?_
    rintro e w2 ⟨rfl, hb2⟩
    clear hEV
    go_wp2
    refine bodyPost_ret (v := .tuple #[.string (ES (enc (progT p))), .int .i64 (EE (enc (progT p)))]) (by simp [results, Tryd.results13, go_sem]) rfl ⟨by rw [hx.out], hB1.trans (hb2.mono hB1.size)⟩
  · have hx := Lib.hid (ENV_bad hc0)
    have hq : ((check p).2 == 0) = false := by simpa using hc0
    obtain ⟨sl, cap, rfl, -⟩ := hP.form
    clear hP
    go_enter Tryd.func13, Tryd.ntmps13
    go_wp2_with fail
    refine hck.mono ?_
    rintro e w0 ⟨rfl, hb0⟩
    clear hck
    go_wp2
    refine bodyPost_ret (v := .tuple #[.string ⟨#[]⟩, .int .i64 (check p).2]) (by simp [results, Tryd.results13, go_sem]) rfl ⟨by rw [hx.out], hb0⟩

theorem ENV_eq (p : List I) : ∃ (s : ByteArray) (n : Int), ENV p = .tuple #[.string s, .int .i64 n] := by
  unfold ENV
  split
  · exact ⟨_, _, EV_eq _⟩
  · exact ⟨_, _, rfl⟩

set_option maxHeartbeats 1000000 in
set_option maxRecDepth 100000 in
theorem checkslaw_any (p : List I) (v : Value) (W : World) (hP : PS W v p) (hE : Env W) :
    Calls Tryd.prog 3 #[v] W fun e W' => e = .returned (.bool true) ∧ Below W.heap.size W W' := by
  have hP0 := hP
  obtain ⟨sl, cap, rfl, -⟩ := hP.form
  obtain ⟨s, n, hENV⟩ := ENV_eq p
  clear hP
  go_enter Tryd.func3, Tryd.ntmps3
  go_wp2_with fail
  refine (alive_any _ hE).mono ?_
  rintro e w1 ⟨rfl, hb1⟩
  have hgr := great_any p _ w1 (hP0.below hb1)
  go_wp2_with fail
  refine hgr.mono ?_
  rintro e w2 ⟨b, rfl, hb2⟩
  have hB2 := hb1.trans (hb2.mono hb1.size)
  clear hgr
  cases b
  · have h3 := check_any p _ w2 (hP0.below hB2) (hE.below hB2).tab
    unfold CKV at h3
    go_wp2_with fail
    refine h3.mono ?_
    rintro e w3 ⟨rfl, hb3⟩
    have hB3 := hB2.trans (hb3.mono hB2.size)
    have h4 := checkr_any p _ w3 (hP0.below hB3)
    unfold CKV at h4
    clear h3
    go_wp2_with fail
    refine h4.mono ?_
    rintro e w4 ⟨rfl, hb4⟩
    have hB4 := hB3.trans (hb4.mono hB3.size)
    have h5 := encode_any p _ w4 (hP0.below hB4) (hE.below hB4)
    rw [hENV] at h5
    clear h4
    go_wp2_with fail
    refine h5.mono ?_
    rintro e w5 ⟨rfl, hb5⟩
    have hB5 := hB4.trans (hb5.mono hB4.size)
    have h6 := encoder_any p _ w5 (hP0.below hB5) (hE.below hB5)
    rw [hENV] at h6
    clear h5
    go_wp2_with fail
    refine h6.mono ?_
    rintro e w6 ⟨rfl, hb6⟩
    clear h6
    go_wp2
    go_ret
    exact ⟨rfl, hB5.trans (hb6.mono hB5.size)⟩
  · go_wp2
    go_ret
    exact ⟨rfl, hB2⟩
end Cd
end Go.Proofs.YtjfchdgdgbdeeaaDoor
