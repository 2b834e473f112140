/-
  The state of the reference's Parse.
-/
import Derived.Test.YtcigggffaofkhaaRrK
import Derived.Test.YtcigggffaofkhaaRcPc
namespace Go.Proofs.Ytcigggffaofkhaa
open Go.RowKit
namespace Rc

theorem ZV.set {W w : World} {b : Nat} {s : ByteArray} {st : Res Unit} {vars : List (Nat × List Value)} (h : ZV W w b s st vars) (i j : Nat) {g : Nat} {vs : List Value} (hi : vars[i]? = some (g, vs)) (hj : j < vs.length) (hd : ∀ (i' g' : Nat) (vs' : List Value), vars[i']? = some (g', vs') → i' ≠ i → g' ≠ g) (v : Value) :
    ZV W (w.setCell ⟨g, j, none⟩ v) b s st (vars.set i (g, vs.set j v)) := by
  have hlt := h.hlt
  have hg := h.vc i g vs hi
  refine ⟨hlt, h.fq.new hlt ⟨g, j, none⟩ hg.1 v, h.rs.far (by omega) j v, fun i' g' vs' hi' => ?_⟩
  rw [List.getElem?_set] at hi'
  split at hi'
  · rename_i e
    split at hi'
    · cases hi'
      exact ⟨hg.1, hg.2.set j hj v⟩
    · cases hi'
  · rename_i e
    have h2 := h.vc i' g' vs' hi'
    exact ⟨h2.1, h2.2.block (by simp [World.setCell]; exact h2.2.lt) (Below.heap_setCell _ _ _ _ (hd i' g' vs' hi' (fun e' => e e'.symm)))⟩
/-- one variable alone -/
theorem ZV.set1 {W w : World} {b : Nat} {s : ByteArray} {st : Res Unit} {g : Nat} {vs : List Value} (h : ZV W w b s st [(g, vs)]) (j : Nat) (hj : j < vs.length) (v : Value) : ZV W (w.setCell ⟨g, j, none⟩ v) b s st [(g, vs.set j v)] :=
  h.set 0 j rfl hj (fun i' g' vs' h hne => by
    have := (List.getElem?_eq_some_iff.1 h).1
    simp at this
    omega) v
/-- rows of fields that are read -/
structure KJ (W : World) (B : Nat) (v : Value) (n : Nat) (qs : List F7) : Prop where
  len : qs.length = n
  own : W.ownsRow B 47 7 v n (row7 qs)
  nil : n = 0 → v = .slice none 0 0
def KQ (W : World) (B : Nat) (v : Value) (qs : List F7) (ts : List (Int × E × E)) : Prop := ts.length = qs.length ∧ ∀ (i : Nat) (q : F7) (t : Int × E × E), qs[i]? = some q → ts[i]? = some t → RepF W (fun k => B ≤ k ∧ k < W.heap.size ∧ v.ownBlock ≠ some k) t q
theorem KJ.start (W : World) (B : Nat) : KJ W B (.slice none 0 0) 0 [] := ⟨rfl, World.ownsRow_nil _ _ _ _, fun _ => rfl⟩
theorem KJ.same {W W' : World} {B n : Nat} {v : Value} {qs : List F7} (h : KJ W B v n qs) (hb : ∀ j, B ≤ j → j < W.heap.size → W'.heap[j]? = W.heap[j]?) : KJ W' B v n qs :=
  ⟨h.len, own_block h.own (fun j hj => hb j (h.own.lt j hj).1 (h.own.lt j hj).2), h.nil⟩
theorem KQ.kf {W : World} {B n : Nat} {v : Value} {qs : List F7} {ts : List (Int × E × E)} (h : KJ W B v n qs) (hq : KQ W B v qs ts) : KF W B v ts qs := by
  have e : ts.length = n := by rw [hq.1, h.len]
  exact ⟨hq.1.symm, by rw [e]; exact h.own, fun h0 => h.nil (by omega), hq.2⟩
theorem KQ.of_kf {W : World} {B : Nat} {v : Value} {qs : List F7} {ts : List (Int × E × E)} (h : KF W B v ts qs) : KQ W B v qs ts := ⟨h.len.symm, h.rep⟩
/-- what a field's head must be -/
def chkF (n : Nat) (t : Tk) : Res Unit := if fieldK t = 0 then .bad t.pl 50 else if n = 20 then .bad t.pl 13 else .ok () t
theorem fields_chk {s : List UInt8} {f : Tk → Res E} {m : Nat} {t : Tk} {ts : List (Int × E × E)} (h : t.kind ≠ 0) :
    fieldsP s f (m + 1) t ts = (((chkF ts.length t).bind fun _ t => stepT s t).bind fun _ t => f t).bind fun a t2 => (f t2).bind fun b t3 => fieldsP s f m t3 (ts ++ [((fieldK t : Int), a, b)]) := by
  unfold chkF
  by_cases h2 : fieldK t = 0
  · rw [fields_no h h2, if_pos h2]; rfl
  · rw [if_neg h2]
    by_cases h3 : ts.length = 20
    · rw [fields_many h h2 h3, if_pos h3]; rfl
    · rw [fields_step h h2 h3, if_neg h3, ok_bind, bind_assoc]
/-- the state at a round's head -/
structure YX (W wr : World) (b : Nat) (s : ByteArray) (f : Tk → Res E) (g : Nat) (a1 a2 : XV) (v : Value) (n : Nat) (st : Res Unit) (R : Res Src) : Prop where
  zv : ZV W wr b s st [(g, out7 a1 a2 v)]
  form : ∃ sl n c, v = .slice sl n c
  few : n ≤ 21
  kids : ∃ qs, KJ wr (g + 1) v n qs ∧ ∀ u t, st = .ok u t → ∃ x1 x2 ts m, RepX wr (fun k => g + 1 ≤ k ∧ k < wr.heap.size ∧ v.ownBlock ≠ some k) x1 a1.val ∧ RepX wr (fun k => g + 1 ≤ k ∧ k < wr.heap.size ∧ v.ownBlock ≠ some k) x2 a2.val ∧
    KQ wr (g + 1) v qs ts ∧ n ≤ 20 ∧ s.size - t.fin + 1 ≤ m ∧ ((fieldsP s.data.toList f m t ts).bind fun l t5 => .ok ⟨x1, x2, l⟩ t5) = R
  bad : ∀ p e, st = .bad p e → R = .bad p e
theorem YX.next {W wr w5 w6 : World} {b : Nat} {s : ByteArray} {f : Tk → Res E} {g : Nat} {a1 a2 : XV} {v : Value} {n : Nat} {u : Unit} {t : Tk} {R : Res Src} (L : YX W wr b s f g a1 a2 v n (.ok u t) R) (hp : Pg f) (hk0 : t.kind ≠ 0)
    {A B : Res E} (hA : A = ((chkF n t).bind fun _ t => stepT s.data.toList t).bind fun _ t => f t) (hB : B = (unitR A).bind fun _ t => f t) {fv : List (Nat × List Value)} (hZ : ZV wr w5 b s (unitR B) fv) {p q : XV}
    (hy : ∀ x t', A = .ok x t' → RepX w5 (fun j => wr.heap.size ≤ j ∧ j < w5.heap.size) x p.val) (hz : ∀ x t', B = .ok x t' → RepX w5 (fun j => wr.heap.size ≤ j ∧ j < w5.heap.size) x q.val) {kd : Int} (hkd : kd = fieldK t) {qs : List F7} (hk : KJ wr (g + 1) v n qs)
    (hgood : ∀ u' t', Res.ok u t = .ok u' t' → ∃ x1 x2 ts m, RepX wr (fun k => g + 1 ≤ k ∧ k < wr.heap.size ∧ v.ownBlock ≠ some k) x1 a1.val ∧ RepX wr (fun k => g + 1 ≤ k ∧ k < wr.heap.size ∧ v.ownBlock ≠ some k) x2 a2.val ∧
      KQ wr (g + 1) v qs ts ∧ n ≤ 20 ∧ s.size - t'.fin + 1 ≤ m ∧ ((fieldsP s.data.toList f m t' ts).bind fun l t5 => .ok ⟨x1, x2, l⟩ t5) = R)
    {g' cap : Nat} (hown : w6.ownsRow (g + 1) 47 7 (.slice (some ⟨g', 0, none⟩) (n + 1) cap) (n + 1) (row7 qs ++ cells7 (.int .i64 kd, (.int .i64 p.k, .string p.σ, .slice p.sl p.n p.c), (.int .i64 q.k, .string q.σ, .slice q.sl q.n q.c))))
    {o : Obj} (hgr : (w5.alloc o).grownBy w6 v.ownBlock) (hat : v.ownBlock = some g' ∨ g' = w5.heap.size + 1) :
    YX W (w6.setCell ⟨g, 6, none⟩ (.slice (some ⟨g', 0, none⟩) (n + 1) cap)) b s f g a1 a2 (.slice (some ⟨g', 0, none⟩) (n + 1) cap) (n + 1) (unitR B) R ∧ mr s b (w6.setCell ⟨g, 6, none⟩ (.slice (some ⟨g', 0, none⟩) (n + 1) cap)) < mr s b wr := by
  have hlt := L.zv.hlt
  have hlo := L.zv.lo 0 rfl
  have hgl := L.zv.lt 0 rfl
  have hF := hZ.fq
  have hv : ∀ j, v.ownBlock = some j → g + 1 ≤ j ∧ j < wr.heap.size := fun j hj => hk.own.lt j hj
  have s1 := L.zv.fq.below.size
  have s5 := hF.below.size
  have hsz : w5.heap.size + 1 ≤ w6.heap.size := by have := hgr.size; simpa using this
  have hblk : ∀ j, j < w5.heap.size → v.ownBlock ≠ some j → w6.heap[j]? = w5.heap[j]? := fun j hj hne =>
    (hgr.block j (by simp; omega) (fun e => hne e.symm)).trans (heap_alloc_old w5 _ hj)
  have hob : ∀ j, v.ownBlock = some j → j ≠ b ∧ j ≠ g := fun j hj => by have := hv j hj; omega
  have hz5 : ZV W w5 b s (unitR B) [(g, out7 a1 a2 v)] := L.zv.call ⟨hF, hZ.rs⟩
  have hc5 := hz5.vc 0 _ _ rfl
  have hz6 : ZV W w6 b s (unitR B) [(g, out7 a1 a2 v)] := by
    refine ⟨hlt, (hz5.fq.made hlt o).grown hlt hgr (fun j hj => by have := hv j hj; omega), hz5.rs.block (by omega) (hblk b (by omega) (fun e => (hob b e).1 rfl)), fun i g0 vs hi => ?_⟩
    match i, hi with
    | 0, hi => cases hi; exact ⟨hc5.1, hc5.2.block (by omega) (hblk g (by omega) (fun e => (hob g e).2 rfl))⟩
    | i + 1, hi => simp at hi
  have hz7 := hz6.set1 6 (by simp) (.slice (some ⟨g', 0, none⟩) (n + 1) cap)
  have h5 : ∀ j, j ≠ g → (w6.setCell ⟨g, 6, none⟩ (.slice (some ⟨g', 0, none⟩) (n + 1) cap)).heap[j]? = w6.heap[j]? := fun j hj => Below.heap_setCell _ _ _ _ hj
  have h5s : (w6.setCell ⟨g, 6, none⟩ (.slice (some ⟨g', 0, none⟩) (n + 1) cap)).heap.size = w6.heap.size := by simp [World.setCell]
  have hob' : (Value.slice (some ⟨g', 0, none⟩) (n + 1) cap).ownBlock = some g' := rfl
  have hstay : ∀ k, (g + 1 ≤ k ∧ k < wr.heap.size ∧ v.ownBlock ≠ some k) → (g + 1 ≤ k ∧ k < (w6.setCell ⟨g, 6, none⟩ (.slice (some ⟨g', 0, none⟩) (n + 1) cap)).heap.size ∧ (Value.slice (some ⟨g', 0, none⟩) (n + 1) cap).ownBlock ≠ some k) ∧ (w6.setCell ⟨g, 6, none⟩ (.slice (some ⟨g', 0, none⟩) (n + 1) cap)).heap[k]? = wr.heap[k]? := fun k hk => by
    refine ⟨⟨hk.1, by omega, fun e => ?_⟩, ?_⟩
    · rw [hob'] at e
      cases e
      rcases hat with hat | hat
      · exact hk.2.2 hat
      · omega
    · rw [h5 k (by omega), hblk k (by omega) hk.2.2, hF.block k (by omega) (by omega)]
  have hkj : KJ w6 (g + 1) (.slice (some ⟨g', 0, none⟩) (n + 1) cap) (n + 1) (qs ++ [(.int .i64 kd, (.int .i64 p.k, .string p.σ, .slice p.sl p.n p.c), (.int .i64 q.k, .string q.σ, .slice q.sl q.n q.c))]) :=
    ⟨by simp [hk.len], by rw [row7_snoc]; exact hown, fun h => by omega⟩
  obtain ⟨x1, x2, ts, m, r1, r2, hq, hn, hm, he⟩ := hgood u t rfl
  have hts : ts.length = n := by rw [hq.1, hk.len]
  obtain ⟨m', rfl⟩ : ∃ m', m = m' + 1 := ⟨m - 1, by omega⟩
  rw [fields_chk hk0, hts, ← hA] at he
  have htf := L.zv.rs.2.1.fin
  refine ⟨⟨hz7, ⟨_, _, _, rfl⟩, by omega, ⟨_, hkj.same fun j h1 h2 => h5 j (by omega), fun u' t3 e => ?_⟩, fun p' e' h => ?_⟩, ?_⟩
  · obtain ⟨z, hzz⟩ := unit_ok e
    have hB' := hB
    rw [hzz] at hB'
    obtain ⟨u2, t2, h2, h3⟩ := bind_ok hB'.symm
    obtain ⟨y, hyy⟩ := unit_ok h2
    have hA' := hA
    rw [hyy] at hA'
    obtain ⟨u1, t1, h1, h4⟩ := bind_ok hA'.symm
    obtain ⟨u0, t0, h0, h6⟩ := bind_ok h1
    have hc : t0 = t ∧ n ≠ 20 := by
      unfold chkF at h0
      split at h0
      · cases h0
      · split at h0
        · cases h0
        · rename_i h20
          cases h0
          exact ⟨rfl, h20⟩
    obtain ⟨rfl, h20⟩ := hc
    have p1 := step_prog h6
    have p2 := hp _ _ _ h4
    have p3 := hp _ _ _ h3
    have p4 := p1.2 p2.1
    have hkf := (hq.kf hk).snoc (W := w5) (W' := w6) (q := (.int .i64 kd, (.int .i64 p.k, .string p.σ, .slice p.sl p.n p.c), (.int .i64 q.k, .string q.σ, .slice q.sl q.n q.c))) (t := ((fieldK t0 : Int), y, z)) (g := g') (cap := cap) (H := w5.heap.size + 1) (by omega) (fun j hj1 hj2 => hF.block j hj2 (by omega)) (by omega)
      ⟨by rw [hkd], hy _ _ hyy, hz _ _ hzz⟩ (Nat.le_succ _) ⟨by omega, hblk⟩ hat (by rw [hts]; exact hown)
    rw [hts] at hkf
    have hr9 := hz7.rs
    rw [e] at hr9
    have hf9 := hr9.2.1.fin
    refine ⟨x1, x2, ts ++ [((fieldK t0 : Int), y, z)], m', r1.move hstay, r2.move hstay, KQ.of_kf (hkf.same (by omega) fun j h1 h2 => h5 j (by omega)), by omega, by omega, ?_⟩
    rw [← he, hyy]
    show _ = Res.bind ((f t2).bind _) _
    rw [h3]
    rfl
  · have hb := unit_bad h
    rw [hB] at hb
    rw [← he]
    cases hA2 : A with
    | bad p2 e2 =>
      rw [hA2] at hb
      cases hb
      rfl
    | ok y t2 =>
      rw [hA2] at hb
      change f t2 = .bad p' e' at hb
      show Res.bind ((f t2).bind _) _ = _
      rw [hb]
      rfl
  · rw [mr_ok L.zv.rs]
    cases hu : unitR B with
    | bad p' e' =>
      have := hz7.rs
      rw [hu] at this
      rw [mr_bad this]
      omega
    | ok u2 t3 =>
      obtain ⟨z, hzz⟩ := unit_ok hu
      have hB' := hB
      rw [hzz] at hB'
      obtain ⟨u2, t2, h2, h3⟩ := bind_ok hB'.symm
      obtain ⟨y, hyy⟩ := unit_ok h2
      have hA' := hA
      rw [hyy] at hA'
      obtain ⟨u1, t1, h1, h4⟩ := bind_ok hA'.symm
      obtain ⟨u0, t0, h0, h6⟩ := bind_ok h1
      have hc : t0 = t := by
        unfold chkF at h0
        split at h0
        · cases h0
        · split at h0
          · cases h0
          · cases h0
            rfl
      subst hc
      have p1 := step_prog h6
      have p2 := hp _ _ _ h4
      have p3 := hp _ _ _ h3
      have p4 := p1.2 p2.1
      have hr := hz7.rs
      rw [hu] at hr
      rw [mr_ok hr]
      have := hr.2.1.fin
      omega
end Rc
end Go.Proofs.Ytcigggffaofkhaa
