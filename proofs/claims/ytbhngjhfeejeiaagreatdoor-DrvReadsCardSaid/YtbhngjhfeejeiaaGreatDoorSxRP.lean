/-
  Plain law of reading: bytes as a tree, and the tree's bytes. No program in sight.
-/
import Derived.Test.YtbhngjhfeejeiaaGreatDoorSxH
import Derived.Lib.ItoaMem
namespace Go.Proofs.YtbhngjhfeejeiaaGreatDoor
open Go.RowKit
namespace Sx

def isD (c : UInt8) : Bool := decide (48 ≤ c.toNat) && decide (c.toNat ≤ 57)
def nD (l : List UInt8) : Nat := (l.takeWhile isD).length
def val (l : List UInt8) : Nat := l.foldl (fun n c => n * 10 + (c.toNat - 48)) 0
theorem isD_iff (c : UInt8) : isD c = true ↔ 48 ≤ c.toNat ∧ c.toNat ≤ 57 := by simp [isD]
theorem val_snoc (l : List UInt8) (c : UInt8) : val (l ++ [c]) = val l * 10 + (c.toNat - 48) := by simp [val]
theorem rev_ind {P : List UInt8 → Prop} (h0 : P []) (h1 : ∀ l c, P l → P (l ++ [c])) : ∀ l, P l := by
  intro l
  have : ∀ r : List UInt8, P r.reverse := fun r => by
    induction r with
    | nil => exact h0
    | cons c r ih => rw [List.reverse_cons]; exact h1 _ _ ih
  simpa using this l.reverse
theorem val_lt : ∀ l : List UInt8, (∀ c ∈ l, isD c = true) → val l < 10 ^ l.length := by
  intro l
  refine rev_ind (P := fun l => (∀ c ∈ l, isD c = true) → val l < 10 ^ l.length) (fun _ => by simp [val]) (fun l c ih h => ?_) l
  have h1 := ih (fun d hd => h d (by simp [hd]))
  have h2 := (isD_iff c).1 (h c (by simp))
  rw [val_snoc, List.length_append, List.length_singleton, Nat.pow_succ]
  omega
theorem val_ge : ∀ l : List UInt8, (∀ c ∈ l, isD c = true) → l.head? ≠ some 48 → l ≠ [] → 10 ^ (l.length - 1) ≤ val l := by
  intro l
  refine rev_ind (P := fun l => (∀ c ∈ l, isD c = true) → l.head? ≠ some 48 → l ≠ [] → 10 ^ (l.length - 1) ≤ val l) (fun _ _ h => absurd rfl h) (fun l c ih h hh _ => ?_) l
  have h2 := (isD_iff c).1 (h c (by simp))
  rw [val_snoc, List.length_append, List.length_singleton, Nat.add_sub_cancel]
  cases l with
  | nil =>
    have : c.toNat ≠ 48 := fun e => hh (by
      have : c = 48 := UInt8.toNat_inj.1 e
      simp [this])
    simp [val]
    omega
  | cons d l =>
    have h1 := ih (fun d hd => h d (by
      rw [List.mem_append]; exact .inl hd)) (by simpa using hh) (by simp)
    simp only [List.length_cons, Nat.add_sub_cancel] at h1 ⊢
    rw [Nat.pow_succ]
    omega
theorem dec_small {u : Nat} (h : u < 10) : Lib.decDigits u = [UInt8.ofNat (48 + u)] := by rw [Lib.decDigits, dif_pos h]
theorem dec_big {u : Nat} (h : ¬ u < 10) : Lib.decDigits u = Lib.decDigits (u / 10) ++ [UInt8.ofNat (48 + u % 10)] := by rw [Lib.decDigits, dif_neg h]
theorem digit_of {c : UInt8} (h : isD c = true) : UInt8.ofNat (48 + (c.toNat - 48)) = c := by
  have := (isD_iff c).1 h
  rw [show 48 + (c.toNat - 48) = c.toNat by omega]
  simp
theorem isD_of {k : Nat} (h : k < 10) : isD (UInt8.ofNat (48 + k)) = true := by
  rw [isD_iff, UInt8.toNat_ofNat_of_lt' (by show 48 + k < 256; omega)]
  omega
theorem toNat_of {k : Nat} (h : k < 10) : (UInt8.ofNat (48 + k)).toNat = 48 + k := UInt8.toNat_ofNat_of_lt' (by show 48 + k < 256; omega)
theorem dec_digits (u : Nat) : ∀ c ∈ Lib.decDigits u, isD c = true := by
  induction u using Nat.strongRecOn with
  | _ u ih =>
    by_cases h : u < 10
    · rw [dec_small h]
      intro c hc
      obtain rfl := List.mem_singleton.1 hc
      exact isD_of h
    · rw [dec_big h]
      intro c hc
      rw [List.mem_append, List.mem_singleton] at hc
      rcases hc with hc | rfl
      · exact ih (u / 10) (by omega) c hc
      · exact isD_of (by omega)
theorem dec_val (u : Nat) : val (Lib.decDigits u) = u := by
  induction u using Nat.strongRecOn with
  | _ u ih =>
    by_cases h : u < 10
    · rw [dec_small h]; simp only [val, List.foldl_cons, List.foldl_nil, toNat_of h]; omega
    · rw [dec_big h, val_snoc, ih (u / 10) (by omega), toNat_of (by omega)]; omega
theorem dec_ne (u : Nat) : Lib.decDigits u ≠ [] := fun h => by
  have h1 := Lib.decDigits_length u
  rw [h] at h1
  have := Lib.nDigits_pos u
  simp at h1
  omega
theorem dec_one {u : Nat} (h : Lib.decDigits u = [48]) : u = 0 := by
  have h1 := dec_val u
  rw [h] at h1
  simpa [val] using h1.symm
theorem dec_zero (u : Nat) : ∀ r, Lib.decDigits u = 48 :: r → r = [] := by
  induction u using Nat.strongRecOn with
  | _ u ih =>
    intro r hr
    by_cases h : u < 10
    · rw [dec_small h] at hr; exact (List.cons.inj hr).2.symm
    · rw [dec_big h] at hr
      cases hd : Lib.decDigits (u / 10) with
      | nil => exact absurd hd (dec_ne _)
      | cons a q =>
        rw [hd] at hr
        simp at hr
        obtain ⟨rfl, -⟩ := hr
        have hq := ih (u / 10) (by omega) q hd
        subst hq
        have := dec_one hd
        omega
theorem val_dec : ∀ l : List UInt8, (∀ c ∈ l, isD c = true) → l ≠ [] → (l.head? = some 48 → l.length = 1) → Lib.decDigits (val l) = l := by
  intro l
  refine rev_ind (P := fun l => (∀ c ∈ l, isD c = true) → l ≠ [] → (l.head? = some 48 → l.length = 1) → Lib.decDigits (val l) = l) (fun _ h => absurd rfl h) (fun l c ih h _ hh => ?_) l
  have hc := h c (by simp)
  have h2 := (isD_iff c).1 hc
  have hl : ∀ d ∈ l, isD d = true := fun d hd => h d (by simp [hd])
  by_cases he : l = []
  · subst he
    have hv : val ([] ++ [c]) = c.toNat - 48 := by simp [val]
    rw [hv, dec_small (by omega), digit_of hc]
    rfl
  · have hne : l.head? ≠ some 48 := fun e => by
      have h3 := hh (by rw [List.head?_append]; simp [e])
      rw [List.length_append, List.length_singleton] at h3
      exact he (List.length_eq_zero_iff.1 (by omega))
    have hg := val_ge l hl hne he
    have hp : 1 ≤ 10 ^ (l.length - 1) := Nat.one_le_pow _ _ (by decide)
    rw [dec_big (by rw [val_snoc]; omega)]
    rw [val_snoc, show (val l * 10 + (c.toNat - 48)) / 10 = val l by omega, show (val l * 10 + (c.toNat - 48)) % 10 = c.toNat - 48 by omega, ih hl he (fun e => absurd e hne), digit_of hc]
/-- a numeral -/
def canon (l : List UInt8) : Bool := !l.isEmpty && (decide (l.head? ≠ some 48) || decide (l.length = 1))
theorem canon_iff {l : List UInt8} (h : ∀ c ∈ l, isD c = true) : canon l = true ↔ Lib.decDigits (val l) = l := by
  constructor
  · intro hc
    simp [canon] at hc
    exact val_dec l h hc.1 (fun e => hc.2.resolve_left (fun g => g e))
  · intro hd
    have hne : l ≠ [] := fun e => dec_ne (val l) (by rw [hd, e])
    cases l with
    | nil => exact absurd rfl hne
    | cons a q =>
      by_cases ha : a = 48
      · subst ha
        have := dec_zero _ q hd
        subst this
        decide
      · simp [canon, ha]
theorem dec_canon (u : Nat) : canon (Lib.decDigits u) = true := (canon_iff (dec_digits u)).2 (by rw [dec_val])
theorem dec_len5 {u : Nat} (h : u < 100000) : (Lib.decDigits u).length ≤ 5 := by
  rcases Nat.lt_or_ge 5 (Lib.decDigits u).length with h' | h'
  · exfalso
    have hc := dec_canon u
    have hne : (Lib.decDigits u).head? ≠ some 48 := by
      simp [canon] at hc
      rcases hc.2 with h1 | h1
      · exact h1
      · omega
    have hg := val_ge _ (dec_digits u) hne (dec_ne u)
    rw [dec_val] at hg
    have : 10 ^ 5 ≤ 10 ^ ((Lib.decDigits u).length - 1) := Nat.pow_le_pow_right (by decide) (by omega)
    omega
  · exact h'

/-! the digits ahead -/
theorem take_nD : ∀ l : List UInt8, l.take (nD l) = l.takeWhile isD
  | [] => rfl
  | c :: l => by
    have ih := take_nD l
    by_cases h : isD c = true
    · simp only [nD, List.takeWhile_cons, h, if_true, List.length_cons, List.take_succ_cons] at ih ⊢
      rw [ih]
    · simp [nD, h]
theorem nD_digits (l : List UInt8) : ∀ c ∈ l.take (nD l), isD c = true := by
  rw [take_nD]
  intro c hc
  induction l with
  | nil => simp at hc
  | cons d l ih =>
    by_cases h : isD d = true
    · simp [h] at hc
      rcases hc with rfl | hc
      · exact h
      · exact ih hc
    · simp [h] at hc
theorem nD_le (l : List UInt8) : nD l ≤ l.length := by
  unfold nD
  induction l with
  | nil => simp
  | cons c l ih =>
    by_cases h : isD c = true
    · simp [h]; exact ih
    · simp [h]
/-- there are just k digits ahead -/
theorem nD_of : ∀ (l : List UInt8) (k : Nat), k ≤ l.length → (∀ i c, i < k → l[i]? = some c → isD c = true) → (∀ c, l[k]? = some c → isD c = false) → nD l = k
  | [], k, hk, _, _ => by simp at hk; simp [nD, hk]
  | d :: l, 0, _, _, h2 => by
    have := h2 d (by simp)
    simp [nD, this]
  | d :: l, k + 1, hk, h1, h2 => by
    have hd := h1 0 d (by omega) (by simp)
    have ih := nD_of l k (by simpa using hk) (fun i c hi hc => h1 (i + 1) c (by omega) (by simpa using hc)) (fun c hc => h2 c (by simpa using hc))
    simp [nD] at ih ⊢
    simp [hd, ih]
/-- there are at least k digits ahead -/
theorem nD_ge : ∀ (l : List UInt8) (k : Nat), k ≤ l.length → (∀ i c, i < k → l[i]? = some c → isD c = true) → k ≤ nD l
  | [], k, hk, _ => by simp at hk; simp [hk]
  | d :: l, 0, _, _ => Nat.zero_le _
  | d :: l, k + 1, hk, h1 => by
    have hd := h1 0 d (by omega) (by simp)
    have ih := nD_ge l k (by simpa using hk) (fun i c hi hc => h1 (i + 1) c (by omega) (by simpa using hc))
    simp [nD] at ih ⊢
    simp [hd, ih]

/-- the atom that bytes begin with, and how many bytes it has -/
def atomP (l : List UInt8) : Option (ByteArray × Nat) :=
  if nD l ≤ 5 ∧ canon (l.take (nD l)) = true ∧ l[nD l]? = some 58 ∧ val (l.take (nD l)) + nD l + 1 ≤ l.length then
    some (⟨((l.drop (nD l + 1)).take (val (l.take (nD l)))).toArray⟩, nD l + 1 + val (l.take (nD l)))
  else none
inductive Out
  | ok (t : T) (n : Nat)
  | bad (f : Int)
def atomO (l : List UInt8) : Out := match atomP l with
  | some (s, n) => .ok (.leaf s) n
  | none => .bad 5
def kidsP (f : List UInt8 → Out) : Nat → List UInt8 → List T → Nat → Out
  | 0, _, _, _ => .bad 5
  | _ + 1, [], _, _ => .bad 5
  | m + 1, c :: l, acc, u => if c = 41 then .ok (.list acc) (u + 1) else match f (c :: l) with
    | .bad e => .bad e
    | .ok t n => kidsP f m ((c :: l).drop n) (acc ++ [t]) (u + n)
def tk : Nat → List UInt8 → Out
  | 0 => fun l => match l with
    | [] => .bad 5
    | c :: _ => if c = 40 then .bad 4 else atomO l
  | h + 1 => fun l => match l with
    | [] => .bad 5
    | c :: r => if c = 40 then kidsP (tk h) (r.length + 1) r [] 1 else atomO l

/-! what is read has these bytes -/
theorem atom_enc {l : List UInt8} {s : ByteArray} {n : Nat} (h : atomP l = some (s, n)) : 1 ≤ n ∧ n ≤ l.length ∧ l.take n = enc (.leaf s) := by
  unfold atomP at h
  split at h
  · rename_i hc
    obtain ⟨h5, hcan, h58, hle⟩ := hc
    obtain ⟨rfl, rfl⟩ := by simpa using h
    have hd := (canon_iff (nD_digits l)).1 hcan
    generalize hk : nD l = k at *
    generalize hv : val (l.take k) = v at *
    refine ⟨by omega, by omega, ?_⟩
    have hlen : (l.drop (k + 1)).length = l.length - (k + 1) := List.length_drop
    have hsz : (⟨((l.drop (k + 1)).take v).toArray⟩ : ByteArray).size = v := by
      rw [size_mk, List.length_take, hlen]; omega
    simp only [enc]
    rw [hsz, Lib.itoa_nonneg, hd]
    have hkl : k < l.length := by omega
    have e1 : l = l.take k ++ (58 :: l.drop (k + 1)) := by
      rw [List.getElem?_eq_getElem hkl] at h58
      conv => lhs; rw [← List.take_append_drop k l, List.drop_eq_getElem_cons hkl, Option.some.inj h58]
    conv => lhs; rw [e1]
    rw [List.take_append, List.take_of_length_le (by rw [List.length_take]; omega), List.length_take, show k + 1 + v - min k l.length = v + 1 by omega]
    rfl
  · cases h
theorem atomO_ok {l : List UInt8} {t : T} {n : Nat} (h : atomO l = .ok t n) : ∃ s, t = .leaf s ∧ atomP l = some (s, n) := by
  unfold atomO at h
  split at h
  · rename_i s m he
    cases h
    exact ⟨s, rfl, he⟩
  · cases h
theorem take_add_drop (l : List UInt8) (a b : Nat) : l.take (a + b) = l.take a ++ (l.drop a).take b := List.take_add
theorem encs_app : ∀ (a b : List T), encs (a ++ b) = encs a ++ encs b
  | [], b => by simp [encs]
  | k :: a, b => by simp [encs, encs_app a b]
theorem kids_enc {f : List UInt8 → Out} (hf : ∀ l t n, f l = .ok t n → 1 ≤ n ∧ n ≤ l.length ∧ l.take n = enc t) : ∀ (m : Nat) (l : List UInt8) (acc : List T) (u : Nat) (t : T) (n : Nat), kidsP f m l acc u = .ok t n →
    ∃ ks k, t = .list (acc ++ ks) ∧ n = u + k ∧ 1 ≤ k ∧ k ≤ l.length ∧ l.take k = encs ks ++ [41]
  | 0, l, acc, u, t, n, h => by simp [kidsP] at h
  | m + 1, [], acc, u, t, n, h => by simp [kidsP] at h
  | m + 1, c :: l, acc, u, t, n, h => by
    rw [kidsP] at h
    by_cases hc : c = 41
    · rw [if_pos hc] at h
      cases h
      exact ⟨[], 1, by simp, rfl, by omega, by simp, by simp [encs, hc]⟩
    · rw [if_neg hc] at h
      cases hfl : f (c :: l) with
      | bad e => rw [hfl] at h; cases h
      | ok t1 n1 =>
        rw [hfl] at h
        obtain ⟨h1, h2, h3⟩ := hf _ _ _ hfl
        obtain ⟨ks, k, rfl, rfl, g1, g2, g3⟩ := kids_enc hf m _ _ _ _ _ h
        rw [List.length_drop] at g2
        refine ⟨t1 :: ks, n1 + k, by simp, by omega, by omega, by omega, ?_⟩
        rw [take_add_drop, h3, g3]
        simp [encs]
theorem tk_enc : ∀ (h : Nat) (l : List UInt8) (t : T) (n : Nat), tk h l = .ok t n → 1 ≤ n ∧ n ≤ l.length ∧ l.take n = enc t := by
  intro h
  induction h with
  | zero =>
    intro l t n ht
    cases l with
    | nil => simp [tk] at ht
    | cons c r =>
      simp only [tk] at ht
      split at ht
      · cases ht
      · obtain ⟨s, rfl, hs⟩ := atomO_ok ht
        exact atom_enc hs
  | succ h ih =>
    intro l t n ht
    cases l with
    | nil => simp [tk] at ht
    | cons c r =>
      simp only [tk] at ht
      split at ht
      · rename_i hc
        obtain ⟨ks, k, rfl, rfl, g1, g2, g3⟩ := kids_enc ih _ _ _ _ _ _ ht
        refine ⟨by omega, by simp; omega, ?_⟩
        rw [show 1 + k = k + 1 by omega, List.take_succ_cons, g3, hc]
        simp [enc]
      · obtain ⟨s, rfl, hs⟩ := atomO_ok ht
        exact atom_enc hs

/-! a tree is read from its bytes -/
theorem head_leaf (s : ByteArray) (r : List UInt8) : ∃ c q, enc (.leaf s) ++ r = c :: q ∧ isD c = true := by
  simp only [enc]
  rw [Lib.itoa_nonneg]
  cases hd : Lib.decDigits s.size with
  | nil => exact absurd hd (dec_ne _)
  | cons a q => exact ⟨a, q ++ 58 :: (s.data.toList ++ r), by simp, dec_digits s.size a (by rw [hd]; simp)⟩
theorem atom_back (s : ByteArray) (r : List UInt8) (h : s.size < 100000) : atomP (enc (.leaf s) ++ r) = some (s, (enc (.leaf s)).length) := by
  have hsz := Lib.size_eq s
  have he : enc (.leaf s) ++ r = Lib.decDigits s.size ++ (58 :: (s.data.toList ++ r)) := by
    simp only [enc]
    rw [Lib.itoa_nonneg]
    simp
  have hl : (enc (.leaf s)).length = (Lib.decDigits s.size).length + 1 + s.size := by
    simp only [enc]
    rw [Lib.itoa_nonneg]
    simp
    omega
  rw [he, hl]
  have hd := dec_digits s.size
  have hc := dec_canon s.size
  have hv := dec_val s.size
  have h5 := dec_len5 h
  generalize hD : Lib.decDigits s.size = D at *
  have hn : nD (D ++ (58 :: (s.data.toList ++ r))) = D.length := nD_of _ _ (by simp) (fun i c hi hg => by
    rw [List.getElem?_append_left hi] at hg
    exact hd c (List.mem_of_getElem? hg)) (fun c hg => by
    rw [List.getElem?_append_right (Nat.le_refl _)] at hg
    simp at hg
    subst hg
    decide)
  unfold atomP
  rw [hn, List.take_left, hv]
  rw [if_pos ⟨h5, hc, by rw [List.getElem?_append_right (Nat.le_refl _)]; simp, by simp; omega⟩]
  have e : (D ++ (58 :: (s.data.toList ++ r))).drop (D.length + 1) = s.data.toList ++ r := by
    rw [List.drop_append, List.drop_of_length_le (by omega), show D.length + 1 - D.length = 1 by omega]
    rfl
  rw [e, hsz, List.take_left]
mutual
def dp : T → Nat
  | .leaf _ => 0
  | .list ks => dps ks + 1
def dps : List T → Nat
  | [] => 0
  | k :: ks => max (dp k) (dps ks)
end
theorem dps_mem : ∀ {ks : List T} {k : T}, k ∈ ks → dp k ≤ dps ks
  | k :: ks, _, .head _ => by simp [dps]; omega
  | k :: ks, _, .tail _ h => by have := dps_mem h; simp [dps]; omega
theorem head_tree (t : T) (r : List UInt8) : ∃ c q, enc t ++ r = c :: q ∧ c ≠ 41 := by
  cases t with
  | leaf s =>
    obtain ⟨c, q, h1, h2⟩ := head_leaf s r
    refine ⟨c, q, h1, fun e => ?_⟩
    subst e
    simp [isD] at h2
  | list ks => exact ⟨40, encs ks ++ [41] ++ r, by simp [enc], by decide⟩
theorem kids_back {f : List UInt8 → Out} : ∀ (ks : List T) (m : Nat) (r : List UInt8) (acc : List T) (u : Nat), (∀ k ∈ ks, ∀ r', f (enc k ++ r') = .ok k (enc k).length) → (encs ks).length + 1 ≤ m →
    kidsP f m (encs ks ++ 41 :: r) acc u = .ok (.list (acc ++ ks)) (u + (encs ks).length + 1)
  | [], 0, r, acc, u, _, hm => by simp at hm
  | [], m + 1, r, acc, u, _, _ => by simp [encs, kidsP]
  | k :: ks, 0, r, acc, u, _, hm => by omega
  | k :: ks, m + 1, r, acc, u, hf, hm => by
    obtain ⟨c, q, h1, h2⟩ := head_tree k (encs ks ++ 41 :: r)
    have hk := hf k (by simp) (encs ks ++ 41 :: r)
    have hp := enc_pos k
    simp only [encs, List.length_append] at hm
    have ih := kids_back ks m r (acc ++ [k]) (u + (enc k).length) (fun k' hk' => hf k' (by simp [hk'])) (by omega)
    have e : encs (k :: ks) ++ 41 :: r = enc k ++ (encs ks ++ 41 :: r) := by simp [encs]
    rw [e]
    have hdrop : (enc k ++ (encs ks ++ 41 :: r)).drop (enc k).length = encs ks ++ 41 :: r := List.drop_left
    rw [h1] at hk hdrop ⊢
    rw [kidsP, if_neg h2, hk]
    dsimp only
    rw [hdrop, ih]
    simp [encs]
    omega
theorem enc_mem : ∀ {ks : List T} {k : T}, k ∈ ks → (enc k).length ≤ (encs ks).length
  | k :: ks, _, .head _ => by simp [encs]
  | k :: ks, _, .tail _ h => by have := enc_mem h; simp [encs]; omega
theorem tk_back : ∀ (h : Nat) (t : T) (r : List UInt8), dp t ≤ h → (enc t).length < 100000 → tk h (enc t ++ r) = .ok t (enc t).length := by
  intro h
  induction h with
  | zero =>
    intro t r hd hl
    cases t with
    | leaf s =>
      obtain ⟨c, q, h1, h2⟩ := head_leaf s r
      have ha := atom_back s r (by have := Lib.size_eq s; simp only [enc, List.length_append, List.length_cons] at hl; omega)
      have hc : c ≠ 40 := fun e => by subst e; simp [isD] at h2
      rw [h1] at ha ⊢
      simp [tk, hc, atomO, ha]
    | list ks => simp [dp] at hd
  | succ h ih =>
    intro t r hd hl
    cases t with
    | leaf s =>
      obtain ⟨c, q, h1, h2⟩ := head_leaf s r
      have ha := atom_back s r (by have := Lib.size_eq s; simp only [enc, List.length_append, List.length_cons] at hl; omega)
      have hc : c ≠ 40 := fun e => by subst e; simp [isD] at h2
      rw [h1] at ha ⊢
      simp [tk, hc, atomO, ha]
    | list ks =>
      have e : enc (.list ks) ++ r = 40 :: (encs ks ++ 41 :: r) := by simp [enc]
      have hlen := enc_list_len ks
      rw [e]
      simp only [tk, if_pos]
      rw [kids_back ks _ r [] 1 (fun k hk r' => ih k r' (by
        have := dps_mem hk
        simp only [dp] at hd
        omega) (by
        have := enc_mem hk
        omega)) (by simp)]
      simp [hlen]
      try omega
end Sx
end Go.Proofs.YtbhngjhfeejeiaaGreatDoor
