/-
  Counters of items, plainly: what each cell comes to, what is merged, lowered, counted. No program in sight.
-/
import Derived.Test.YtlehjbfhhikpiaaCmsN
namespace Go.Proofs.Ytlehjbfhhikpiaa
open Go.RowKit

def cap (n : Nat) : Nat := min n 18446744073709551615
theorem sat_toNat (x y : BitVec 64) : (sat x y).toNat = cap (x.toNat + y.toNat) := by
  unfold sat cap
  have hx := x.isLt
  have hy := y.isLt
  split
  · rw [BitVec.toNat_add]; omega
  · have e : (18446744073709551615#64).toNat = 18446744073709551615 := by decide
    rw [e]; omega
theorem cap_of_bv (x : BitVec 64) : cap x.toNat = x.toNat := by unfold cap; have := x.isLt; omega
theorem cap_add (a b : Nat) : cap (cap a + cap b) = cap (a + b) := by unfold cap; omega
theorem cap_mono {a b : Nat} (h : a ≤ b) : cap a ≤ cap b := by unfold cap; omega
/-- How often numbers of a kind came in all. -/
def tot (p : BitVec 64 → Bool) : List (BitVec 64 × BitVec 64) → Nat
  | [] => 0
  | q :: its => (if p q.1 then q.2.toNat else 0) + tot p its
theorem tot_append (p : BitVec 64 → Bool) : ∀ a b, tot p (a ++ b) = tot p a + tot p b
  | [], b => by simp [tot]
  | q :: a, b => by rw [List.cons_append, tot, tot, tot_append p a b]; omega
theorem tot_reverse (p : BitVec 64 → Bool) : ∀ a, tot p a.reverse = tot p a
  | [] => rfl
  | q :: a => by rw [List.reverse_cons, tot_append, tot_reverse p a, tot, tot, tot]; omega
theorem tot_mono {p q : BitVec 64 → Bool} (h : ∀ x, p x = true → q x = true) : ∀ a, tot p a ≤ tot q a
  | [] => Nat.le_refl _
  | x :: a => by
    have := tot_mono h a
    rw [tot, tot]
    cases hp : p x.1 with
    | true => rw [h _ hp]; simp; omega
    | false => simp; omega
theorem tot_split {p q r : BitVec 64 → Bool} (h : ∀ x, (if r x then 1 else 0) = (if p x then 1 else 0) + (if q x then 1 else 0)) : ∀ a, tot r a = tot p a + tot q a
  | [] => rfl
  | x :: a => by
    have h1 := tot_split h a
    have h2 := h x.1
    rw [tot, tot, tot, h1]
    cases hp : p x.1 <;> cases hq : q x.1 <;> cases hr : r x.1 <;> simp [hp, hq, hr] at h2 ⊢ <;> omega

/-- Counters of items, from others on. -/
def ofL (r k : Nat) (its : List (BitVec 64 × BitVec 64)) (l : List (BitVec 64)) : List (BitVec 64) := its.foldl (fun l q => addF r k q.1 q.2 l) l
theorem ofL_length (r k : Nat) : ∀ its l, (ofL r k its l).length = l.length
  | [], _ => rfl
  | q :: its, l => by
    show (ofL r k its (addF r k q.1 q.2 l)).length = _
    rw [ofL_length r k its]
    exact foldl_addAt_length _ _ _
theorem idx_inj {k i j i' j' : Nat} (hj : j < k) (hj' : j' < k) : i * k + j = i' * k + j' ↔ i = i' ∧ j = j' := by
  constructor
  · intro h
    have hd : (i * k + j) / k = (i' * k + j') / k := by rw [h]
    have hm : (i * k + j) % k = (i' * k + j') % k := by rw [h]
    rw [Nat.mul_comm i, Nat.mul_comm i', Nat.mul_add_div (by omega), Nat.mul_add_div (by omega), Nat.div_eq_of_lt hj, Nat.div_eq_of_lt hj'] at hd
    rw [Nat.mul_comm i, Nat.mul_comm i', Nat.mul_add_mod, Nat.mul_add_mod, Nat.mod_eq_of_lt hj, Nat.mod_eq_of_lt hj'] at hm
    exact ⟨by omega, hm⟩
  · rintro ⟨rfl, rfl⟩; rfl
theorem idx_lt {r k i j : Nat} (hi : i < r) (hj : j < k) : i * k + j < r * k := by
  have h1 : (i + 1) * k ≤ r * k := Nat.mul_le_mul_right _ hi
  rw [Nat.add_mul, Nat.one_mul] at h1
  omega
theorem nth_set (l : List (BitVec 64)) (a b : Nat) (v : BitVec 64) (hb : b < l.length) : nth (l.set a v) b = if a = b then v else nth l b := by
  unfold nth
  rw [List.getD_eq_getElem?_getD, List.getD_eq_getElem?_getD, List.getElem?_set]
  by_cases h : a = b
  · subst h; rw [if_pos rfl, if_pos rfl]; simp [hb]
  · rw [if_neg h, if_neg h]
theorem colF_lt {k i : Nat} (hk : 0 < k) (x : BitVec 64) : colF k i x < k := Nat.mod_lt _ hk
theorem nth_addAt (m : BitVec 64) (l : List (BitVec 64)) (a b : Nat) (hb : b < l.length) : nth (addAt m l a) b = if a = b then sat (nth l a) m else nth l b := nth_set _ _ _ _ hb
theorem nth_placesTo {k i j : Nat} (hj : j < k) (x m : BitVec 64) (l : List (BitVec 64)) (hl : i * k + j < l.length) :
    ∀ t, nth ((placesTo k x t).foldl (addAt m) l) (i * k + j) = if i < t ∧ colF k i x = j then sat (nth l (i * k + j)) m else nth l (i * k + j)
  | 0 => by simp [placesTo]
  | t + 1 => by
    rw [placesTo_succ, List.foldl_append]
    show nth (addAt m _ _) _ = _
    rw [nth_addAt _ _ _ _ (by rw [foldl_addAt_length]; exact hl)]
    have hc := colF_lt (i := t) (show 0 < k by omega) x
    have ih := nth_placesTo hj x m l hl t
    by_cases h : t * k + colF k t x = i * k + j
    · obtain ⟨rfl, rfl⟩ := (idx_inj hc hj).1 h
      rw [if_pos rfl, if_pos ⟨Nat.lt_succ_self _, rfl⟩, ih, if_neg (fun h => Nat.lt_irrefl _ h.1)]
    · rw [if_neg h, ih]
      by_cases h2 : i < t ∧ colF k i x = j
      · rw [if_pos h2, if_pos ⟨Nat.lt_succ_of_lt h2.1, h2.2⟩]
      · rw [if_neg h2, if_neg]
        rintro ⟨h3, h4⟩
        have : i ≠ t := fun e => h (by rw [← e, h4])
        exact h2 ⟨by omega, h4⟩
theorem nth_addF {r k i j : Nat} (hi : i < r) (hj : j < k) (x m : BitVec 64) (l : List (BitVec 64)) (hl : l.length = r * k) :
    nth (addF r k x m l) (i * k + j) = if colF k i x = j then sat (nth l (i * k + j)) m else nth l (i * k + j) := by
  unfold addF
  rw [nth_placesTo hj x m l (by rw [hl]; exact idx_lt hi hj) r]
  by_cases h : colF k i x = j
  · rw [if_pos ⟨hi, h⟩, if_pos h]
  · rw [if_neg (fun h2 => h h2.2), if_neg h]
/-- What a cell counts. -/
def isIn (k i j : Nat) (x : BitVec 64) : Bool := colF k i x == j
theorem nth_ofL {r k i j : Nat} (hi : i < r) (hj : j < k) : ∀ its (l : List (BitVec 64)), l.length = r * k →
    (nth (ofL r k its l) (i * k + j)).toNat = cap ((nth l (i * k + j)).toNat + tot (isIn k i j) its)
  | [], l, _ => by
    show (nth l _).toNat = _
    rw [tot, Nat.add_zero, cap_of_bv]
  | q :: its, l, hl => by
    show (nth (ofL r k its (addF r k q.1 q.2 l)) _).toNat = _
    rw [nth_ofL hi hj its (addF r k q.1 q.2 l) ((addF_length _ _ _ _ _).trans hl), nth_addF hi hj _ _ _ hl, tot]
    unfold isIn
    by_cases h : colF k i q.1 = j
    · rw [if_pos h, sat_toNat, if_pos (by simpa using h)]
      unfold cap; omega
    · rw [if_neg h, if_neg (by simpa using h)]
      unfold cap; omega
def zeros (n : Nat) : List (BitVec 64) := List.replicate n 0
theorem nth_zeros (n t : Nat) : nth (zeros n) t = 0 := by
  unfold nth zeros
  rw [List.getD_eq_getElem?_getD, List.getElem?_replicate]
  split <;> rfl
/-- The counters of items. -/
def ofZ (r k : Nat) (its : List (BitVec 64 × BitVec 64)) : List (BitVec 64) := ofL r k its (zeros (r * k))
theorem ofZ_length (r k : Nat) (its) : (ofZ r k its).length = r * k := by unfold ofZ; rw [ofL_length]; simp [zeros]
theorem nth_ofZ {r k i j : Nat} (hi : i < r) (hj : j < k) (its) : (nth (ofZ r k its) (i * k + j)).toNat = cap (tot (isIn k i j) its) := by
  unfold ofZ
  rw [nth_ofL hi hj its _ (by simp [zeros]), nth_zeros]
  have : (0 : BitVec 64).toNat = 0 := rfl
  rw [this, Nat.zero_add]
theorem cells_ext {r k : Nat} {l m : List (BitVec 64)} (hl : l.length = r * k) (hm : m.length = r * k) (h : ∀ i j, i < r → j < k → (nth l (i * k + j)).toNat = (nth m (i * k + j)).toNat) : l = m := by
  refine nth_ext (hl.trans hm.symm) fun t ht => ?_
  rw [hl] at ht
  have hk : 0 < k := by
    rcases Nat.eq_zero_or_pos k with rfl | h0
    · simp at ht
    · exact h0
  have e : t / k * k + t % k = t := by rw [Nat.mul_comm]; exact Nat.div_add_mod t k
  have h2 := h (t / k) (t % k) (Nat.div_lt_of_lt_mul (by rw [Nat.mul_comm]; exact ht)) (Nat.mod_lt _ hk)
  rw [e] at h2
  exact BitVec.eq_of_toNat_eq h2
theorem nth_append (a b : List (BitVec 64)) (t : Nat) : nth (a ++ b) t = if t < a.length then nth a t else nth b (t - a.length) := by
  unfold nth
  rw [List.getD_eq_getElem?_getD, List.getD_eq_getElem?_getD, List.getD_eq_getElem?_getD, List.getElem?_append]
  split <;> rfl
theorem nth_rowTo {k j : Nat} (hj : j < k) (pr : Nat → Nat → BitVec 64 × BitVec 64) (r : Nat) : nth (rowTo pr r k) j = sat (pr r j).1 (pr r j).2 := by
  unfold nth rowTo
  rw [List.getD_eq_getElem?_getD, List.getElem?_map, List.getElem?_range hj]
  rfl
theorem nth_joinTo {k i j : Nat} (hj : j < k) (pr : Nat → Nat → BitVec 64 × BitVec 64) : ∀ r, i < r → nth (joinTo k pr r) (i * k + j) = sat (pr i j).1 (pr i j).2
  | r + 1, hi => by
    rw [joinTo_succ, nth_append, joinTo_length]
    by_cases h : i < r
    · rw [if_pos (idx_lt h hj)]; exact nth_joinTo hj pr r h
    · obtain rfl : i = r := by omega
      rw [if_neg (by omega), Nat.add_sub_cancel_left]
      exact nth_rowTo hj pr i

theorem merge_ofZ (r k : Nat) (a b) : joinTo k (pairAt k (ofZ r k a) (ofZ r k b)) r = ofZ r k (a ++ b) :=
  cells_ext (joinTo_length _ _ _) (ofZ_length _ _ _) fun i j hi hj => by
    rw [nth_joinTo hj _ r hi, sat_toNat]
    show cap ((nth (ofZ r k a) (i * k + j)).toNat + (nth (ofZ r k b) (i * k + j)).toNat) = _
    rw [nth_ofZ hi hj, nth_ofZ hi hj, nth_ofZ hi hj, cap_add, tot_append]
theorem reverse_ofZ (r k : Nat) (a) : ofZ r k a.reverse = ofZ r k a :=
  cells_ext (ofZ_length _ _ _) (ofZ_length _ _ _) fun i j hi hj => by rw [nth_ofZ hi hj, nth_ofZ hi hj, tot_reverse]
theorem append_comm_ofZ (r k : Nat) (a b) : ofZ r k (a ++ b) = ofZ r k (b ++ a) :=
  cells_ext (ofZ_length _ _ _) (ofZ_length _ _ _) fun i j hi hj => by rw [nth_ofZ hi hj, nth_ofZ hi hj, tot_append, tot_append, Nat.add_comm]
theorem merge_zeros (r k : Nat) (l : List (BitVec 64)) (hl : l.length = r * k) : joinTo k (pairAt k (zeros (r * k)) l) r = l :=
  cells_ext (joinTo_length _ _ _) hl fun i j hi hj => by
    rw [nth_joinTo hj _ r hi, sat_toNat]
    show cap ((nth (zeros (r * k)) (i * k + j)).toNat + (nth l (i * k + j)).toNat) = _
    rw [nth_zeros]
    have : (0 : BitVec 64).toNat = 0 := rfl
    rw [this, Nat.zero_add, cap_of_bv]
theorem colF_half {h i : Nat} (x : BitVec 64) : colF h i x = colF (2 * h) i x % h := by
  unfold colF
  exact (Nat.mod_mul_left_mod _ 2 h).symm
theorem lower_ofZ (r h : Nat) (hh : 0 < h) (a) : joinTo h (lowPair (2 * h) (ofZ r (2 * h) a)) r = ofZ r h a :=
  cells_ext (joinTo_length _ _ _) (ofZ_length _ _ _) fun i j hi hj => by
    rw [nth_joinTo hj _ r hi, sat_toNat]
    unfold lowPair
    have e : 2 * h / 2 = h := by omega
    rw [e]
    show cap ((nth (ofZ r (2 * h) a) (i * (2 * h) + j)).toNat + (nth (ofZ r (2 * h) a) (i * (2 * h) + j + h)).toNat) = _
    rw [Nat.add_assoc, nth_ofZ hi (show j < 2 * h by omega), nth_ofZ hi (show j + h < 2 * h by omega), nth_ofZ hi hj, cap_add]
    congr 1
    refine (tot_split (fun x => ?_) a).symm
    unfold isIn
    have hc := colF_half (h := h) (i := i) x
    have hl := colF_lt (k := 2 * h) (i := i) (by omega) x
    obtain ⟨c, hce⟩ : ∃ c, colF (2 * h) i x = c := ⟨_, rfl⟩
    rw [hce] at hc hl
    rw [hc, hce]
    by_cases hch : c < h
    · rw [Nat.mod_eq_of_lt hch]
      by_cases e1 : c = j
      · have e2 : ¬ c = j + h := by omega
        simp [e1]; omega
      · have e2 : ¬ c = j + h := by omega
        simp [e1, e2]
    · have e3 : c % h = c - h := by rw [Nat.mod_eq_sub_mod (by omega), Nat.mod_eq_of_lt (by omega)]
      rw [e3]
      by_cases e1 : c = j + h
      · simp [e1]; omega
      · have e2 : ¬ c - h = j := by omega
        have e4 : ¬ c = j := by omega
        simp [e1, e2, e4]
/-- Counts. -/
theorem minB_toNat (x y : BitVec 64) : (minB x y).toNat = min x.toNat y.toNat := by
  unfold minB; split <;> omega
theorem count_fold (l : List (BitVec 64)) : ∀ (ps : List Nat) (v : BitVec 64) (n : Nat), n ≤ (ps.foldl (fun n i => minB n (nth l i)) v).toNat ↔ n ≤ v.toNat ∧ ∀ p ∈ ps, n ≤ (nth l p).toNat
  | [], v, n => by simp
  | p :: ps, v, n => by
    rw [List.foldl_cons, count_fold l ps, minB_toNat]
    constructor
    · rintro ⟨h1, h2⟩
      refine ⟨by omega, fun q hq => ?_⟩
      rcases List.mem_cons.1 hq with rfl | hq
      · omega
      · exact h2 q hq
    · rintro ⟨h1, h2⟩
      have := h2 p (List.mem_cons_self ..)
      exact ⟨by omega, fun q hq => h2 q (List.mem_cons_of_mem _ hq)⟩
theorem le_countF {r k : Nat} {x : BitVec 64} {l : List (BitVec 64)} {n : Nat} (hn : n ≤ 18446744073709551615) : n ≤ (countF r k x l).toNat ↔ ∀ i, i < r → n ≤ (nth l (i * k + colF k i x)).toNat := by
  unfold countF
  rw [count_fold]
  have e : (18446744073709551615#64).toNat = 18446744073709551615 := by decide
  rw [e]
  constructor
  · rintro ⟨_, h⟩ i hi
    exact h _ (List.mem_map.2 ⟨i, List.mem_range.2 hi, rfl⟩)
  · intro h
    refine ⟨hn, fun p hp => ?_⟩
    obtain ⟨i, hi, rfl⟩ := List.mem_map.1 hp
    exact h i (List.mem_range.1 hi)
theorem countF_le {r k i : Nat} {x : BitVec 64} {l : List (BitVec 64)} (hi : i < r) : (countF r k x l).toNat ≤ (nth l (i * k + colF k i x)).toNat :=
  (le_countF (by have := (countF r k x l).isLt; omega)).1 (Nat.le_refl _) i hi
theorem count_twice {r k : Nat} (hk : 0 < k) (x : BitVec 64) (l : List (BitVec 64)) : countF r k x (joinTo k (pairAt k l l) r) = sat (countF r k x l) (countF r k x l) := by
  apply BitVec.eq_of_toNat_eq
  apply Nat.le_antisymm
  · rw [sat_toNat]
    obtain ⟨c, hc⟩ : ∃ c, (countF r k x (joinTo k (pairAt k l l) r)).toNat = c := ⟨_, rfl⟩
    rw [hc]
    have hcl : c ≤ 18446744073709551615 := by rw [← hc]; have := (countF r k x (joinTo k (pairAt k l l) r)).isLt; omega
    have h1 : ∀ i, i < r → (c + 1) / 2 ≤ (nth l (i * k + colF k i x)).toNat := fun i hi => by
      have h := countF_le (x := x) (l := joinTo k (pairAt k l l) r) (k := k) hi
      rw [hc, nth_joinTo (colF_lt hk x) _ r hi, sat_toNat] at h
      change c ≤ cap ((nth l (i * k + colF k i x)).toNat + (nth l (i * k + colF k i x)).toNat) at h
      unfold cap at h
      omega
    have h2 := (le_countF (k := k) (x := x) (l := l) (r := r) (n := (c + 1) / 2) (by omega)).2 h1
    unfold cap
    omega
  · refine (le_countF (by have := (sat (countF r k x l) (countF r k x l)).isLt; omega)).2 fun i hi => ?_
    rw [nth_joinTo (colF_lt hk x) _ r hi, sat_toNat, sat_toNat]
    have := countF_le (x := x) (l := l) (k := k) hi
    refine cap_mono ?_
    show _ ≤ (nth l (i * k + colF k i x)).toNat + (nth l (i * k + colF k i x)).toNat
    omega
/-- A count is at least as often as the number came, at most as often as all did; lowered counters count no less. -/
theorem own_le (r k : Nat) (x : BitVec 64) (hk : 0 < k) (a) : cap (tot (fun y => y == x) a) ≤ (countF r k x (ofZ r k a)).toNat := by
  refine (le_countF (by unfold cap; omega)).2 fun i hi => ?_
  rw [nth_ofZ hi (colF_lt hk x)]
  refine cap_mono (tot_mono (fun y hy => ?_) a)
  obtain rfl : y = x := by simpa using hy
  simp [isIn]
theorem le_all (r k : Nat) (hr : 0 < r) (hk : 0 < k) (x : BitVec 64) (a) : (countF r k x (ofZ r k a)).toNat ≤ cap (tot (fun _ => true) a) := by
  refine Nat.le_trans (countF_le (i := 0) hr) ?_
  rw [nth_ofZ hr (colF_lt hk x)]
  exact cap_mono (tot_mono (fun _ _ => rfl) a)
theorem le_lower (r h : Nat) (hh : 0 < h) (x : BitVec 64) (a) : (countF r (2 * h) x (ofZ r (2 * h) a)).toNat ≤ (countF r h x (ofZ r h a)).toNat := by
  refine (le_countF (by have := (countF r (2 * h) x (ofZ r (2 * h) a)).isLt; omega)).2 fun i hi => ?_
  refine Nat.le_trans (countF_le hi) ?_
  rw [nth_ofZ hi (colF_lt (by omega) x), nth_ofZ hi (colF_lt hh x)]
  refine cap_mono (tot_mono (fun y hy => ?_) a)
  unfold isIn at *
  rw [colF_half, colF_half (h := h)]
  rw [beq_iff_eq] at hy ⊢
  rw [hy]
end Go.Proofs.Ytlehjbfhhikpiaa
