/-
  Plain laws of numbers' bytes: their order, their lengths, what is read of them. No walk in sight.
-/
import Derived.Test.YtbibnfchmffhaaaDoorFldL
namespace Go.Proofs.YtbibnfchmffhaaaDoor
open Go.RowKit Go.Lib

theorem shr_ne (n : BitVec 64) (j : Nat) : (n >>> j ≠ 0#64) ↔ 2 ^ j ≤ n.toNat := by
  rw [ne_eq, BitVec.toNat_eq, BitVec.toNat_ushiftRight, Nat.shiftRight_eq_div_pow]
  show ¬ n.toNat / 2 ^ j = 0 ↔ _
  rw [Nat.div_eq_zero_iff]
  have : 0 < 2 ^ j := Nat.two_pow_pos j
  omega
theorem longSize_cases (n : BitVec 64) : (longSize n = 3 ∧ n.toNat < 16777216) ∨ (longSize n = 4 ∧ 16777216 ≤ n.toNat ∧ n.toNat < 4294967296) ∨ (longSize n = 5 ∧ 4294967296 ≤ n.toNat ∧ n.toNat < 1099511627776) ∨
    (longSize n = 6 ∧ 1099511627776 ≤ n.toNat ∧ n.toNat < 281474976710656) ∨ (longSize n = 7 ∧ 281474976710656 ≤ n.toNat ∧ n.toNat < 72057594037927936) ∨ (longSize n = 8 ∧ 72057594037927936 ≤ n.toNat) := by
  unfold longSize
  simp only [longGo, shr_ne]
  have e3 : 2 ^ (8 * 3) = 16777216 := rfl
  have e4 : 2 ^ (8 * (3 + 1)) = 4294967296 := rfl
  have e5 : 2 ^ (8 * (3 + 1 + 1)) = 1099511627776 := rfl
  have e6 : 2 ^ (8 * (3 + 1 + 1 + 1)) = 281474976710656 := rfl
  have e7 : 2 ^ (8 * (3 + 1 + 1 + 1 + 1)) = 72057594037927936 := rfl
  rw [e3, e4, e5, e6, e7]
  (repeat' split) <;> omega

/-- Numbers, compared. -/
def cmpN (a b : Nat) : Int := if a < b then -1 else if b < a then 1 else 0
theorem cmpN_lt {a b : Nat} (h : a < b) : cmpN a b = -1 := if_pos h
theorem byte8_nat (n : BitVec 64) (k : Nat) : (byte8 n k).toNat = n.toNat / 256 ^ k % 256 := by
  unfold byte8
  rw [UInt8.toNat_ofNat', Nat.pow_mul]
theorem cmp_digits (P a b c d : Nat) (hc : c < P) (hd : d < P) : cmpN (c + P * a) (d + P * b) = if a < b then -1 else if b < a then 1 else cmpN c d := by
  unfold cmpN
  by_cases h1 : a < b
  · have h := Nat.mul_le_mul_left P (show a + 1 ≤ b from h1)
    rw [Nat.mul_add] at h
    rw [if_pos h1, if_pos (by omega)]
  · rw [if_neg h1]
    by_cases h2 : b < a
    · have h := Nat.mul_le_mul_left P (show b + 1 ≤ a from h2)
      rw [Nat.mul_add] at h
      rw [if_pos h2, if_neg (by omega), if_pos (by omega)]
    · rw [if_neg h2]
      obtain rfl : a = b := by omega
      (repeat' split) <;> omega
theorem cmp_beGo (n m : BitVec 64) : ∀ k, compareBytes (beGo n k) (beGo m k) = cmpN (n.toNat % 256 ^ k) (m.toNat % 256 ^ k)
  | 0 => by simp [beGo, compareBytes, cmpN, Nat.mod_one]
  | k + 1 => by
    have hp : 0 < 256 ^ k := Nat.pow_pos (by omega)
    rw [beGo, beGo, compareBytes, cmp_beGo n m k, Nat.pow_succ, Nat.mod_mul, Nat.mod_mul, cmp_digits _ _ _ _ _ (Nat.mod_lt _ hp) (Nat.mod_lt _ hp)]
    have e1 : (byte8 n k < byte8 m k) ↔ (n.toNat / 256 ^ k % 256 < m.toNat / 256 ^ k % 256) := by rw [UInt8.lt_iff_toNat_lt, byte8_nat, byte8_nat]
    have e2 : (byte8 m k < byte8 n k) ↔ (m.toNat / 256 ^ k % 256 < n.toNat / 256 ^ k % 256) := by rw [UInt8.lt_iff_toNat_lt, byte8_nat, byte8_nat]
    simp only [e1, e2]

theorem cmp_swap : ∀ a b : List UInt8, compareBytes a b = - compareBytes b a
  | [], [] => rfl
  | [], _ :: _ => rfl
  | _ :: _, [] => rfl
  | x :: a, y :: b => by
    rw [compareBytes, compareBytes, cmp_swap a b]
    by_cases h1 : x < y
    · rw [if_pos h1, if_neg (by intro h; exact absurd h1 (UInt8.lt_asymm h)), if_pos h1]
    · by_cases h2 : y < x
      · rw [if_neg h1, if_pos h2, if_pos h2]; rfl
      · rw [if_neg h1, if_neg h2, if_neg h2, if_neg h1]
theorem cmp_self : ∀ a : List UInt8, compareBytes a a = 0
  | [] => rfl
  | x :: a => by rw [compareBytes, if_neg (UInt8.lt_irrefl x), if_neg (UInt8.lt_irrefl x), cmp_self a]
theorem cmp_range : ∀ a b : List UInt8, compareBytes a b = -1 ∨ compareBytes a b = 0 ∨ compareBytes a b = 1
  | [], [] => .inr (.inl rfl)
  | [], _ :: _ => .inl rfl
  | _ :: _, [] => .inr (.inr rfl)
  | x :: a, y :: b => by
    rw [compareBytes]
    split
    · exact .inl rfl
    · split
      · exact .inr (.inr rfl)
      · exact cmp_range a b
theorem cmp_eq0 : ∀ a b : List UInt8, compareBytes a b = 0 → a = b
  | [], [], _ => rfl
  | [], _ :: _, h => by simp [compareBytes] at h
  | _ :: _, [], h => by simp [compareBytes] at h
  | x :: a, y :: b, h => by
    rw [compareBytes] at h
    by_cases h1 : x < y
    · rw [if_pos h1] at h; omega
    · rw [if_neg h1] at h
      by_cases h2 : y < x
      · rw [if_pos h2] at h; omega
      · rw [if_neg h2] at h
        rw [cmp_eq0 a b h]
        have e : x = y := by
          apply UInt8.toNat_inj.1
          rw [UInt8.lt_iff_toNat_lt] at h1 h2
          omega
        rw [e]
theorem cmp_trans : ∀ a b c : List UInt8, compareBytes a b < 0 → compareBytes b c < 0 → compareBytes a c < 0
  | [], [], _, h, _ => by simp [compareBytes] at h
  | [], _ :: _, [], _, h => by simp [compareBytes] at h
  | [], _ :: _, _ :: _, _, _ => by simp [compareBytes]
  | _ :: _, [], _, h, _ => by simp [compareBytes] at h
  | _ :: _, _ :: _, [], _, h => by simp [compareBytes] at h
  | x :: a, y :: b, z :: c, h1, h2 => by
    rw [compareBytes] at h1 h2 ⊢
    simp only [UInt8.lt_iff_toNat_lt] at *
    by_cases k1 : x.toNat < y.toNat
    · by_cases k2 : y.toNat < z.toNat
      · rw [if_pos (by omega)]; omega
      · rw [if_neg k2] at h2
        by_cases k3 : z.toNat < y.toNat
        · rw [if_pos k3] at h2; omega
        · rw [if_pos (by omega)]; omega
    · rw [if_neg k1] at h1
      by_cases k4 : y.toNat < x.toNat
      · rw [if_pos k4] at h1; omega
      · rw [if_neg k4] at h1
        by_cases k2 : y.toNat < z.toNat
        · rw [if_pos (by omega)]; omega
        · rw [if_neg k2] at h2
          by_cases k3 : z.toNat < y.toNat
          · rw [if_pos k3] at h2; omega
          · rw [if_neg k3] at h2
            rw [if_neg (by omega), if_neg (by omega)]
            exact cmp_trans a b c h1 h2
theorem cmp_append : ∀ a c : List UInt8, compareBytes a (a ++ c) ≤ 0
  | [], [] => by simp [compareBytes]
  | [], _ :: _ => by simp [compareBytes]
  | x :: a, c => by
    rw [List.cons_append, compareBytes, if_neg (UInt8.lt_irrefl x), if_neg (UInt8.lt_irrefl x)]
    exact cmp_append a c

theorem cmp_head {f g : Nat} (hg : g < 256) (h : f < g) (m m' : BitVec 64) (k k' : Nat) : compareBytes (putL (UInt8.ofNat f) m k) (putL (UInt8.ofNat g) m' k') = -1 := by
  unfold putL
  rw [compareBytes, if_pos]
  rw [UInt8.lt_iff_toNat_lt, UInt8.toNat_ofNat', UInt8.toNat_ofNat']
  omega
theorem cmp_tail (f : UInt8) (m m' : BitVec 64) (k : Nat) : compareBytes (putL f m k) (putL f m' k) = cmpN (m.toNat % 256 ^ k) (m'.toNat % 256 ^ k) := by
  unfold putL
  rw [compareBytes, if_neg (UInt8.lt_irrefl f), if_neg (UInt8.lt_irrefl f), cmp_beGo]
theorem sub_nat (n : BitVec 64) (k : Nat) (hk : k < 18446744073709551616) (h : k ≤ n.toNat) : (n - BitVec.ofNat 64 k).toNat = n.toNat - k := by
  rw [BitVec.toNat_sub, BitVec.toNat_ofNat]
  have := n.isLt
  omega
/-- How a number's bytes are made, by its class: the first byte, what is behind it, how many bytes. -/
theorem putF_shape (n : BitVec 64) : ∃ f k : Nat, ∃ m : BitVec 64, putF n = putL (UInt8.ofNat f) m k ∧ f < 256 ∧ k = szOf f ∧ k ≤ 8 ∧
    (n.toNat : Int) = ((m.toNat % 256 ^ k : Nat) : Int) + ((baseOf f).toNat : Int) ∧
    ((k = 0 ∧ f = n.toNat ∧ n.toNat ≤ 240) ∨ (k = 1 ∧ f = 241 + (n.toNat - 240) / 256 ∧ 240 < n.toNat ∧ n.toNat ≤ 2287) ∨ (k = 2 ∧ f = 249 ∧ 2287 < n.toNat ∧ n.toNat ≤ 67823) ∨
      (f = 247 + k ∧ k = longSize n ∧ 67823 < n.toNat)) := by
  by_cases h1 : n.toNat ≤ 240
  · have hb : (baseOf n.toNat).toNat = n.toNat := by
      unfold baseOf
      rw [if_neg (by omega), if_neg (by omega), if_neg (by omega), BitVec.toNat_ofNat]
      omega
    refine ⟨n.toNat, 0, 0#64, by unfold putF; rw [if_pos h1], by omega, by unfold szOf; rw [if_neg (by omega), if_neg (by omega), if_neg (by omega)], by omega, ?_, .inl ⟨rfl, rfl, h1⟩⟩
    rw [hb, Nat.pow_zero, Nat.mod_one]; omega
  by_cases h2 : n.toNat ≤ 2287
  · have hm := sub_nat n 240 (by omega) (by omega)
    have hb : (baseOf (241 + (n.toNat - 240) / 256)).toNat = 240 + (n.toNat - 240) / 256 * 256 := by
      unfold baseOf
      rw [if_neg (by omega), if_neg (by omega), if_pos (by omega), BitVec.toNat_ofNat]
      omega
    refine ⟨241 + (n.toNat - 240) / 256, 1, n - 240#64, by unfold putF; rw [if_neg h1, if_pos h2], by omega, by unfold szOf; rw [if_neg (by omega), if_neg (by omega), if_pos (by omega)], by omega, ?_, .inr (.inl ⟨rfl, rfl, by omega, h2⟩)⟩
    rw [hb, hm, Nat.pow_one]; omega
  by_cases h3 : n.toNat ≤ 67823
  · have hm0 := sub_nat n 2287 (by omega) (by omega)
    have hm : (n - 2287#64 - 1#64).toNat = n.toNat - 2288 := by
      have h := sub_nat (n - 2287#64) 1 (by omega) (by omega)
      rw [hm0] at h
      rw [h]
      omega
    have hb : (baseOf 249).toNat = 2288 := rfl
    refine ⟨249, 2, n - 2287#64 - 1#64, by unfold putF; rw [if_neg h1, if_neg h2, if_pos h3], by omega, rfl, by omega, ?_, .inr (.inr (.inl ⟨rfl, rfl, by omega, h3⟩))⟩
    have e : 256 ^ 2 = 65536 := rfl
    rw [hb, hm, e]; omega
  · have hl := longSize_cases n
    have hb : (baseOf (247 + longSize n)).toNat = 0 := by
      unfold baseOf
      rw [if_pos (by omega)]
      rfl
    have hlt : n.toNat < 256 ^ longSize n := by
      have e3 : 256 ^ 3 = 16777216 := rfl
      have e4 : 256 ^ 4 = 4294967296 := rfl
      have e5 : 256 ^ 5 = 1099511627776 := rfl
      have e6 : 256 ^ 6 = 281474976710656 := rfl
      have e7 : 256 ^ 7 = 72057594037927936 := rfl
      have e8 : 256 ^ 8 = 18446744073709551616 := rfl
      have hn := n.isLt
      rcases hl with ⟨h, k⟩ | ⟨h, k⟩ | ⟨h, k⟩ | ⟨h, k⟩ | ⟨h, k⟩ | ⟨h, k⟩ <;> rw [h] <;> omega
    refine ⟨247 + longSize n, longSize n, n, by unfold putF; rw [if_neg h1, if_neg h2, if_neg h3], by omega, by unfold szOf; rw [if_pos (by omega)]; omega, by omega, ?_, .inr (.inr (.inr ⟨rfl, rfl, by omega⟩))⟩
    rw [hb, Nat.mod_eq_of_lt hlt]; omega

theorem putF_lt (n m : BitVec 64) (h : n.toNat < m.toNat) : compareBytes (putF n) (putF m) = -1 := by
  obtain ⟨f, k, a, hf, hf2, hk, hk8, hn, hc⟩ := putF_shape n
  obtain ⟨g, j, b, hg, hg2, hj, hj8, hm, hd⟩ := putF_shape m
  have l1 := longSize_cases n
  have l2 := longSize_cases m
  rw [hf, hg]
  by_cases hfg : f < g
  · exact cmp_head hg2 hfg _ _ _ _
  · have hfg2 : f = g := by omega
    subst hfg2
    have hkj : k = j := by omega
    subst hkj
    rw [cmp_tail]
    exact cmpN_lt (by omega)
theorem putF_order (n m : BitVec 64) : compareBytes (putF n) (putF m) = if n.toNat < m.toNat then -1 else if m.toNat < n.toNat then 1 else 0 := by
  split
  · exact putF_lt n m ‹_›
  · split
    · rw [cmp_swap, putF_lt m n ‹_›]; rfl
    · have e : n = m := BitVec.eq_of_toNat_eq (by omega)
      rw [e, cmp_self]
theorem putF_length (n : BitVec 64) : (putF n).length = 1 + szOf ((putF n).headD 0).toNat := by
  obtain ⟨f, k, a, hf, hf2, hk, hk8, hn, hc⟩ := putF_shape n
  rw [hf]
  unfold putL
  rw [List.length_cons, beGo_length, List.headD_cons, UInt8.toNat_ofNat', Nat.mod_eq_of_lt (by omega), hk]
  omega
theorem putF_mono (n m : BitVec 64) (h : n.toNat ≤ m.toNat) : (putF n).length ≤ (putF m).length := by
  obtain ⟨f, k, a, hf, hf2, hk, hk8, hn, hc⟩ := putF_shape n
  obtain ⟨g, j, b, hg, hg2, hj, hj8, hm, hd⟩ := putF_shape m
  have l1 := longSize_cases n
  have l2 := longSize_cases m
  rw [hf, hg]
  unfold putL
  rw [List.length_cons, beGo_length, List.length_cons, beGo_length]
  omega
end Go.Proofs.YtbibnfchmffhaaaDoor
