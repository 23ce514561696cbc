/-
  Plain laws of numbers' bytes: how they are made, how many there are. No walk in sight.
-/
import Derived.Test.YtpekedldoplmmaaDoorFldN
namespace Go.Proofs.YtpekedldoplmmaaDoor
open Go.RowKit

theorem shr_ne (n : BitVec 64) (j : Nat) : (n >>> j ≠ 0#64) ↔ 2 ^ j ≤ n.toNat := by
  rw [ne_eq, BitVec.toNat_eq, BitVec.toNat_ushiftRight, Nat.shiftRight_eq_div_pow]
  show ¬ n.toNat / 2 ^ j = 0 ↔ _
  rw [Nat.div_eq_zero_iff]
  have : 0 < 2 ^ j := Nat.two_pow_pos j
  omega
theorem longSize_cases (n : BitVec 64) : (longSize n = 3 ∧ n.toNat < 16777216) ∨ (longSize n = 4 ∧ 16777216 ≤ n.toNat ∧ n.toNat < 4294967296) ∨ (longSize n = 5 ∧ 4294967296 ≤ n.toNat ∧ n.toNat < 1099511627776) ∨
    (longSize n = 6 ∧ 1099511627776 ≤ n.toNat ∧ n.toNat < 281474976710656) ∨ (longSize n = 7 ∧ 281474976710656 ≤ n.toNat ∧ n.toNat < 72057594037927936) ∨ (longSize n = 8 ∧ 72057594037927936 ≤ n.toNat) := by
  unfold longSize
  simp only [longGo, shr_ne]
  have e3 : 2 ^ (8 * 3) = 16777216 := rfl
  have e4 : 2 ^ (8 * (3 + 1)) = 4294967296 := rfl
  have e5 : 2 ^ (8 * (3 + 1 + 1)) = 1099511627776 := rfl
  have e6 : 2 ^ (8 * (3 + 1 + 1 + 1)) = 281474976710656 := rfl
  have e7 : 2 ^ (8 * (3 + 1 + 1 + 1 + 1)) = 72057594037927936 := rfl
  rw [e3, e4, e5, e6, e7]
  (repeat' split) <;> omega

theorem byte8_nat (n : BitVec 64) (k : Nat) : (byte8 n k).toNat = n.toNat / 256 ^ k % 256 := by
  unfold byte8
  rw [UInt8.toNat_ofNat', Nat.pow_mul]
theorem sub_nat (n : BitVec 64) (k : Nat) (hk : k < 18446744073709551616) (h : k ≤ n.toNat) : (n - BitVec.ofNat 64 k).toNat = n.toNat - k := by
  rw [BitVec.toNat_sub, BitVec.toNat_ofNat]
  have := n.isLt
  omega
/-- How a number's bytes are made, by its class: the first byte, what is behind it, how many bytes. -/
theorem putF_shape (n : BitVec 64) : ∃ f k : Nat, ∃ m : BitVec 64, putF n = putL (UInt8.ofNat f) m k ∧ f < 256 ∧ k = szOf f ∧ k ≤ 8 ∧
    (n.toNat : Int) = ((m.toNat % 256 ^ k : Nat) : Int) + ((baseOf f).toNat : Int) ∧
    ((k = 0 ∧ f = n.toNat ∧ n.toNat ≤ 240) ∨ (k = 1 ∧ f = 241 + (n.toNat - 240) / 256 ∧ 240 < n.toNat ∧ n.toNat ≤ 2287) ∨ (k = 2 ∧ f = 249 ∧ 2287 < n.toNat ∧ n.toNat ≤ 67823) ∨
      (f = 247 + k ∧ k = longSize n ∧ 67823 < n.toNat)) := by
  by_cases h1 : n.toNat ≤ 240
  · have hb : (baseOf n.toNat).toNat = n.toNat := by
      unfold baseOf
      rw [if_neg (by omega), if_neg (by omega), if_neg (by omega), BitVec.toNat_ofNat]
      omega
    refine ⟨n.toNat, 0, 0#64, by unfold putF; rw [if_pos h1], by omega, by unfold szOf; rw [if_neg (by omega), if_neg (by omega), if_neg (by omega)], by omega, ?_, .inl ⟨rfl, rfl, h1⟩⟩
    rw [hb, Nat.pow_zero, Nat.mod_one]; omega
  by_cases h2 : n.toNat ≤ 2287
  · have hm := sub_nat n 240 (by omega) (by omega)
    have hb : (baseOf (241 + (n.toNat - 240) / 256)).toNat = 240 + (n.toNat - 240) / 256 * 256 := by
      unfold baseOf
      rw [if_neg (by omega), if_neg (by omega), if_pos (by omega), BitVec.toNat_ofNat]
      omega
    refine ⟨241 + (n.toNat - 240) / 256, 1, n - 240#64, by unfold putF; rw [if_neg h1, if_pos h2], by omega, by unfold szOf; rw [if_neg (by omega), if_neg (by omega), if_pos (by omega)], by omega, ?_, .inr (.inl ⟨rfl, rfl, by omega, h2⟩)⟩
    rw [hb, hm, Nat.pow_one]; omega
  by_cases h3 : n.toNat ≤ 67823
  · have hm0 := sub_nat n 2287 (by omega) (by omega)
    have hm : (n - 2287#64 - 1#64).toNat = n.toNat - 2288 := by
      have h := sub_nat (n - 2287#64) 1 (by omega) (by omega)
      rw [hm0] at h
      rw [h]
      omega
    have hb : (baseOf 249).toNat = 2288 := rfl
    refine ⟨249, 2, n - 2287#64 - 1#64, by unfold putF; rw [if_neg h1, if_neg h2, if_pos h3], by omega, rfl, by omega, ?_, .inr (.inr (.inl ⟨rfl, rfl, by omega, h3⟩))⟩
    have e : 256 ^ 2 = 65536 := rfl
    rw [hb, hm, e]; omega
  · have hl := longSize_cases n
    have hb : (baseOf (247 + longSize n)).toNat = 0 := by
      unfold baseOf
      rw [if_pos (by omega)]
      rfl
    have hlt : n.toNat < 256 ^ longSize n := by
      have e3 : 256 ^ 3 = 16777216 := rfl
      have e4 : 256 ^ 4 = 4294967296 := rfl
      have e5 : 256 ^ 5 = 1099511627776 := rfl
      have e6 : 256 ^ 6 = 281474976710656 := rfl
      have e7 : 256 ^ 7 = 72057594037927936 := rfl
      have e8 : 256 ^ 8 = 18446744073709551616 := rfl
      have hn := n.isLt
      rcases hl with ⟨h, k⟩ | ⟨h, k⟩ | ⟨h, k⟩ | ⟨h, k⟩ | ⟨h, k⟩ | ⟨h, k⟩ <;> rw [h] <;> omega
    refine ⟨247 + longSize n, longSize n, n, by unfold putF; rw [if_neg h1, if_neg h2, if_neg h3], by omega, by unfold szOf; rw [if_pos (by omega)]; omega, by omega, ?_, .inr (.inr (.inr ⟨rfl, rfl, by omega⟩))⟩
    rw [hb, Nat.mod_eq_of_lt hlt]; omega

theorem putF_length (n : BitVec 64) : (putF n).length = 1 + szOf ((putF n).headD 0).toNat := by
  obtain ⟨f, k, a, hf, hf2, hk, hk8, hn, hc⟩ := putF_shape n
  rw [hf]
  unfold putL
  rw [List.length_cons, beGo_length, List.headD_cons, UInt8.toNat_ofNat', Nat.mod_eq_of_lt (by omega), hk]
  omega
theorem putF_mono (n m : BitVec 64) (h : n.toNat ≤ m.toNat) : (putF n).length ≤ (putF m).length := by
  obtain ⟨f, k, a, hf, hf2, hk, hk8, hn, hc⟩ := putF_shape n
  obtain ⟨g, j, b, hg, hg2, hj, hj8, hm, hd⟩ := putF_shape m
  have l1 := longSize_cases n
  have l2 := longSize_cases m
  rw [hf, hg]
  unfold putL
  rw [List.length_cons, beGo_length, List.length_cons, beGo_length]
  omega
end Go.Proofs.YtpekedldoplmmaaDoor
