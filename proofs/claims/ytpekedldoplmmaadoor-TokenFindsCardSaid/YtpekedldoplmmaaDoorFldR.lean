/-
  Plain laws of numbers' bytes: they are read back, whatever stands behind; fewer ask for more. No walk in sight.
-/
import Derived.Test.YtpekedldoplmmaaDoorFldQ0
import Derived.Test.YtpekedldoplmmaaDoorFldK
namespace Go.Proofs.YtpekedldoplmmaaDoor
open Go.RowKit

theorem beGo_get (m : BitVec 64) : ∀ k j, j < k → (beGo m k)[j]? = some (byte8 m (k - 1 - j))
  | 0, _, h => absurd h (by omega)
  | k + 1, 0, _ => by simp [beGo]
  | k + 1, j + 1, h => by
    rw [beGo, List.getElem?_cons_succ, beGo_get m k j (by omega)]
    congr 2
    omega
theorem byteOf_nat (s : ByteArray) (k : Nat) (x : UInt8) (h : s.data.toList[k]? = some x) : (byteOf s k).toNat = x.toNat := by
  unfold byteOf
  rw [List.getD_eq_getElem?_getD, h, BitVec.toNat_ofNat]
  have := x.toNat_lt
  rw [Option.getD_some]
  omega
theorem digit_step (M P : Nat) : 256 * (M / (P * 256)) + M / P % 256 = M / P := by
  rw [← Nat.div_div_eq_div_mul]
  omega
theorem takeN_val (t : ByteArray) (m : BitVec 64) (k : Nat) (hk : k ≤ 8) (h : ∀ j, j < k → (byteOf t j).toNat = (byte8 m (k - 1 - j)).toNat) : ∀ j, j ≤ k → (takeN t j).toNat = m.toNat % 256 ^ k / 256 ^ (k - j)
  | 0, _ => by
    have hp : 0 < 256 ^ k := Nat.pow_pos (by omega)
    rw [Nat.sub_zero, Nat.div_eq_of_lt (Nat.mod_lt _ hp)]
    rfl
  | j + 1, hj => by
    have ih := takeN_val t m k hk h j (by omega)
    rw [takeN_nat, ih, h j (by omega), byte8_nat]
    have e1 : k - j = (k - 1 - j) + 1 := by omega
    have e2 : k - (j + 1) = k - 1 - j := by omega
    have e3 : m.toNat / 256 ^ (k - 1 - j) % 256 = m.toNat % 256 ^ k / 256 ^ (k - 1 - j) % 256 := by
      have e4 : 256 ^ k = 256 ^ (k - 1 - j) * 256 * 256 ^ j := by
        rw [← Nat.pow_succ, ← Nat.pow_add]
        congr 1
        omega
      rw [e4, Nat.mul_assoc, Nat.mod_mul_right_div_self, Nat.mod_mul_right_mod]
    rw [e1, e2, e3, Nat.pow_succ, digit_step]
    have h1 : m.toNat % 256 ^ k / 256 ^ (k - 1 - j) ≤ m.toNat := Nat.le_trans (Nat.div_le_self _ _) (Nat.mod_le _ _)
    exact Nat.mod_eq_of_lt (Nat.lt_of_le_of_lt h1 m.isLt)

theorem bytesF_list (n : BitVec 64) : (bytesF n).data.toList = putF n := by simp [bytesF]
theorem append_list (a b : ByteArray) : (a ++ b).data.toList = a.data.toList ++ b.data.toList := by simp
theorem ba_ext {a b : ByteArray} (h : a.data.toList = b.data.toList) : a = b := ByteArray.ext (Array.toList_inj.1 h)
theorem size_list (a : ByteArray) : a.size = a.data.toList.length := rfl
theorem extract_list (s : ByteArray) (a b : Nat) : (s.extract a b).data.toList = (s.data.toList.take b).drop a := by
  simp only [ByteArray.data_extract, Array.toList_extract, List.extract_eq_take_drop, List.drop_take]
theorem extract_left (a b : ByteArray) : (a ++ b).extract 0 a.size = a := by
  apply ba_ext
  rw [extract_list, append_list, size_list, List.take_left, List.drop_zero]
theorem extract_right (a b : ByteArray) : (a ++ b).extract a.size (a ++ b).size = b := by
  apply ba_ext
  rw [extract_list, append_list, size_list, size_list, append_list, List.take_length, List.drop_left]

/-- A text that begins with a number's bytes. -/
theorem dec_of (n : BitVec 64) (t : ByteArray) (h : (putF n) <+: t.data.toList) : numL t = (putF n).length ∧ numV t = n ∧ numE t = 0 := by
  obtain ⟨r, hr⟩ := h
  obtain ⟨f, k, m, hf, hf2, hk, hk8, hn, -⟩ := putF_shape n
  have hlen : (putF n).length = 1 + k := by rw [hf]; unfold putL; rw [List.length_cons, beGo_length]; omega
  have hsz : 1 + k ≤ t.size := by rw [size_list, ← hr, List.length_append]; omega
  have hget : ∀ (j : Nat) (x : UInt8), (putF n)[j]? = some x → t.data.toList[j]? = some x := by
    intro j x hx
    have hj := (List.getElem?_eq_some_iff.1 hx).1
    rw [← hr, List.getElem?_append_left hj]
    exact hx
  have hfirst : firstOf t = f := by
    unfold firstOf
    rw [byteOf_nat t 0 (UInt8.ofNat f) (hget 0 _ (by rw [hf]; rfl)), UInt8.toNat_ofNat']
    omega
  have hL : numL t = 1 + k := by unfold numL; rw [hfirst, hk]
  have htk := takeN_val (t.extract 1 t.size) m k hk8 (fun j hj => by
    rw [byteOf_extract t 1 t.size j (by omega)]
    rw [byteOf_nat t (1 + j) (byte8 m (k - 1 - j)) (hget _ _ (by
      rw [hf, Nat.add_comm]
      unfold putL
      rw [List.getElem?_cons_succ, beGo_get m k j hj]))]) k (Nat.le_refl _)
  rw [Nat.sub_self, Nat.pow_zero, Nat.div_one] at htk
  have hV : numV t = n := by
    apply BitVec.eq_of_toNat_eq
    rw [numV_nat, hfirst, ← hk, htk]
    have := n.isLt
    omega
  refine ⟨by rw [hL, hlen], hV, ?_⟩
  unfold numE
  rw [if_neg (by omega), if_neg (by omega), if_pos]
  rw [hV, hL]
  apply ba_ext
  rw [extract_list, List.drop_zero, bytesF_list, ← hr, List.take_append_of_le_length (by omega), List.take_of_length_le (by omega)]
theorem get_put (n : BitVec 64) (s : ByteArray) : getN (bytesF n ++ s) = n ∧ getR (bytesF n ++ s) = s ∧ numE (bytesF n ++ s) = 0 := by
  obtain ⟨h1, h2, h3⟩ := dec_of n (bytesF n ++ s) ⟨s.data.toList, by rw [append_list, bytesF_list]⟩
  unfold getN getR
  rw [if_pos h3, if_pos h3, h1, h2, h3]
  refine ⟨rfl, ?_, rfl⟩
  have e : (putF n).length = (bytesF n).size := by rw [size_list, bytesF_list]
  rw [e, extract_right]
/-- What is read is what is put again. -/
theorem put_get (s : ByteArray) (h : numE s = 0) : bytesF (getN s) ++ getR s = s := by
  unfold getN getR
  rw [if_pos h, if_pos h]
  have h9 := h
  unfold numE at h9
  by_cases h0 : s.size = 0
  · rw [if_pos h0] at h9; omega
  rw [if_neg h0] at h9
  by_cases h1 : s.size < numL s
  · rw [if_pos h1] at h9; omega
  rw [if_neg h1] at h9
  by_cases h2 : bytesF (numV s) = s.extract 0 (numL s)
  · rw [h2]
    apply ba_ext
    rw [append_list, extract_list, extract_list, List.drop_zero, size_list, List.take_length, List.take_append_drop]
  · rw [if_neg h2] at h9; omega
/-- Fewer bytes than a number's ask for more. -/
theorem get_less (n : BitVec 64) (t : ByteArray) (h : t.data.toList <+: putF n) (hlt : t.size < (putF n).length) : numE t = 20 := by
  obtain ⟨r, hr⟩ := h
  obtain ⟨f, k, m, hf, hf2, hk, hk8, hn, -⟩ := putF_shape n
  have hlen : (putF n).length = 1 + k := by rw [hf]; unfold putL; rw [List.length_cons, beGo_length]; omega
  unfold numE
  by_cases h0 : t.size = 0
  · rw [if_pos h0]
  · rw [if_neg h0, if_pos]
    have h1 : 0 < t.data.toList.length := by rw [size_list] at h0; omega
    have hfirst : firstOf t = f := by
      unfold firstOf
      have hg : (putF n)[0]? = some (UInt8.ofNat f) := by rw [hf]; rfl
      rw [← hr, List.getElem?_append_left h1] at hg
      rw [byteOf_nat t 0 (UInt8.ofNat f) hg, UInt8.toNat_ofNat']
      omega
    unfold numL
    rw [hfirst, ← hk]
    omega
theorem getR_size (s : ByteArray) : (getR s).size ≤ s.size := by
  unfold getR
  split
  · rw [ByteArray.size_extract]; omega
  · omega
end Go.Proofs.YtpekedldoplmmaaDoor
