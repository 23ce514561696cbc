/-
  The numbers of a text, eight bytes each, one by one; and the same of a text with zeros and its length behind. Plain: no walk in sight.
-/
import Derived.Test.YtdhbomipffidlaaSip4
namespace Go.Proofs.Ytdhbomipffidlaa

/-- j bytes from place i on, as a number, the least first. -/
def orTo (s : ByteArray) (i : Nat) : Nat → BitVec 64
  | 0 => 0
  | j + 1 => orTo s i j ||| byteAt s (i + j) <<< (8 * j)
/-- The same, added up. -/
def adTo (s : ByteArray) (i : Nat) : Nat → BitVec 64
  | 0 => 0
  | j + 1 => adTo s i j + byteAt s (i + j) <<< (8 * j)
/-- The t-th number of a text. -/
def eightAt (s : ByteArray) (t : Nat) : BitVec 64 :=
  if t = s.size / 8 then orTo s (8 * t) (s.size % 8) ||| BitVec.ofNat 64 s.size <<< 56 else orTo s (8 * t) 8

theorem byteAt_bits (s : ByteArray) (k t : Nat) (h : 8 ≤ t) : (byteAt s k).getLsbD t = false := by
  unfold byteAt
  rw [BitVec.getLsbD_ofNat]
  have h1 : (s.data.toList.getD k 0).toNat < 2 ^ t := Nat.lt_of_lt_of_le (UInt8.toNat_lt _) (Nat.pow_le_pow_right (by decide) h)
  rw [Nat.testBit_lt_two_pow h1, Bool.and_false]
theorem orTo_bits (s : ByteArray) (i : Nat) : ∀ j t, 8 * j ≤ t → (orTo s i j).getLsbD t = false
  | 0, t, _ => by simp [orTo]
  | j + 1, t, h => by
    rw [orTo, BitVec.getLsbD_or, orTo_bits s i j t (by omega), Bool.false_or, BitVec.getLsbD_shiftLeft, byteAt_bits s (i + j) (t - 8 * j) (by omega), Bool.and_false]
theorem adTo_eq (s : ByteArray) (i : Nat) : ∀ j, adTo s i j = orTo s i j
  | 0 => rfl
  | j + 1 => by
    rw [adTo, orTo, adTo_eq s i j]
    refine BitVec.add_eq_or_of_and_eq_zero _ _ ?_
    apply BitVec.eq_of_getLsbD_eq
    intro t _
    rw [BitVec.getLsbD_and, BitVec.getLsbD_shiftLeft]
    by_cases h : 8 * j ≤ t
    · rw [orTo_bits s i j t h]; simp
    · simp; intro _ _ h'; omega
theorem orTo_congr {s u : ByteArray} {i k : Nat} : ∀ {j : Nat}, (∀ x, x < j → byteAt s (i + x) = byteAt u (k + x)) → orTo s i j = orTo u k j
  | 0, _ => rfl
  | j + 1, h => by rw [orTo, orTo, orTo_congr (fun x hx => h x (by omega)), h j (by omega)]
theorem leTo_orTo (s : ByteArray) : ∀ j, leTo s j = orTo s 0 j
  | 0 => rfl
  | j + 1 => by rw [leTo, orTo, leTo_orTo s j, Nat.zero_add]
/-- Zero bytes add nothing. -/
theorem orTo_zeros {s : ByteArray} {i j : Nat} : ∀ n, (∀ x, j ≤ x → x < j + n → byteAt s (i + x) = 0) → orTo s i (j + n) = orTo s i j
  | 0, _ => rfl
  | n + 1, h => by
    rw [← Nat.add_assoc, orTo, orTo_zeros n (fun x h1 h2 => h x h1 (by omega)), h (j + n) (by omega) (by omega)]
    simp

theorem byteAt_lt {s : ByteArray} {k : Nat} (h : k < s.size) : byteAt s k = BitVec.ofNat 64 (s.data[k]'(by simpa using h)).toNat := by
  unfold byteAt
  have h' : k < s.data.toList.length := by simpa using h
  rw [List.getD_eq_getElem?_getD, List.getElem?_eq_getElem h']
  rfl
theorem byteAt_extract (s : ByteArray) (a k : Nat) (h : a + k < s.size) : byteAt (s.extract a s.size) k = byteAt s (a + k) := by
  rw [byteAt_lt (by rw [ByteArray.size_extract]; omega), byteAt_lt h]
  congr 2
  simp [ByteArray.data_extract]
theorem extract_extract (s : ByteArray) (a b : Nat) : (s.extract a s.size).extract b (s.extract a s.size).size = s.extract (a + b) s.size := by
  ext1
  simp only [ByteArray.data_extract, ByteArray.size_extract, Array.extract_extract]
  congr 1
  omega

theorem eightsGo_at (s : ByteArray) : ∀ (f k : Nat), s.size - 8 * k < f → 8 * k ≤ s.size →
    eightsGo (BitVec.ofNat 64 s.size <<< 56) f (s.extract (8 * k) s.size) = (List.range' k (s.size / 8 + 1 - k)).map (eightAt s)
  | 0, k, h, _ => by omega
  | f + 1, k, h, hk => by
    have hsz : (s.extract (8 * k) s.size).size = s.size - 8 * k := by rw [ByteArray.size_extract]; omega
    rw [eightsGo]
    by_cases h8 : (s.extract (8 * k) s.size).size < 8
    · rw [if_pos h8]
      rw [hsz] at h8 ⊢
      have hq : s.size / 8 = k := by omega
      have hn : s.size / 8 + 1 - k = 1 := by omega
      rw [hn]
      show _ = [eightAt s k]
      rw [eightAt, if_pos hq.symm, leTo_orTo]
      have hr : s.size - 8 * k = s.size % 8 := by omega
      rw [hr, orTo_congr (s := s.extract (8 * k) s.size) (u := s) (i := 0) (k := 8 * k) (fun x hx => by rw [Nat.zero_add]; exact byteAt_extract s (8 * k) x (by omega))]
    · rw [if_neg h8, extract_extract]
      rw [hsz] at h8
      have hn : s.size / 8 + 1 - k = (s.size / 8 + 1 - (k + 1)) + 1 := by omega
      rw [hn, List.range'_succ, List.map_cons]
      have ih := eightsGo_at s f (k + 1) (by omega) (by omega)
      rw [show 8 * (k + 1) = 8 * k + 8 by omega] at ih
      rw [ih]
      congr 1
      rw [eightAt, if_neg (by omega), leTo_orTo]
      exact orTo_congr (fun x hx => by rw [Nat.zero_add]; exact byteAt_extract s (8 * k) x (by omega))
theorem eightsOf_at (s : ByteArray) : eightsOf s = (List.range (s.size / 8 + 1)).map (eightAt s) := by
  have h := eightsGo_at s (s.size + 1) 0 (by omega) (by omega)
  rw [Nat.mul_zero, ByteArray.extract_zero_size, Nat.sub_zero, ← List.range_eq_range'] at h
  exact h

/-- The numbers of the first t eights, added. -/
def sumTo (a b : BitVec 64) (s : ByteArray) (t : Nat) : BitVec 64 × BitVec 64 × BitVec 64 × BitVec 64 := ((List.range t).map (eightAt s)).foldl addm (sumInit a b)
theorem sumTo_succ (a b : BitVec 64) (s : ByteArray) (t : Nat) : sumTo a b s (t + 1) = addm (sumTo a b s t) (eightAt s t) := by
  rw [sumTo, List.range_succ, List.map_append, List.foldl_append]; rfl
theorem sumF_to (a b : BitVec 64) (s : ByteArray) : sumF a b s = sumEnd (sumTo a b s (s.size / 8 + 1)) := by rw [sumF, eightsOf_at]; rfl

end Go.Proofs.Ytdhbomipffidlaa
