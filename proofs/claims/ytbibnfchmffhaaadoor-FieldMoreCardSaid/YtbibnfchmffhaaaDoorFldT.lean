/-
  Plain laws of texts' bytes: they are read back, whatever stands behind; what is read is what is put. No walk in sight.
-/
import Derived.Test.YtbibnfchmffhaaaDoorFldS
namespace Go.Proofs.YtbibnfchmffhaaaDoor
open Go.RowKit Go.Lib

theorem nat_of (k : Nat) (h : k ≤ 9223372036854775807) : (BitVec.ofNat 64 k).toNat = k := by rw [BitVec.toNat_ofNat]; omega
theorem txt_put (t s : ByteArray) (ht : t.size ≤ 400) : txtE (textF t ++ s) = 0 ∧ txtV (textF t ++ s) = t ∧ txtR (textF t ++ s) = s := by
  have e : textF t ++ s = bytesF (BitVec.ofNat 64 t.size) ++ (t ++ s) := by unfold textF; rw [ByteArray.append_assoc]
  obtain ⟨h1, h2, h3⟩ := dec_of (BitVec.ofNat 64 t.size) (textF t ++ s) ⟨(t ++ s).data.toList, by rw [e, append_list (bytesF _), bytesF_list]⟩
  obtain ⟨-, hR, -⟩ := get_put (BitVec.ofNat 64 t.size) (t ++ s)
  rw [← e] at hR
  have hn := nat_of t.size (by omega)
  have hsz : (t ++ s).size = t.size + s.size := by rw [ByteArray.size_append]
  refine ⟨?_, ?_, ?_⟩
  · unfold txtE
    rw [h3, h2, hR, hn, hsz, if_neg (by omega), if_neg (by omega), if_neg (by omega), if_neg (by omega)]
  · unfold txtV
    rw [hR, h2, hn, extract_left]
  · unfold txtR
    rw [hR, h2, hn, extract_right]
theorem gt_put (t s : ByteArray) (ht : t.size ≤ 400) : txtE (textF t ++ s) = 0 ∧ gtV (textF t ++ s) = t ∧ gtR (textF t ++ s) = s := by
  obtain ⟨h1, h2, h3⟩ := txt_put t s ht
  unfold gtV gtR
  rw [if_pos h1, if_pos h1]
  exact ⟨h1, h2, h3⟩
theorem cut_both (s : ByteArray) (k : Nat) : s.extract 0 k ++ s.extract k s.size = s := by
  apply ba_ext
  rw [append_list, extract_list, extract_list, List.drop_zero, size_list, List.take_length, List.take_append_drop]
/-- What is read is what is put again. -/
theorem txt_get (s : ByteArray) (h : txtE s = 0) : (txtV s).size ≤ 400 ∧ textF (txtV s) ++ txtR s = s := by
  obtain ⟨h0, h1, h2⟩ := txt_ok s h
  have hsz : (txtV s).size = (numV s).toNat := by unfold txtV; rw [ByteArray.size_extract]; omega
  refine ⟨by omega, ?_⟩
  have hg := put_get s h0
  have hn : getN s = numV s := by unfold getN; rw [if_pos h0]
  rw [hn] at hg
  have e : BitVec.ofNat 64 (txtV s).size = numV s := by rw [hsz]; exact BitVec.eq_of_toNat_eq (nat_of _ (by omega))
  unfold textF
  rw [e, ByteArray.append_assoc]
  unfold txtV txtR
  rw [cut_both]
  exact hg
theorem textF_size (t : ByteArray) : (textF t).size ≤ 9 + t.size := by
  unfold textF
  rw [ByteArray.size_append]
  have := bytesF_size (BitVec.ofNat 64 t.size)
  omega
theorem txtR_size (s : ByteArray) : (txtR s).size ≤ s.size := by
  unfold txtR
  rw [ByteArray.size_extract]
  have := getR_size s
  omega
theorem gtR_size (s : ByteArray) : (gtR s).size ≤ s.size := by
  unfold gtR
  have := txtR_size s
  split <;> omega
end Go.Proofs.YtbibnfchmffhaaaDoor
