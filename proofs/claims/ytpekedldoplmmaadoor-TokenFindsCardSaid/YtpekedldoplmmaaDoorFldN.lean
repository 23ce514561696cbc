/-
  How many bytes a number takes; small words. No walk in sight.
-/
import Derived.Test.YtpekedldoplmmaaDoorFldP
namespace Go.Proofs.YtpekedldoplmmaaDoor
open Go.RowKit

theorem beGo_len (n : BitVec 64) (k : Nat) : (beGo n k).length = k := beGo_length n k
theorem putF_len (n : BitVec 64) : 1 ≤ (putF n).length ∧ (putF n).length ≤ 9 := by
  have h8 : longSize n ≤ 8 := longGo_le n 5 3 (by omega)
  unfold putF putL
  (repeat' split) <;> simp only [List.length_cons, beGo_length] <;> omega
theorem bytesF_size (n : BitVec 64) : 1 ≤ (bytesF n).size ∧ (bytesF n).size ≤ 9 := by
  have h := putF_len n
  have e : (bytesF n).size = (putF n).length := by simp [bytesF, ByteArray.size]
  rw [e]
  exact h

theorem ret_str {a b : ByteArray} (h : a = b) : Ending.returned (.string a) = .returned (.string b) := by rw [h]
theorem ret_bool {a b : Bool} (h : a = b) : Ending.returned (.bool a) = .returned (.bool b) := by rw [h]
theorem ret_int {k : IntKind} {a b : Int} (h : a = b) : Ending.returned (.int k a) = .returned (.int k b) := by rw [h]
end Go.Proofs.YtpekedldoplmmaaDoor
