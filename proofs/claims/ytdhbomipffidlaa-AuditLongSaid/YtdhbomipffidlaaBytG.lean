/-
  Bytes of numbers in a seat without package field's readers: what FldP, FldN and FldR say of them. No walk in sight.
-/
import Derived.Test.YtdhbomipffidlaaFldF
namespace Go.Proofs.Ytdhbomipffidlaa
open Go.RowKit

/-- A number's bytes, as a text. -/
def bytesF (n : BitVec 64) : ByteArray := ⟨(putF n).toArray⟩
theorem putF_len (n : BitVec 64) : 1 ≤ (putF n).length ∧ (putF n).length ≤ 9 := by
  have h8 : longSize n ≤ 8 := longGo_le n 5 3 (by omega)
  unfold putF putL
  (repeat' split) <;> simp only [List.length_cons, beGo_length] <;> omega
theorem bytesF_size (n : BitVec 64) : 1 ≤ (bytesF n).size ∧ (bytesF n).size ≤ 9 := by
  have h := putF_len n
  have e : (bytesF n).size = (putF n).length := by simp [bytesF, ByteArray.size]
  rw [e]
  exact h
theorem ret_str {a b : ByteArray} (h : a = b) : Ending.returned (.string a) = .returned (.string b) := by rw [h]
theorem ret_bool {a b : Bool} (h : a = b) : Ending.returned (.bool a) = .returned (.bool b) := by rw [h]
theorem ret_int {k : IntKind} {a b : Int} (h : a = b) : Ending.returned (.int k a) = .returned (.int k b) := by rw [h]
theorem append_list (a b : ByteArray) : (a ++ b).data.toList = a.data.toList ++ b.data.toList := by simp
theorem ba_ext {a b : ByteArray} (h : a.data.toList = b.data.toList) : a = b := ByteArray.ext (Array.toList_inj.1 h)
theorem nilB (s : ByteArray) : (⟨#[]⟩ : ByteArray) ++ s = s := by
  apply ba_ext
  rw [append_list]
  rfl
theorem Put_at (n : BitVec 64) (a : Int) (ha : a = U n) (w : World) : Calls Try.prog 44 #[.int .u64 a] w fun e w' => e = .returned (.string (bytesF n)) ∧ Below w.heap.size w w' := by
  subst ha
  exact Put_any n w
theorem refPut_at (n : BitVec 64) (a : Int) (ha : a = U n) (w : World) : Calls Try.prog 38 #[.int .u64 a] w fun e w' => e = .returned (.string (bytesF n)) ∧ Below w.heap.size w w' := by
  subst ha
  exact refPut_any n w
end Go.Proofs.Ytdhbomipffidlaa
