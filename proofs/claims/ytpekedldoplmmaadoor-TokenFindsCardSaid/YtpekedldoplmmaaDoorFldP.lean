/-
  What number of package field tells of bytes, plainly. No walk in sight.
-/
import Derived.Test.YtpekedldoplmmaaDoorFldD
import Derived.Test.YtpekedldoplmmaaDoorFldH
namespace Go.Proofs.YtpekedldoplmmaaDoor
open Go.RowKit

/-- The first byte. -/
def firstOf (s : ByteArray) : Nat := (byteOf s 0).toNat
/-- How many bytes it asks for behind it. -/
def szOf (f : Nat) : Nat := if 250 ≤ f then f - 247 else if f = 249 then 2 else if 241 ≤ f then 1 else 0
/-- What is added to them. -/
def baseOf (f : Nat) : BitVec 64 := if 250 ≤ f then 0#64 else if f = 249 then 2288#64 else if 241 ≤ f then BitVec.ofNat 64 (240 + (f - 241) * 256) else BitVec.ofNat 64 f
/-- The number. -/
def numV (s : ByteArray) : BitVec 64 := takeN (s.extract 1 s.size) (szOf (firstOf s)) + baseOf (firstOf s)
/-- How many bytes it takes. -/
def numL (s : ByteArray) : Nat := 1 + szOf (firstOf s)
/-- A number's bytes, as a text. -/
def bytesF (n : BitVec 64) : ByteArray := ⟨(putF n).toArray⟩
/-- What is told: 20 more bytes, 21 no field, 0. -/
def numE (s : ByteArray) : Int :=
  if s.size = 0 then 20 else if s.size < numL s then 20 else if bytesF (numV s) = s.extract 0 (numL s) then 0 else 21
theorem firstOf_lt (s : ByteArray) : firstOf s < 256 := by
  unfold firstOf byteOf
  rw [BitVec.toNat_ofNat]
  have := (s.data.toList.getD 0 0).toNat_lt
  omega
theorem szOf_le (f : Nat) (h : f < 256) : szOf f ≤ 8 := by unfold szOf; split <;> (try split) <;> (try split) <;> omega
theorem takeN_one (s : ByteArray) : takeN s 1 = byteOf s 0 := by simp [takeN]
end Go.Proofs.YtpekedldoplmmaaDoor
