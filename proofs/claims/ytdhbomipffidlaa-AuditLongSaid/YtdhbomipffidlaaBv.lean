/-
  Sixty-four binary digits as BitVec, read as the model's integers: plain lemmas on the operations. No program in sight.
-/
import Derived.WalkKit
namespace Go.Proofs.Ytdhbomipffidlaa
open Go.RowKit

/-- A number of 64 digits as the model's integer. -/
def U (x : BitVec 64) : Int := (x.toNat : Int)
theorem U_nonneg (x : BitVec 64) : 0 ≤ U x := by unfold U; omega
theorem U_lt (x : BitVec 64) : U x < 18446744073709551616 := by
  have := x.isLt; unfold U; omega
theorem U_le (x : BitVec 64) : U x ≤ 18446744073709551615 := by have := U_lt x; omega
theorem U_toNat (x : BitVec 64) : (U x).toNat = x.toNat := by unfold U; simp
theorem U_inj {x y : BitVec 64} (h : U x = U y) : x = y := by
  unfold U at h; exact BitVec.eq_of_toNat_eq (by omega)
theorem U_of (n : Int) (h0 : 0 ≤ n) (h1 : n < 18446744073709551616) : ∃ x : BitVec 64, n = U x := by
  refine ⟨BitVec.ofNat 64 n.toNat, ?_⟩
  unfold U; rw [BitVec.toNat_ofNat]; omega
theorem U_ofInt (x : BitVec 64) : BitVec.ofInt 64 (U x) = x := by
  unfold U; rw [BitVec.ofInt_natCast]; simp
theorem U_wrap (n : Int) : IntKind.u64.wrap n = U (BitVec.ofInt 64 n) := by
  rw [IntKind.wrap_u64]; unfold U
  rw [BitVec.toNat_ofInt]
  omega
theorem U_mod (x : BitVec 64) : IntKind.u64.wrap (U x) = U x := by rw [U_wrap, U_ofInt]
theorem U_wf (x : BitVec 64) : (Lit.int .u64 (U x)).wf = true := by
  have := U_nonneg x; have := U_lt x
  exact WalkArith.wf_u64 (by omega)
theorem U_add (x y : BitVec 64) : IntKind.u64.wrap (U x + U y) = U (x + y) := by
  rw [U_wrap, BitVec.ofInt_add, U_ofInt, U_ofInt]
theorem U_sub (x y : BitVec 64) : IntKind.u64.wrap (U x - U y) = U (x - y) := by
  rw [U_wrap, Int.sub_eq_add_neg, BitVec.ofInt_add, BitVec.ofInt_neg, U_ofInt, U_ofInt, BitVec.sub_eq_add_neg]
theorem U_bits (op : BinOp) (x y : BitVec 64) (f : BitVec 64 → BitVec 64 → BitVec 64) (h : bits op .u64 (U x) (U y) = IntKind.u64.wrap ((f (BitVec.ofInt 64 (U x)) (BitVec.ofInt 64 (U y))).toNat : Int)) :
    bits op .u64 (U x) (U y) = U (f x y) := by
  rw [h, U_ofInt, U_ofInt]; exact U_mod _
theorem U_xor (x y : BitVec 64) : bits .xor .u64 (U x) (U y) = U (x ^^^ y) := U_bits _ _ _ (fun a b => a ^^^ b) rfl
theorem U_or (x y : BitVec 64) : bits .or .u64 (U x) (U y) = U (x ||| y) := U_bits _ _ _ (fun a b => a ||| b) rfl
theorem U_and (x y : BitVec 64) : bits .and .u64 (U x) (U y) = U (x &&& y) := U_bits _ _ _ (fun a b => a &&& b) rfl
theorem U_lit (n : Nat) : U (BitVec.ofNat 64 n) = IntKind.u64.wrap (n : Int) := by
  rw [IntKind.wrap_u64]; unfold U; rw [BitVec.toNat_ofNat]; omega
theorem U_shl (x : BitVec 64) (k : Nat) : IntKind.u64.wrap (U x * 2 ^ k) = U (x <<< k) := by
  rw [IntKind.wrap_u64]; unfold U
  rw [BitVec.toNat_shiftLeft, Nat.shiftLeft_eq]
  have : (2 : Int) ^ k = ((2 ^ k : Nat) : Int) := by simp
  rw [this, ← Int.natCast_mul]; omega
theorem U_shr (x : BitVec 64) (k : Nat) : U x / 2 ^ k = U (x >>> k) := by
  unfold U
  rw [BitVec.toNat_ushiftRight, Nat.shiftRight_eq_div_pow]
  have : (2 : Int) ^ k = ((2 ^ k : Nat) : Int) := by simp
  rw [this, ← Int.natCast_ediv]
theorem rot_eq (x : BitVec 64) (k : Nat) (h : k < 64) : x <<< k ||| x >>> (64 - k) = x.rotateLeft k := by
  rw [BitVec.rotateLeft_def, Nat.mod_eq_of_lt h]

end Go.Proofs.Ytdhbomipffidlaa
