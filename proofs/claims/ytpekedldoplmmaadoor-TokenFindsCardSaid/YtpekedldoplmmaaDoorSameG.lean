/-
  Two sums are the same: the walk. (Part of Law.)
-/
import Derived.Test.YtpekedldoplmmaaDoorSip4
import Derived.Test.YtpekedldoplmmaaDoorLater
namespace Go.Proofs.YtpekedldoplmmaaDoor
open Go.RowKit Go.Shelf
attribute [local go_sem] U_add U_sub U_xor U_or U_and

theorem eq_arr1 (a b : Int) (w : World) : (Op.equalIn 10000 97 (.agg #[.int .u64 a]) (.agg #[.int .u64 b])).run Tryd.prog w = .ok (a == b) w := by
  have hu := Tryd.underlying22
  have ha := Tryd.isAgg22
  have hz := Tryd.sizeOf22
  rw [show (10000 : Nat) = 9999 + 1 from rfl, Op.equalIn]
  simp only [Sem.run_bind, run_underlying Tryd.underlying97, Result.andThen_ok]
  simp only [Std.Legacy.Range.forIn_eq_forIn_range', Std.Legacy.Range.size, Nat.sub_zero, Nat.add_sub_cancel, Nat.div_one, List.range'_succ, List.range'_zero, List.forIn_cons, List.forIn_nil]
  go_simp
  by_cases h1 : a = b <;> simp [h1]
theorem same_beq (a b : BitVec 64) : (U (a ^^^ b) == 0) = (U a == U b) := by
  rw [Bool.eq_iff_iff, beq_iff_eq, beq_iff_eq]
  constructor
  · intro h
    have h0 : a ^^^ b = 0#64 := U_inj (by rw [h]; rfl)
    have : a = b := by
      have h1 : a ^^^ b ^^^ b = 0#64 ^^^ b := by rw [h0]
      rwa [BitVec.xor_assoc, BitVec.xor_self, BitVec.xor_zero, BitVec.zero_xor] at h1
    rw [this]
  · intro h
    rw [U_inj h, BitVec.xor_self]; rfl
theorem same_any (a b : BitVec 64) (w : World) : Calls Tryd.prog 39 #[.int .u64 (U a), .int .u64 (U b)] w fun e w' => e = .returned (.bool (U a == U b)) ∧ w' = w := by
  have he := fun w => eq_arr1 (U (a ^^^ b)) 0 w
  rw [same_beq] at he
  go_enter Tryd.func39, Tryd.ntmps39
  go_wp2
  go_ret
  exact ⟨rfl, rfl⟩
end Go.Proofs.YtpekedldoplmmaaDoor
