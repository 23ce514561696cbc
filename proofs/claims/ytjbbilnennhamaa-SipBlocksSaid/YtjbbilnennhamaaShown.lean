/-
  The walk of the statements' head: two sums are known.
-/
import Derived.Test.YtjbbilnennhamaaRef
namespace Go.Proofs.Ytjbbilnennhamaa
open Go.RowKit Go.Shelf
attribute [local go_sem] U_add U_sub U_xor U_or U_and

theorem sum_known0 : (U (sumF 506097522914230528#64 1084818905618843912#64 ⟨#[]⟩) == 8246050544436514353) = true := by decide +kernel
theorem sum_known1 : (U (sumF 506097522914230528#64 1084818905618843912#64 ⟨#[0, 1, 2, 3, 4, 5, 6, 7, 8, 9, 10, 11, 12, 13, 14]⟩) == 11613035633349379557) = true := by decide +kernel
theorem known_u (w : World) : Calls Try.prog 20 #[] w fun e w' => e = .returned (.agg #[.int .u64 (U 506097522914230528#64), .int .u64 (U 1084818905618843912#64)]) ∧ Below w.heap.size w w' := known_any w
theorem same_55 (w : World) : Calls Try.prog 16 #[.int .u64 5, .int .u64 5] w fun e w' => e = .returned (.bool true) ∧ w' = w := same_any 5#64 5#64 w
theorem same_56 (w : World) : Calls Try.prog 16 #[.int .u64 5, .int .u64 6] w fun e w' => e = .returned (.bool false) ∧ w' = w := same_any 5#64 6#64 w

set_option maxRecDepth 100000 in
set_option maxHeartbeats 1000000 in
theorem shown_any (w : World) : Calls Try.prog 10 #[] w fun e w' => e = .returned (.bool true) ∧ Below w.heap.size w w' := by
  have k0 := sum_known0
  have k1 := sum_known1
  go_enter Try.func10, Try.ntmps10
  go_wp2_with fail
  refine (known_u _).mono ?_; rintro e w1 ⟨rfl, hB1⟩
  go_wp2_with fail
  refine (sum_any _ _ _ (by decide) _).mono ?_; rintro e w2 ⟨rfl, hB2⟩
  go_wp2_with fail
  refine (known_u _).mono ?_; rintro e w3 ⟨rfl, hB3⟩
  go_wp2_with fail
  refine (sum_any _ _ _ (by decide) _).mono ?_; rintro e w4 ⟨rfl, hB4⟩
  go_wp2_with fail
  refine (same_55 _).mono ?_; rintro e w5 ⟨rfl, rfl⟩
  go_wp2_with fail
  refine (same_56 _).mono ?_; rintro e w6 ⟨rfl, rfl⟩
  go_wp2_with fail
  go_ret
  exact ⟨rfl, hB1.trans ((hB2.mono hB1.size).trans ((hB3.mono (Nat.le_trans hB1.size hB2.size)).trans (hB4.mono (Nat.le_trans hB1.size (Nat.le_trans hB2.size hB3.size)))))⟩

end Go.Proofs.Ytjbbilnennhamaa
