/-
  The walks of the small functions of package sip, and of the statements' own helpers.
-/
import Derived.Test.YtjbbilnennhamaaSip4
import Derived.Test.YtjbbilnennhamaaLater
namespace Go.Proofs.Ytjbbilnennhamaa
open Go.RowKit Go.Shelf
attribute [local go_sem] U_add U_sub U_xor U_or U_and

theorem eq_arr1 (a b : Int) (w : World) : (Op.equalIn 10000 47 (.agg #[.int .u64 a]) (.agg #[.int .u64 b])).run Try.prog w = .ok (a == b) w := by
  have hu := Try.underlying22
  have ha := Try.isAgg22
  have hz := Try.sizeOf22
  rw [show (10000 : Nat) = 9999 + 1 from rfl, Op.equalIn]
  simp only [Sem.run_bind, run_underlying Try.underlying47, Result.andThen_ok]
  simp only [Std.Legacy.Range.forIn_eq_forIn_range', Std.Legacy.Range.size, Nat.sub_zero, Nat.add_sub_cancel, Nat.div_one, List.range'_succ, List.range'_zero, List.forIn_cons, List.forIn_nil]
  go_simp
  by_cases h1 : a = b <;> simp [h1]
theorem eq_arr4 (a0 a1 a2 a3 b0 b1 b2 b3 : Int) (w : World) : (Op.equalIn 10000 32 (.agg #[.int .u64 a0, .int .u64 a1, .int .u64 a2, .int .u64 a3]) (.agg #[.int .u64 b0, .int .u64 b1, .int .u64 b2, .int .u64 b3])).run Try.prog w = .ok (a0 == b0 && a1 == b1 && a2 == b2 && a3 == b3) w := by
  have hu := Try.underlying22
  have ha := Try.isAgg22
  have hz := Try.sizeOf22
  rw [show (10000 : Nat) = 9999 + 1 from rfl, Op.equalIn]
  simp only [Sem.run_bind, run_underlying Try.underlying32, Result.andThen_ok]
  simp only [Std.Legacy.Range.forIn_eq_forIn_range', Std.Legacy.Range.size, Nat.sub_zero, Nat.add_sub_cancel, Nat.div_one, List.range'_succ, List.range'_zero, List.forIn_cons, List.forIn_nil]
  go_simp
  by_cases h1 : a0 = b0 <;> by_cases h2 : a1 = b1 <;> by_cases h3 : a2 = b2 <;> by_cases h4 : a3 = b3 <;> simp [h1, h2, h3, h4]

theorem extract_all (s : ByteArray) : s.extract 0 s.size = s := by
  exact ByteArray.extract_zero_size

theorem cut_any (s : ByteArray) (hs : s.size ≤ 9223372036854775807) (w : World) : Calls Try.prog 12 #[.string s] w fun e w' => e = .returned (.string (s.extract 0 (min s.size 300))) ∧ w' = w := by
  by_cases h : s.size ≤ 300
  · go_enter Try.func12, Try.ntmps12
    go_wp2
    go_ret
    refine ⟨?_, rfl⟩
    rw [Nat.min_eq_left h, extract_all]; rfl
  · go_enter Try.func12, Try.ntmps12
    go_wp2
    go_ret
    refine ⟨?_, rfl⟩
    rw [Nat.min_eq_right (by omega)]; rfl

theorem same_beq (a b : BitVec 64) : (U (a ^^^ b) == 0) = (U a == U b) := by
  rw [Bool.eq_iff_iff, beq_iff_eq, beq_iff_eq]
  constructor
  · intro h
    have h0 : a ^^^ b = 0#64 := U_inj (by rw [h]; rfl)
    have : a = b := by
      have h1 : a ^^^ b ^^^ b = 0#64 ^^^ b := by rw [h0]
      rwa [BitVec.xor_assoc, BitVec.xor_self, BitVec.xor_zero, BitVec.zero_xor] at h1
    rw [this]
  · intro h
    rw [U_inj h, BitVec.xor_self]; rfl
theorem same_any (a b : BitVec 64) (w : World) : Calls Try.prog 16 #[.int .u64 (U a), .int .u64 (U b)] w fun e w' => e = .returned (.bool (U a == U b)) ∧ w' = w := by
  have he := fun w => eq_arr1 (U (a ^^^ b)) 0 w
  rw [same_beq] at he
  go_enter Try.func16, Try.ntmps16
  go_wp2
  go_ret
  exact ⟨rfl, rfl⟩
theorem known_any (w : World) : Calls Try.prog 20 #[] w fun e w' => e = .returned (.agg #[.int .u64 506097522914230528, .int .u64 1084818905618843912]) ∧ Below w.heap.size w w' := by
  go_enter Try.func20, Try.ntmps20
  go_wp2
  refine bodyPost_ret (v := .agg #[.int .u64 506097522914230528, .int .u64 1084818905618843912]) ?_ rfl ⟨rfl, (Below.refl _ _).alloc (Nat.le_refl _) _⟩
  simp [results, Try.results20, go_sem]

set_option maxRecDepth 100000 in
set_option maxHeartbeats 1000000 in
theorem Round_any (v : BitVec 64 × BitVec 64 × BitVec 64 × BitVec 64) (w : World) : Calls Try.prog 17 #[.agg #[.int .u64 (U v.1), .int .u64 (U v.2.1), .int .u64 (U v.2.2.1), .int .u64 (U v.2.2.2)]] w fun e w' =>
    e = .returned (.agg #[.int .u64 (U (rnd v).1), .int .u64 (U (rnd v).2.1), .int .u64 (U (rnd v).2.2.1), .int .u64 (U (rnd v).2.2.2)]) ∧ Below w.heap.size w w' := by
  go_enter Try.func17, Try.ntmps17
  go_wp2_with fail
  refine abs_call (fun u => Below w.heap.size w u ∧ FourV u (w.heap.size + 1 + 1) 39 v ∧ FourV u (w.heap.size + 1) 32 (0, 0, 0, 0)) ⟨(((Below.refl _ w).alloc (Nat.le_refl _) _).alloc (by simp) _).alloc (by simp; omega) _, new_at _ _ _ (by simp), old_at (new_at _ _ _ (by simp))⟩ ?_
  rintro w1 ⟨hB, h4, h0⟩
  refine (round_v _ 39 v w1 h4).mono ?_
  rintro e w2 ⟨rfl, hP⟩
  have h02 : FourV w2 (w.heap.size + 1) 32 (0, 0, 0, 0) := (hP.other (by omega)).trans h0
  have hB2 : Below w.heap.size w w2 := hB.trans (hP.below (by omega))
  obtain ⟨⟨c0, c1, c2, c3⟩, -⟩ := Four.facts (hP.get (Four.lt h4))
  obtain ⟨⟨d0, d1, d2, d3⟩, g0, g1, g2, g3⟩ := Four.facts h02
  have HB2 := Lib.hid hB2
  clear hP h4 h0 h02 hB hB2
  go_wp2_with fail
  refine bodyPost_ret (v := .agg #[.int .u64 (U (rnd v).1), .int .u64 (U (rnd v).2.1), .int .u64 (U (rnd v).2.2.1), .int .u64 (U (rnd v).2.2.2)]) ?_ rfl ⟨rfl, ?_⟩
  · simp [results, Try.results17, go_sem, d0, d1, d2, d3]
  · exact (((HB2.out.setCell (by simp) _).setCell (by simp) _).setCell (by simp) _).setCell (by simp) _

end Go.Proofs.Ytjbbilnennhamaa
