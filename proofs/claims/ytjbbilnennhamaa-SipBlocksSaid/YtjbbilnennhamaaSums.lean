/-
  The walks of the statements on sums and children.
-/
import Derived.Test.YtjbbilnennhamaaRefSum
namespace Go.Proofs.Ytjbbilnennhamaa
open Go.RowKit Go.Shelf
attribute [local go_sem] U_add U_sub U_xor U_or U_and

theorem cut_size (s : ByteArray) : (s.extract 0 (min s.size 300)).size ≤ 300 := by rw [ByteArray.size_extract]; omega
theorem eq_key (a b c d : Int) (w : World) : (Op.equalIn 10000 24 (.agg #[.int .u64 a, .int .u64 b]) (.agg #[.int .u64 c, .int .u64 d])).run Try.prog w = .ok (a == c && b == d) w := by
  have hu := Try.underlying22
  have ha := Try.isAgg22
  have hz := Try.sizeOf22
  have hS : Try.prog.underlying 24 = some (.struct (Try.prog.fieldsOf 24)) := by kernel_rfl
  have hp : Try.prog.stoodInHeld 24 = false := by kernel_rfl
  rw [show (10000 : Nat) = 9999 + 1 from rfl, run_equalIn_agg w 9999 24 _ _ hS hp]
  simp only [Program.fieldsOf, Try.underlying24]
  go_simp
  by_cases h1 : a = c <;> by_cases h2 : b = d <;> simp [h1, h2]

set_option maxRecDepth 100000 in
set_option maxHeartbeats 2000000 in
theorem walk_SipSums (a b : BitVec 64) (s : ByteArray) (hs : s.size ≤ 9223372036854775807) (w : World) : Calls Try.prog 3 #[.agg #[.int .u64 (U a), .int .u64 (U b)], .string s] w fun e w' =>
    e = .returned (.bool true) ∧ Below w.heap.size w w' := by
  have Hc := Lib.hid (cut_size s)
  go_enter Try.func3, Try.ntmps3
  go_wp2_with fail
  refine abs_call (fun u => Below w.heap.size w u ∧ KeyAt u w.heap.size 24 a b) ⟨(Below.refl _ w).alloc (Nat.le_refl _) _, new_at _ _ _ rfl⟩ ?_
  rintro w0 ⟨hB0, h0⟩
  refine (shown_any w0).mono ?_
  rintro e w1 ⟨rfl, hB1⟩
  have h1 : KeyAt w1 w.heap.size 24 a b := (hB1.block _ h0.lt).trans h0
  obtain ⟨⟨c0, c1⟩, -⟩ := h1.facts
  have hlt := h1.lt
  clear h0 h1
  go_wp2_with fail
  refine wp_region_later w1.heap.size (by kernel_rfl) (by kernel_rfl) ?_
  have l0 : ∀ s : Later w1.heap.size w1, s.W.cell? ⟨w.heap.size, 0, none⟩ = some _ := fun s => s.cell c0 hlt
  have l1 : ∀ s : Later w1.heap.size w1, s.W.cell? ⟨w.heap.size, 1, none⟩ = some _ := fun s => s.cell c1 hlt
  clear c0 c1
  repeat (go_big_quiet_step (first
    | (go_at_call 12; exact Calls.later_same (cut_any s hs _))
    | (go_at_call 11; exact Calls.later (Nat.le_refl _) (sum_any a b _ (Nat.le_trans Hc.out (by decide)) _))
    | (go_at_call 13; exact Calls.later (Nat.le_refl _) (refSum_any a b _ (Nat.le_trans Hc.out (by decide)) _))))
  refine wpQuiet_nil ?_
  rintro _ ⟨u, rfl⟩
  clear l0 l1
  go_wp2_with fail
  go_ret
  exact ⟨rfl, hB0.trans ((hB1.mono hB0.size).trans (u.below.mono (Nat.le_trans hB0.size hB1.size)))⟩

set_option maxRecDepth 100000 in
set_option maxHeartbeats 2000000 in
theorem walk_SipChildren (a b : BitVec 64) (s : ByteArray) (hs : s.size ≤ 9223372036854775807) (w : World) : Calls Try.prog 4 #[.agg #[.int .u64 (U a), .int .u64 (U b)], .string s] w fun e w' =>
    e = .returned (.bool true) ∧ Below w.heap.size w w' := by
  have Hc := Lib.hid (cut_size s)
  generalize hy0 : sumF a b (⟨#[0]⟩ ++ s.extract 0 (min s.size 300)) = y0
  generalize hy1 : sumF a b (⟨#[1]⟩ ++ s.extract 0 (min s.size 300)) = y1
  have hC := fun w => child_any a b (s.extract 0 (min s.size 300)) (Nat.le_trans (Nat.add_le_add_right Hc.out 1) (by decide)) w
  have hR := fun w => refChild_any a b (s.extract 0 (min s.size 300)) (Nat.le_trans (Nat.add_le_add_right Hc.out 1) (by decide)) w
  rw [hy0, hy1] at hC hR
  have HC := Lib.hid hC
  have HR := Lib.hid hR
  have he := fun w => eq_key (U y0) (U y1) (U y0) (U y1) w
  simp only [beq_self_eq_true, Bool.and_self] at he
  clear hC hR hy0 hy1
  go_enter Try.func4, Try.ntmps4
  go_wp2_with fail
  refine abs_call (fun u => Below w.heap.size w u ∧ KeyAt u w.heap.size 24 a b) ⟨(Below.refl _ w).alloc (Nat.le_refl _) _, new_at _ _ _ rfl⟩ ?_
  rintro w0 ⟨hB0, h0⟩
  refine (shown_any w0).mono ?_
  rintro e w1 ⟨rfl, hB1⟩
  have h1 : KeyAt w1 w.heap.size 24 a b := (hB1.block _ h0.lt).trans h0
  obtain ⟨⟨c0, c1⟩, -⟩ := h1.facts
  have hlt := h1.lt
  clear h0 h1
  go_wp2_with fail
  refine wp_region_later w1.heap.size (by kernel_rfl) (by kernel_rfl) ?_
  have l0 : ∀ s : Later w1.heap.size w1, s.W.cell? ⟨w.heap.size, 0, none⟩ = some _ := fun s => s.cell c0 hlt
  have l1 : ∀ s : Later w1.heap.size w1, s.W.cell? ⟨w.heap.size, 1, none⟩ = some _ := fun s => s.cell c1 hlt
  clear c0 c1
  repeat (go_big_quiet_step (first
    | (go_at_call 12; exact Calls.later_same (cut_any s hs _))
    | (go_at_call 14; exact Calls.later (Nat.le_refl _) (HC.out _))
    | (go_at_call 15; exact Calls.later (Nat.le_refl _) (HR.out _))))
  refine wpQuiet_nil ?_
  rintro _ ⟨u, rfl⟩
  clear l0 l1
  go_wp2_with fail
  go_ret
  exact ⟨rfl, hB0.trans ((hB1.mono hB0.size).trans (u.below.mono (Nat.le_trans hB0.size hB1.size)))⟩

end Go.Proofs.Ytjbbilnennhamaa
