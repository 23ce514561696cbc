/-
  The walks of the statements on rounds.
-/
import Derived.Test.YtjbbilnennhamaaShown
namespace Go.Proofs.Ytjbbilnennhamaa
open Go.RowKit Go.Shelf
attribute [local go_sem] U_add U_sub U_xor U_or U_and

def aggV (v : BitVec 64 × BitVec 64 × BitVec 64 × BitVec 64) : Value := .agg #[.int .u64 (U v.1), .int .u64 (U v.2.1), .int .u64 (U v.2.2.1), .int .u64 (U v.2.2.2)]

set_option maxRecDepth 100000 in
set_option maxHeartbeats 2000000 in
theorem walk_SipRounds (v : BitVec 64 × BitVec 64 × BitVec 64 × BitVec 64) (w : World) : Calls Try.prog 6 #[.agg #[.int .u64 (U v.1), .int .u64 (U v.2.1), .int .u64 (U v.2.2.1), .int .u64 (U v.2.2.2)]] w fun e w' =>
    e = .returned (.bool true) ∧ Below w.heap.size w w' := by
  have he := fun w => eq_arr4 (U (rnd v).1) (U (rnd v).2.1) (U (rnd v).2.2.1) (U (rnd v).2.2.2) (U (rnd v).1) (U (rnd v).2.1) (U (rnd v).2.2.1) (U (rnd v).2.2.2) w
  simp only [beq_self_eq_true, Bool.and_self] at he
  go_enter Try.func6, Try.ntmps6
  go_wp2_with fail
  refine abs_call (fun u => Below w.heap.size w u ∧ FourV u w.heap.size 32 v) ⟨(Below.refl _ w).alloc (Nat.le_refl _) _, new_at _ _ _ rfl⟩ ?_
  rintro w0 ⟨hB0, h0⟩
  refine (shown_any w0).mono ?_
  rintro e w1 ⟨rfl, hB1⟩
  have h1 : FourV w1 w.heap.size 32 v := (hB1.block _ (Four.lt h0)).trans h0
  obtain ⟨⟨c0, c1, c2, c3⟩, -⟩ := Four.facts h1
  have hlt := Four.lt h1
  go_wp2_with fail
  refine wp_region_later w1.heap.size (by kernel_rfl) (by kernel_rfl) ?_
  have l0 : ∀ s : Later w1.heap.size w1, s.W.cell? ⟨w.heap.size, 0, none⟩ = some _ := fun s => s.cell c0 hlt
  have l1 : ∀ s : Later w1.heap.size w1, s.W.cell? ⟨w.heap.size, 1, none⟩ = some _ := fun s => s.cell c1 hlt
  have l2 : ∀ s : Later w1.heap.size w1, s.W.cell? ⟨w.heap.size, 2, none⟩ = some _ := fun s => s.cell c2 hlt
  have l3 : ∀ s : Later w1.heap.size w1, s.W.cell? ⟨w.heap.size, 3, none⟩ = some _ := fun s => s.cell c3 hlt
  clear c0 c1 c2 c3
  repeat (go_big_quiet_step (first
    | (go_at_call 17; exact Calls.later (Nat.le_refl _) (Round_any v _))
    | (go_at_call 18; exact Calls.later (Nat.le_refl _) (refRound_any v _))
    | (go_at_call 16; exact Calls.later_same (same_any _ _ _))))
  refine wpQuiet_nil ?_
  rintro _ ⟨s, rfl⟩
  clear l0 l1 l2 l3
  go_wp2_with fail
  go_ret
  exact ⟨rfl, hB0.trans ((hB1.mono hB0.size).trans (s.below.mono (Nat.le_trans hB0.size hB1.size)))⟩

end Go.Proofs.Ytjbbilnennhamaa
