/-
  The walks of the statements on rounds.
-/
import Derived.Test.YtjbbilnennhamaaShown
import Derived.Test.YtjbbilnennhamaaInv
namespace Go.Proofs.Ytjbbilnennhamaa
open Go.RowKit Go.Shelf
attribute [local go_sem] U_add U_sub U_xor U_or U_and

def aggV (v : BitVec 64 × BitVec 64 × BitVec 64 × BitVec 64) : Value := .agg #[.int .u64 (U v.1), .int .u64 (U v.2.1), .int .u64 (U v.2.2.1), .int .u64 (U v.2.2.2)]

set_option maxRecDepth 100000 in
set_option maxHeartbeats 2000000 in
theorem walk_SipRounds (v : BitVec 64 × BitVec 64 × BitVec 64 × BitVec 64) (w : World) : Calls Try.prog 6 #[.agg #[.int .u64 (U v.1), .int .u64 (U v.2.1), .int .u64 (U v.2.2.1), .int .u64 (U v.2.2.2)]] w fun e w' =>
    e = .returned (.bool true) ∧ Below w.heap.size w w' := by
  have he := fun w => eq_arr4 (U (rnd v).1) (U (rnd v).2.1) (U (rnd v).2.2.1) (U (rnd v).2.2.2) (U (rnd v).1) (U (rnd v).2.1) (U (rnd v).2.2.1) (U (rnd v).2.2.2) w
  simp only [beq_self_eq_true, Bool.and_self] at he
  go_enter Try.func6, Try.ntmps6
  go_wp2_with fail
  refine abs_call (fun u => Below w.heap.size w u ∧ FourV u w.heap.size 32 v) ⟨(Below.refl _ w).alloc (Nat.le_refl _) _, new_at _ _ _ rfl⟩ ?_
  rintro w0 ⟨hB0, h0⟩
  refine (shown_any w0).mono ?_
  rintro e w1 ⟨rfl, hB1⟩
  have h1 : FourV w1 w.heap.size 32 v := (hB1.block _ (Four.lt h0)).trans h0
  obtain ⟨⟨c0, c1, c2, c3⟩, -⟩ := Four.facts h1
  have hlt := Four.lt h1
  go_wp2_with fail
  refine wp_region_later w1.heap.size (by kernel_rfl) (by kernel_rfl) ?_
  have l0 : ∀ s : Later w1.heap.size w1, s.W.cell? ⟨w.heap.size, 0, none⟩ = some _ := fun s => s.cell c0 hlt
  have l1 : ∀ s : Later w1.heap.size w1, s.W.cell? ⟨w.heap.size, 1, none⟩ = some _ := fun s => s.cell c1 hlt
  have l2 : ∀ s : Later w1.heap.size w1, s.W.cell? ⟨w.heap.size, 2, none⟩ = some _ := fun s => s.cell c2 hlt
  have l3 : ∀ s : Later w1.heap.size w1, s.W.cell? ⟨w.heap.size, 3, none⟩ = some _ := fun s => s.cell c3 hlt
  clear c0 c1 c2 c3
  repeat (go_big_quiet_step (first
    | (go_at_call 17; exact Calls.later (Nat.le_refl _) (Round_any v _))
    | (go_at_call 18; exact Calls.later (Nat.le_refl _) (refRound_any v _))
    | (go_at_call 16; exact Calls.later_same (same_any _ _ _))))
  refine wpQuiet_nil ?_
  rintro _ ⟨s, rfl⟩
  clear l0 l1 l2 l3
  go_wp2_with fail
  go_ret
  exact ⟨rfl, hB0.trans ((hB1.mono hB0.size).trans (s.below.mono (Nat.le_trans hB0.size hB1.size)))⟩

set_option maxRecDepth 100000 in
set_option maxHeartbeats 2000000 in
theorem walk_SipBack (v : BitVec 64 × BitVec 64 × BitVec 64 × BitVec 64) (w : World) : Calls Try.prog 7 #[.agg #[.int .u64 (U v.1), .int .u64 (U v.2.1), .int .u64 (U v.2.2.1), .int .u64 (U v.2.2.2)]] w fun e w' =>
    e = .returned (.bool true) ∧ Below w.heap.size w w' := by
  have he := fun w => eq_arr4 (U v.1) (U v.2.1) (U v.2.2.1) (U v.2.2.2) (U v.1) (U v.2.1) (U v.2.2.1) (U v.2.2.2) w
  simp only [beq_self_eq_true, Bool.and_self] at he
  have hB := fun w => refBack_any (rnd v) w
  rw [bck_rnd] at hB
  have hR := fun w => Round_any (bck v) w
  rw [rnd_bck] at hR
  have HB := Lib.hid hB
  have HR := Lib.hid hR
  clear hB hR
  go_enter Try.func7, Try.ntmps7
  go_wp2_with fail
  refine abs_call (fun u => Below w.heap.size w u ∧ FourV u w.heap.size 32 v) ⟨(Below.refl _ w).alloc (Nat.le_refl _) _, new_at _ _ _ rfl⟩ ?_
  rintro w0 ⟨hB0, h0⟩
  refine (shown_any w0).mono ?_
  rintro e w1 ⟨rfl, hB1⟩
  have h1 : FourV w1 w.heap.size 32 v := (hB1.block _ (Four.lt h0)).trans h0
  obtain ⟨⟨c0, c1, c2, c3⟩, -⟩ := Four.facts h1
  have hlt := Four.lt h1
  go_wp2_with fail
  refine wp_region_later w1.heap.size (by kernel_rfl) (by kernel_rfl) ?_
  have l0 : ∀ s : Later w1.heap.size w1, s.W.cell? ⟨w.heap.size, 0, none⟩ = some _ := fun s => s.cell c0 hlt
  have l1 : ∀ s : Later w1.heap.size w1, s.W.cell? ⟨w.heap.size, 1, none⟩ = some _ := fun s => s.cell c1 hlt
  have l2 : ∀ s : Later w1.heap.size w1, s.W.cell? ⟨w.heap.size, 2, none⟩ = some _ := fun s => s.cell c2 hlt
  have l3 : ∀ s : Later w1.heap.size w1, s.W.cell? ⟨w.heap.size, 3, none⟩ = some _ := fun s => s.cell c3 hlt
  clear c0 c1 c2 c3
  repeat (go_big_quiet_step (first
    | (go_at_call 17; with_reducible exact Calls.later (Nat.le_refl _) (Round_any v _))
    | (go_at_call 17; with_reducible exact Calls.later (Nat.le_refl _) (HR.out _))
    | (go_at_call 19; with_reducible exact Calls.later (Nat.le_refl _) (HB.out _))
    | (go_at_call 19; with_reducible exact Calls.later (Nat.le_refl _) (refBack_any v _))))
  refine wpQuiet_nil ?_
  rintro _ ⟨s, rfl⟩
  clear l0 l1 l2 l3
  go_wp2_with fail
  go_ret
  exact ⟨rfl, hB0.trans ((hB1.mono hB0.size).trans (s.below.mono (Nat.le_trans hB0.size hB1.size)))⟩

set_option maxRecDepth 100000 in
set_option maxHeartbeats 2000000 in
theorem walk_SipApart (v x : BitVec 64 × BitVec 64 × BitVec 64 × BitVec 64) (w : World) : Calls Try.prog 8 #[.agg #[.int .u64 (U v.1), .int .u64 (U v.2.1), .int .u64 (U v.2.2.1), .int .u64 (U v.2.2.2)], .agg #[.int .u64 (U x.1), .int .u64 (U x.2.1), .int .u64 (U x.2.2.1), .int .u64 (U x.2.2.2)]] w fun e w' =>
    e = .returned (.bool true) ∧ Below w.heap.size w w' := by
  have he := fun w => eq_arr4 (U v.1) (U v.2.1) (U v.2.2.1) (U v.2.2.2) (U x.1) (U x.2.1) (U x.2.2.1) (U x.2.2.2) w
  have hr := fun w => eq_arr4 (U (rnd v).1) (U (rnd v).2.1) (U (rnd v).2.2.1) (U (rnd v).2.2.2) (U (rnd x).1) (U (rnd x).2.1) (U (rnd x).2.2.1) (U (rnd x).2.2.2) w
  obtain ⟨b, hb⟩ : ∃ b, eq4 v x = b := ⟨_, rfl⟩
  have hb' := (eq4_rnd v x).trans hb
  simp only [eq4] at hb hb'
  simp only [hb] at he
  simp only [hb'] at hr
  clear hb hb'
  go_enter Try.func8, Try.ntmps8
  go_wp2_with fail
  refine abs_call (fun u => Below w.heap.size w u ∧ FourV u w.heap.size 32 v ∧ FourV u (w.heap.size + 1) 32 x) ⟨((Below.refl _ w).alloc (Nat.le_refl _) _).alloc (by simp) _, old_at (new_at _ _ _ rfl), new_at _ _ _ (by simp)⟩ ?_
  rintro w0 ⟨hB0, h0, g0⟩
  refine (shown_any w0).mono ?_
  rintro e w1 ⟨rfl, hB1⟩
  have h1 : FourV w1 w.heap.size 32 v := (hB1.block _ (Four.lt h0)).trans h0
  have g1 : FourV w1 (w.heap.size + 1) 32 x := (hB1.block _ (Four.lt g0)).trans g0
  obtain ⟨⟨c0, c1, c2, c3⟩, -⟩ := Four.facts h1
  obtain ⟨⟨d0, d1, d2, d3⟩, -⟩ := Four.facts g1
  have hlt := Four.lt h1
  have glt := Four.lt g1
  go_wp2_with fail
  refine wp_region_later w1.heap.size (by kernel_rfl) (by kernel_rfl) ?_
  have l0 : ∀ s : Later w1.heap.size w1, s.W.cell? ⟨w.heap.size, 0, none⟩ = some _ := fun s => s.cell c0 hlt
  have l1 : ∀ s : Later w1.heap.size w1, s.W.cell? ⟨w.heap.size, 1, none⟩ = some _ := fun s => s.cell c1 hlt
  have l2 : ∀ s : Later w1.heap.size w1, s.W.cell? ⟨w.heap.size, 2, none⟩ = some _ := fun s => s.cell c2 hlt
  have l3 : ∀ s : Later w1.heap.size w1, s.W.cell? ⟨w.heap.size, 3, none⟩ = some _ := fun s => s.cell c3 hlt
  have m0 : ∀ s : Later w1.heap.size w1, s.W.cell? ⟨w.heap.size + 1, 0, none⟩ = some _ := fun s => s.cell d0 glt
  have m1 : ∀ s : Later w1.heap.size w1, s.W.cell? ⟨w.heap.size + 1, 1, none⟩ = some _ := fun s => s.cell d1 glt
  have m2 : ∀ s : Later w1.heap.size w1, s.W.cell? ⟨w.heap.size + 1, 2, none⟩ = some _ := fun s => s.cell d2 glt
  have m3 : ∀ s : Later w1.heap.size w1, s.W.cell? ⟨w.heap.size + 1, 3, none⟩ = some _ := fun s => s.cell d3 glt
  clear c0 c1 c2 c3 d0 d1 d2 d3
  repeat (go_big_quiet_step (first
    | (go_at_call 17; with_reducible exact Calls.later (Nat.le_refl _) (Round_any v _))
    | (go_at_call 17; with_reducible exact Calls.later (Nat.le_refl _) (Round_any x _))))
  refine wpQuiet_nil ?_
  rintro _ ⟨s, rfl⟩
  clear l0 l1 l2 l3 m0 m1 m2 m3
  go_wp2_with fail
  go_ret
  exact ⟨rfl, hB0.trans ((hB1.mono hB0.size).trans (s.below.mono (Nat.le_trans hB0.size hB1.size)))⟩

end Go.Proofs.Ytjbbilnennhamaa
