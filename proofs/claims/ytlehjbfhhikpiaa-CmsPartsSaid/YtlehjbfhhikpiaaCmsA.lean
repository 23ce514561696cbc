/-
  The walks of the small functions of package cms and of its reference: sizes, columns, sums.
-/
import Derived.Test.YtlehjbfhhikpiaaChecked
import Derived.Test.YtlehjbfhhikpiaaBv
import Derived.Test.YtlehjbfhhikpiaaLater
import Derived.Laws.Externs
namespace Go.Proofs.Ytlehjbfhhikpiaa
open Go.RowKit
attribute [local go_sem] U_add U_sub U_xor U_or U_and

/-- Is this number of columns one of those that may be? -/
def isPow (k : Nat) : Bool := k == 4 || k == 8 || k == 16 || k == 32
def isSz (R C : Int) : Bool := decide (1 ≤ R) && decide (R ≤ 4) && (C == 4 || C == 8 || C == 16 || C == 32)

set_option maxRecDepth 100000 in
theorem ones64_any (k : Nat) (h4 : 4 ≤ k) (hk : k ≤ 32) (w : World) : Calls Try.prog 46 #[.int .u64 (k : Int)] w fun e w' => (∃ z : Int, e = .returned (.int .i64 z) ∧ (z == 1) = isPow k) ∧ w' = w := by
  go_enter Try.func46, Try.ntmps46
  go_wp2
  go_ret
  refine ⟨⟨_, rfl, ?_⟩, rfl⟩
  obtain ⟨j, rfl⟩ : ∃ j : Fin 33, k = j.val := ⟨⟨k, by omega⟩, rfl⟩
  clear hk
  revert h4
  revert j
  decide +kernel

set_option maxRecDepth 100000 in
theorem ones_any (k : Nat) (h4 : 4 ≤ k) (hk : k ≤ 32) (w : World) : Calls Try.prog 42 #[.int .u64 (k : Int)] w fun e w' => (∃ z : Int, e = .returned (.int .i64 z) ∧ (z == 1) = isPow k) ∧ w' = w := by
  go_enter Try.func42, Try.ntmps42
  go_wp2_with (go_at_call 46; refine (ones64_any k h4 hk _).mono ?_; rintro e w1 ⟨⟨z, rfl, hz⟩, rfl⟩)
  go_ret
  exact ⟨⟨_, rfl, hz⟩, rfl⟩

set_option maxRecDepth 100000 in
theorem isSize_any (R C : Int) (w : World) : Calls Try.prog 30 #[.int .i64 R, .int .i64 C] w fun e w' => e = .returned (.bool (isSz R C)) ∧ w' = w := by
  by_cases h : 1 ≤ R ∧ R ≤ 4 ∧ 4 ≤ C ∧ C ≤ 32
  · obtain ⟨h1, h2, h3, h4⟩ := h
    obtain ⟨k, rfl⟩ := Int.eq_ofNat_of_zero_le (a := C) (by omega)
    go_enter Try.func30, Try.ntmps30
    go_wp2_with (go_at_call 42; refine (ones_any k (by omega) (by omega) _).mono ?_; rintro e w1 ⟨⟨z, rfl, hz⟩, rfl⟩)
    go_ret
    refine ⟨?_, rfl⟩
    have e : isSz R k = isPow k := by
      unfold isSz isPow
      rw [decide_eq_true h1, decide_eq_true h2]
      simp only [Bool.true_and]
      have e4 : ((k : Int) == 4) = (k == 4) := by rw [Bool.eq_iff_iff, beq_iff_eq, beq_iff_eq]; omega
      have e8 : ((k : Int) == 8) = (k == 8) := by rw [Bool.eq_iff_iff, beq_iff_eq, beq_iff_eq]; omega
      have e16 : ((k : Int) == 16) = (k == 16) := by rw [Bool.eq_iff_iff, beq_iff_eq, beq_iff_eq]; omega
      have e32 : ((k : Int) == 32) = (k == 32) := by rw [Bool.eq_iff_iff, beq_iff_eq, beq_iff_eq]; omega
      rw [e4, e8, e16, e32]
    rw [e]
    rfl
  · by_cases h1 : 1 ≤ R
    · by_cases h2 : R ≤ 4
      · by_cases h3 : 4 ≤ C
        · have h4 : ¬ C ≤ 32 := fun h4 => h ⟨h1, h2, h3, h4⟩
          have e : isSz R C = false := by
            unfold isSz
            rw [decide_eq_true h1, decide_eq_true h2]
            simp
            omega
          go_enter Try.func30, Try.ntmps30
          go_wp2
          go_ret
          exact ⟨by first | rfl | (rw [e]; rfl), rfl⟩
        · have e : isSz R C = false := by
            unfold isSz
            rw [decide_eq_true h1, decide_eq_true h2]
            simp
            omega
          go_enter Try.func30, Try.ntmps30
          go_wp2
          go_ret
          exact ⟨by first | rfl | (rw [e]; rfl), rfl⟩
      · have e : isSz R C = false := by
          unfold isSz
          rw [decide_eq_false h2]
          simp
        go_enter Try.func30, Try.ntmps30
        go_wp2
        go_ret
        exact ⟨by first | rfl | (rw [e]; rfl), rfl⟩
    · have e : isSz R C = false := by
        unfold isSz
        rw [decide_eq_false h1]
        simp
      go_enter Try.func30, Try.ntmps30
      go_wp2
      go_ret
      exact ⟨by first | rfl | (rw [e]; rfl), rfl⟩

set_option maxRecDepth 100000 in
theorem refIs_any (R C : Int) (w : World) : Calls Try.prog 32 #[.int .i64 R, .int .i64 C] w fun e w' => e = .returned (.bool (isSz R C)) ∧ w' = w := by
  by_cases h1 : 1 ≤ R
  · by_cases h2 : R ≤ 4
    · have e : isSz R C = (C == 4 || C == 8 || C == 16 || C == 32) := by
        unfold isSz
        rw [decide_eq_true h1, decide_eq_true h2]
        rfl
      rw [e]
      obtain ⟨a, ha⟩ : ∃ a, (C == 4) = a := ⟨_, rfl⟩
      obtain ⟨b, hb⟩ : ∃ b, (C == 8) = b := ⟨_, rfl⟩
      obtain ⟨c, hc⟩ : ∃ c, (C == 16) = c := ⟨_, rfl⟩
      obtain ⟨d, hd⟩ : ∃ d, (C == 32) = d := ⟨_, rfl⟩
      rw [ha, hb, hc, hd]
      cases a <;> cases b <;> cases c <;> cases d <;> (go_enter Try.func32, Try.ntmps32; go_wp2; go_ret; exact ⟨rfl, rfl⟩)
    · have e : isSz R C = false := by
        unfold isSz
        rw [decide_eq_false h2]
        simp
      go_enter Try.func32, Try.ntmps32
      go_wp2
      go_ret
      exact ⟨by first | rfl | (rw [e]; rfl), rfl⟩
  · have e : isSz R C = false := by
      unfold isSz
      rw [decide_eq_false h1]
      simp
    go_enter Try.func32, Try.ntmps32
    go_wp2
    go_ret
    exact ⟨by first | rfl | (rw [e]; rfl), rfl⟩

set_option maxRecDepth 100000 in
theorem told_wrong (w : World) : Calls Try.prog 31 #[.iface 50 (.agg #[])] w fun e w' => e = .returned (.int .i64 80) ∧ Below w.heap.size w w' := by
  have ta : ∀ W : World, (Instr.typeAssert (.iface 50 (.agg #[])) 53 50 true).run Try.prog W = .ok (.tuple #[.agg #[], .bool true]) W := fun W => by kernel_rfl
  go_enter Try.func31, Try.ntmps31
  go_wp2
  go_ret
  exact ⟨rfl, (Below.refl _ w).alloc (Nat.le_refl _) _⟩

/-- A sum, saturated. -/
def sat (x y : BitVec 64) : BitVec 64 := if x.toNat + y.toNat < 18446744073709551616 then x + y else 18446744073709551615#64

theorem U_div_carry (x y : BitVec 64) : (U x + U y) / 18446744073709551616 = if x.toNat + y.toNat < 18446744073709551616 then 0 else 1 := by
  unfold U
  have := x.isLt
  have := y.isLt
  split <;> omega
theorem U_mod_sum (x y : BitVec 64) : (U x + U y) % 18446744073709551616 = U (x + y) := by
  rw [← U_add, IntKind.wrap_u64]
theorem add64_any (x y : BitVec 64) (w : World) : (callFunc 44 #[.int .u64 (U x), .int .u64 (U y), .int .u64 0]).run Try.prog w = .ok (.value (.tuple #[.int .u64 (U (x + y)), .int .u64 (if x.toNat + y.toNat < 18446744073709551616 then 0 else 1)])) w := by
  rw [run_callFunc_extern Try.func44 (by kernel_rfl) (by kernel_rfl) (by kernel_rfl) (e := add64Entry) (by kernel_rfl), run_add64 (U x) (U y) 0 (U_nonneg _) (U_nonneg _) (by omega) (by omega)]
  simp only [Result.andThen, Int.add_zero]
  rw [U_div_carry, U_mod_sum]

theorem add64_0 (x : BitVec 64) (w : World) : (callFunc 44 #[.int .u64 0, .int .u64 (U x), .int .u64 0]).run Try.prog w = .ok (.value (.tuple #[.int .u64 (U x), .int .u64 0])) w := by
  have h := add64_any 0#64 x w
  have e : (0#64 + x) = x := BitVec.zero_add x
  rw [e] at h
  have hl : (0#64).toNat + x.toNat < 18446744073709551616 := by have := x.isLt; simp; omega
  rw [if_pos hl] at h
  exact h

set_option maxRecDepth 100000 in
theorem plus_any (x y : BitVec 64) (b c : Nat) (w : World) (h0 : w.cell? ⟨b, 0, none⟩ = some (.int .u64 (U x))) (h1 : w.cell? ⟨b, 1, none⟩ = some (.int .u64 (U y))) :
    Calls Try.prog 35 #[.slice (some ⟨b, 0, none⟩) 2 c] w fun e w' => e = .returned (.int .u64 (U (sat x y))) ∧ w' = w := by
  have a0 := fun w => add64_0 x w
  by_cases h : x.toNat + y.toNat < 18446744073709551616
  · have a1 := fun w => add64_any x y w
    have hs : sat x y = x + y := by rw [sat, if_pos h]
    simp only [if_pos h] at a1
    have HS := Lib.hid hs
    clear hs h
    go_enter Try.func35, Try.ntmps35
    go_wp2_with fail
    refine wp_loop_rounds 3 ?_
    rw [rounds_succ]
    go_wp2_with fail
    rw [rounds_succ]
    go_wp2_with fail
    rw [rounds_succ]
    go_wp2_with fail
    go_ret
    exact ⟨by rw [HS.out]; rfl, rfl⟩
  · have a1 := fun w => add64_any x y w
    have hs : sat x y = 18446744073709551615#64 := by rw [sat, if_neg h]
    simp only [if_neg h] at a1
    have HS := Lib.hid hs
    clear hs h
    go_enter Try.func35, Try.ntmps35
    go_wp2_with fail
    refine wp_loop_rounds 3 ?_
    rw [rounds_succ]
    go_wp2_with fail
    rw [rounds_succ]
    go_wp2_with fail
    go_ret
    exact ⟨by rw [HS.out]; rfl, rfl⟩
end Go.Proofs.Ytlehjbfhhikpiaa
