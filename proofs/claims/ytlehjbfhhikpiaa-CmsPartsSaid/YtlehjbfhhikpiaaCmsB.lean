/-
  Which counters are right, the columns that a number tells: the program's and the reference's.
-/
import Derived.Test.YtlehjbfhhikpiaaCmsA
namespace Go.Proofs.Ytlehjbfhhikpiaa
open Go.RowKit

/-- Behind a call a box of three cells, laid ahead of it, is as it was. -/
theorem box3 {w w1 : World} {a b c : Value} {T : TypeId} (hB : Below (w.alloc (.cells #[a, b, c] T)).heap.size (w.alloc (.cells #[a, b, c] T)) w1) :
    w1.cell? ⟨w.heap.size, 0, none⟩ = some a ∧ w1.cell? ⟨w.heap.size, 1, none⟩ = some b ∧ w1.cell? ⟨w.heap.size, 2, none⟩ = some c ∧ Below w.heap.size w w1 := by
  have h : w1.heap[w.heap.size]? = some (.cells #[a, b, c] T (0, 0)) := (hB.block w.heap.size (by simp)).trans (new_at w _ _ rfl)
  refine ⟨?_, ?_, ?_, ((Below.refl _ w).alloc (Nat.le_refl _) _).trans (hB.mono (by simp))⟩ <;> simp [World.cell?, h]
/-- The column that a number tells. -/
def colF (C r : Nat) (x : BitVec 64) : Nat := ((x.toNat / 4294967296 + r * (x.toNat % 4294967296)) % 18446744073709551616) % C
def isRight (R C : Int) (n : Nat) : Bool := isSz R C && ((n : Int) == R * C)

theorem isSz_out {R C : Int} (h : isSz R C = true) : 1 ≤ R ∧ R ≤ 4 ∧ (C = 4 ∨ C = 8 ∨ C = 16 ∨ C = 32) := by
  unfold isSz at h
  simp only [Bool.and_eq_true, Bool.or_eq_true, decide_eq_true_eq, beq_iff_eq] at h
  omega
theorem isRight_out {R C : Int} {n : Nat} (h : isRight R C n = true) : ∃ r c : Nat, R = (r : Int) ∧ C = (c : Int) ∧ 1 ≤ r ∧ r ≤ 4 ∧ (c = 4 ∨ c = 8 ∨ c = 16 ∨ c = 32) ∧ n = r * c := by
  unfold isRight at h
  simp only [Bool.and_eq_true, beq_iff_eq] at h
  obtain ⟨h1, h2, h3⟩ := isSz_out h.1
  obtain ⟨r, rfl⟩ := Int.eq_ofNat_of_zero_le (a := R) (by omega)
  obtain ⟨c, rfl⟩ := Int.eq_ofNat_of_zero_le (a := C) (by omega)
  refine ⟨r, c, rfl, rfl, by omega, by omega, by omega, ?_⟩
  have h := h.2
  have e : ((r * c : Nat) : Int) = (r : Int) * (c : Int) := by simp
  omega

theorem w64 (n : Int) (h : -9223372036854775808 ≤ n ∧ n ≤ 9223372036854775807) : wrap64 n = n := by unfold wrap64; omega
theorem and_lo (x : BitVec 64) : bits .and .u64 (U x) 4294967295 = ((x.toNat % 4294967296 : Nat) : Int) := by
  have e : (4294967295 : Int) = U 4294967295#64 := by decide +kernel
  rw [e, U_and]
  unfold U
  rw [BitVec.toNat_and]
  have h := Nat.and_two_pow_sub_one_eq_mod x.toNat 32
  have e2 : (4294967295#64).toNat = 2 ^ 32 - 1 := by decide +kernel
  rw [e2, h]
theorem and_low (y : BitVec 64) (j : Nat) (hj : j ≤ 5) : bits .and .u64 (U y) ((2 ^ j : Nat) - 1 : Int) = ((y.toNat % 2 ^ j : Nat) : Int) := by
  have e : ((2 ^ j : Nat) - 1 : Int) = U (BitVec.ofNat 64 (2 ^ j - 1)) := by
    obtain ⟨i, rfl⟩ : ∃ i : Fin 6, j = i.val := ⟨⟨j, by omega⟩, rfl⟩
    clear hj
    revert i
    decide +kernel
  have e2 : (BitVec.ofNat 64 (2 ^ j - 1)).toNat = 2 ^ j - 1 := by
    obtain ⟨i, rfl⟩ : ∃ i : Fin 6, j = i.val := ⟨⟨j, by omega⟩, rfl⟩
    clear hj e
    revert i
    decide +kernel
  rw [e, U_and]
  unfold U
  rw [BitVec.toNat_and, e2, Nat.and_two_pow_sub_one_eq_mod]
theorem col_eq (k r : Nat) (hk : k = 4 ∨ k = 8 ∨ k = 16 ∨ k = 32) (x : BitVec 64) :
    wrap64 (bits .and .u64 (IntKind.u64.wrap (U x / 4294967296 + IntKind.u64.wrap ((r : Int) * bits .and .u64 (U x) 4294967295))) ((k : Int) - 1)) = (colF k r x : Nat) := by
  rw [and_lo]
  obtain ⟨m, hm⟩ : ∃ m, x.toNat % 4294967296 = m := ⟨_, rfl⟩
  obtain ⟨q, hq⟩ : ∃ q, x.toNat / 4294967296 = q := ⟨_, rfl⟩
  have hU : U x / 4294967296 = (q : Int) := by unfold U; omega
  have hmul : (r : Int) * (m : Int) = ((r * m : Nat) : Int) := by simp
  have hsum : IntKind.u64.wrap (U x / 4294967296 + IntKind.u64.wrap ((r : Int) * (m : Int))) = U (BitVec.ofNat 64 (q + r * m)) := by
    rw [hU, hmul]
    obtain ⟨p, hp⟩ : ∃ p, r * m = p := ⟨_, rfl⟩
    rw [hp, IntKind.wrap_u64, IntKind.wrap_u64]
    unfold U
    rw [BitVec.toNat_ofNat]
    omega
  rw [hm, hsum]
  unfold colF
  rw [hm, hq]
  obtain ⟨p, hp⟩ : ∃ p, q + r * m = p := ⟨_, rfl⟩
  rw [hp]
  have fin : ∀ j, j ≤ 5 → k = 2 ^ j → wrap64 (bits .and .u64 (U (BitVec.ofNat 64 p)) ((k : Int) - 1)) = ((p % 18446744073709551616 % k : Nat) : Int) := by
    intro j hj e
    have h := and_low (BitVec.ofNat 64 p) j hj
    rw [← e] at h
    rw [h, BitVec.toNat_ofNat]
    have hlt : p % 18446744073709551616 % k < k := Nat.mod_lt _ (by omega)
    have e3 : (2 ^ 64 : Nat) = 18446744073709551616 := by decide
    rw [e3]
    obtain ⟨t, ht⟩ : ∃ t, p % 18446744073709551616 % k = t := ⟨_, rfl⟩
    rw [ht] at hlt ⊢
    exact w64 _ (by omega)
  rcases hk with rfl | rfl | rfl | rfl
  · exact fin 2 (by omega) rfl
  · exact fin 3 (by omega) rfl
  · exact fin 4 (by omega) rfl
  · exact fin 5 (by omega) rfl
/-- The reference's way. -/
theorem col_eq2 (k r : Nat) (hk : k = 4 ∨ k = 8 ∨ k = 16 ∨ k = 32) (x : BitVec 64) :
    wrap64 (IntKind.u64.wrap (U x / 4294967296 + IntKind.u64.wrap ((r : Int) * (U x % 4294967296))) % (k : Int)) = (colF k r x : Nat) := by
  obtain ⟨m, hm⟩ : ∃ m, x.toNat % 4294967296 = m := ⟨_, rfl⟩
  obtain ⟨q, hq⟩ : ∃ q, x.toNat / 4294967296 = q := ⟨_, rfl⟩
  have hU : U x / 4294967296 = (q : Int) := by unfold U; omega
  have hU2 : U x % 4294967296 = (m : Int) := by unfold U; omega
  have hmul : (r : Int) * (m : Int) = ((r * m : Nat) : Int) := by simp
  unfold colF
  rw [hU, hU2, hmul, hm, hq]
  obtain ⟨p, hp⟩ : ∃ p, r * m = p := ⟨_, rfl⟩
  rw [hp, IntKind.wrap_u64, IntKind.wrap_u64]
  have e : ((q : Int) + (p : Int) % 18446744073709551616) % 18446744073709551616 = (((q + p) % 18446744073709551616 : Nat) : Int) := by omega
  rw [e]
  obtain ⟨z, hz⟩ : ∃ z, (q + p) % 18446744073709551616 = z := ⟨_, rfl⟩
  rw [hz]
  have hlt : z % k < k := Nat.mod_lt _ (by omega)
  have e2 : (z : Int) % (k : Int) = ((z % k : Nat) : Int) := by simp
  rw [e2]
  obtain ⟨t, ht⟩ : ∃ t, z % k = t := ⟨_, rfl⟩
  rw [ht] at hlt ⊢
  have : k ≤ 32 := by omega
  exact w64 _ (by omega)

theorem col_eq3 (k r : Nat) (x : BitVec 64) (e2 : wrap64 (IntKind.u64.wrap (U x / 4294967296 + IntKind.u64.wrap ((r : Int) * (U x % 4294967296))) % (k : Int)) = (colF k r x : Nat)) :
    wrap64 ((IntKind.u64.wrap (IntKind.u64.wrap ((U x).tdiv 4294967296) + IntKind.u64.wrap ((r : Int) * (U x).tmod 4294967296))).tmod (k : Int)) = (colF k r x : Nat) := by
  have h0 := U_nonneg x
  have hl := U_lt x
  rw [Int.tdiv_eq_ediv_of_nonneg h0, Int.tmod_eq_emod_of_nonneg h0]
  have e : IntKind.u64.wrap (U x / 4294967296) = U x / 4294967296 := by rw [IntKind.wrap_u64]; omega
  rw [e, Int.tmod_eq_emod_of_nonneg]
  · exact e2
  · rw [IntKind.wrap_u64]; omega

set_option maxRecDepth 100000 in
theorem right_any (R C : Int) (A : Option Addr) (n c : Nat) (w : World) : Calls Try.prog 16 #[.agg #[.int .i64 R, .int .i64 C, .slice A n c]] w fun e w' => e = .returned (.bool (isRight R C n)) ∧ Below w.heap.size w w' := by
  have hi := isSize_any R C
  unfold isRight
  by_cases hz : isSz R C = true
  · obtain ⟨h1, h2, h3⟩ := isSz_out hz
    rw [hz] at hi ⊢
    have hm : IntKind.i64.wrap (R * C) = R * C := by
      rcases h3 with rfl | rfl | rfl | rfl <;> rw [IntKind.wrap_i64] <;> omega
    have HI := Lib.hid hi
    clear hi hz h3
    go_enter Try.func16, Try.ntmps16
    go_wp2_with (go_at_call 30; refine (HI.out _).mono ?_; rintro e w1 ⟨rfl, rfl⟩)
    go_ret
    exact ⟨rfl, (Below.refl _ w).alloc (Nat.le_refl _) _⟩
  · rw [Bool.not_eq_true] at hz
    rw [hz] at hi ⊢
    have HI := Lib.hid hi
    clear hi hz
    go_enter Try.func16, Try.ntmps16
    go_wp2_with (go_at_call 30; refine (HI.out _).mono ?_; rintro e w1 ⟨rfl, rfl⟩)
    go_ret
    exact ⟨rfl, (Below.refl _ w).alloc (Nat.le_refl _) _⟩

set_option maxRecDepth 100000 in
theorem col_any (k r : Nat) (hk : k = 4 ∨ k = 8 ∨ k = 16 ∨ k = 32) (hr : r < 4) (x : BitVec 64) (w : World) : Calls Try.prog 37 #[.int .i64 (k : Int), .int .i64 (r : Int), .int .u64 (U x)] w fun e w' => e = .returned (.int .i64 (colF k r x : Nat)) ∧ w' = w := by
  have hk4 : 4 ≤ k := by omega
  have hk32 : k ≤ 32 := by omega
  have HK := Lib.hid hk
  clear hk
  go_enter Try.func37, Try.ntmps37
  go_wp2
  go_ret
  refine ⟨?_, rfl⟩
  rw [← col_eq k r HK.out x]
  rfl

set_option maxRecDepth 100000 in
theorem refRight_any (R C : Int) (A : Option Addr) (n c : Nat) (w : World) : Calls Try.prog 17 #[.agg #[.int .i64 R, .int .i64 C, .slice A n c]] w fun e w' => e = .returned (.bool (isRight R C n)) ∧ Below w.heap.size w w' := by
  have hi := refIs_any R C
  unfold isRight
  by_cases hz : isSz R C = true
  · obtain ⟨h1, h2, h3⟩ := isSz_out hz
    rw [hz] at hi ⊢
    have hm : IntKind.i64.wrap (R * C) = R * C := by
      rcases h3 with rfl | rfl | rfl | rfl <;> rw [IntKind.wrap_i64] <;> omega
    have HI := Lib.hid hi
    clear hi hz h3
    go_enter Try.func17, Try.ntmps17
    go_wp2_with (go_at_call 32; refine (HI.out _).mono ?_; rintro e w1 ⟨rfl, rfl⟩)
    go_ret
    exact ⟨rfl, (Below.refl _ w).alloc (Nat.le_refl _) _⟩
  · rw [Bool.not_eq_true] at hz
    rw [hz] at hi ⊢
    have HI := Lib.hid hi
    clear hi hz
    go_enter Try.func17, Try.ntmps17
    go_wp2_with (go_at_call 32; refine (HI.out _).mono ?_; rintro e w1 ⟨rfl, rfl⟩)
    go_ret
    exact ⟨rfl, (Below.refl _ w).alloc (Nat.le_refl _) _⟩

/-- What is told of a column, whatever the counters and the row. -/
def colAt (R C : Int) (n : Nat) (row : Int) (x : BitVec 64) : Nat := if isRight R C n && decide (0 ≤ row) && decide (row < R) then colF C.toNat row.toNat x else 0

set_option maxRecDepth 100000 in
theorem Col_any (R C : Int) (A : Option Addr) (n c : Nat) (row : Int) (x : BitVec 64) (w : World) : Calls Try.prog 19 #[.agg #[.int .i64 R, .int .i64 C, .slice A n c], .int .i64 row, .int .u64 (U x)] w fun e w' =>
    e = .returned (.int .i64 (colAt R C n row x : Nat)) ∧ Below w.heap.size w w' := by
  have hr := right_any R C A n c
  unfold colAt
  by_cases hR : isRight R C n = true
  · rw [hR] at hr ⊢
    obtain ⟨r, k, rfl, rfl, h1, h2, hk, -⟩ := isRight_out hR
    have HR := Lib.hid hr
    clear hr hR
    by_cases h0 : 0 ≤ row
    · by_cases h3 : row < (r : Int)
      · obtain ⟨j, rfl⟩ := Int.eq_ofNat_of_zero_le h0
        have hc := fun w => col_any k j hk (by omega) x w
        rw [decide_eq_true h0, decide_eq_true h3]
        simp only [Bool.and_self, if_true, Int.toNat_natCast]
        generalize colF k j x = z at *
        have HC := Lib.hid hc
        clear hc hk
        go_enter Try.func19, Try.ntmps19
        go_wp2_with (first | (go_at_call 16; refine (HR.out _).mono ?_; rintro e w1 ⟨rfl, hB1⟩; obtain ⟨k0, k1, k2, hB⟩ := box3 hB1) | (go_at_call 37; refine (HC.out _).mono ?_; rintro e w2 ⟨rfl, rfl⟩))
        go_ret
        exact ⟨rfl, hB⟩
      · rw [decide_eq_false h3]
        simp only [Bool.and_false, Bool.false_eq_true, if_false]
        go_enter Try.func19, Try.ntmps19
        go_wp2_with (first | (go_at_call 16; refine (HR.out _).mono ?_; rintro e w1 ⟨rfl, hB1⟩; obtain ⟨k0, k1, k2, hB⟩ := box3 hB1))
        go_ret
        exact ⟨rfl, hB⟩
    · rw [decide_eq_false h0]
      simp only [Bool.and_false, Bool.false_and, Bool.false_eq_true, if_false]
      go_enter Try.func19, Try.ntmps19
      go_wp2_with (first | (go_at_call 16; refine (HR.out _).mono ?_; rintro e w1 ⟨rfl, hB1⟩; obtain ⟨k0, k1, k2, hB⟩ := box3 hB1))
      go_ret
      exact ⟨rfl, hB⟩
  · rw [Bool.not_eq_true] at hR
    rw [hR] at hr ⊢
    have HR := Lib.hid hr
    clear hr hR
    simp only [Bool.false_and, Bool.false_eq_true, if_false]
    go_enter Try.func19, Try.ntmps19
    go_wp2_with (first | (go_at_call 16; refine (HR.out _).mono ?_; rintro e w1 ⟨rfl, hB1⟩; obtain ⟨k0, k1, k2, hB⟩ := box3 hB1))
    go_ret
    exact ⟨rfl, hB⟩

set_option maxRecDepth 100000 in
theorem refCol_any (R C : Int) (A : Option Addr) (n c : Nat) (row : Int) (x : BitVec 64) (w : World) : Calls Try.prog 20 #[.agg #[.int .i64 R, .int .i64 C, .slice A n c], .int .i64 row, .int .u64 (U x)] w fun e w' =>
    e = .returned (.int .i64 (colAt R C n row x : Nat)) ∧ Below w.heap.size w w' := by
  have hr := refRight_any R C A n c
  unfold colAt
  by_cases hR : isRight R C n = true
  · rw [hR] at hr ⊢
    obtain ⟨r, k, rfl, rfl, h1, h2, hk, -⟩ := isRight_out hR
    have HR := Lib.hid hr
    clear hr hR
    by_cases h0 : 0 ≤ row
    · by_cases h3 : row < (r : Int)
      · obtain ⟨j, rfl⟩ := Int.eq_ofNat_of_zero_le h0
        have hc := col_eq3 k j x (col_eq2 k j hk x)
        rw [decide_eq_true h0, decide_eq_true h3]
        simp only [Bool.and_self, if_true, Int.toNat_natCast]
        generalize colF k j x = z at *
        have hk4 : 4 ≤ k := by omega
        have hk32 : k ≤ 32 := by omega
        have HC := Lib.hid hc
        clear hc hk
        go_enter Try.func20, Try.ntmps20
        go_wp2_with (first | (go_at_call 17; refine (HR.out _).mono ?_; rintro e w1 ⟨rfl, hB1⟩; obtain ⟨k0, k1, k2, hB⟩ := box3 hB1))
        go_ret
        exact ⟨by rw [← HC.out]; rfl, hB⟩
      · rw [decide_eq_false h3]
        simp only [Bool.and_false, Bool.false_eq_true, if_false]
        go_enter Try.func20, Try.ntmps20
        go_wp2_with (first | (go_at_call 17; refine (HR.out _).mono ?_; rintro e w1 ⟨rfl, hB1⟩; obtain ⟨k0, k1, k2, hB⟩ := box3 hB1))
        go_ret
        exact ⟨rfl, hB⟩
    · rw [decide_eq_false h0]
      simp only [Bool.and_false, Bool.false_and, Bool.false_eq_true, if_false]
      go_enter Try.func20, Try.ntmps20
      go_wp2_with (first | (go_at_call 17; refine (HR.out _).mono ?_; rintro e w1 ⟨rfl, hB1⟩; obtain ⟨k0, k1, k2, hB⟩ := box3 hB1))
      go_ret
      exact ⟨rfl, hB⟩
  · rw [Bool.not_eq_true] at hR
    rw [hR] at hr ⊢
    have HR := Lib.hid hr
    clear hr hR
    simp only [Bool.false_and, Bool.false_eq_true, if_false]
    go_enter Try.func20, Try.ntmps20
    go_wp2_with (first | (go_at_call 17; refine (HR.out _).mono ?_; rintro e w1 ⟨rfl, hB1⟩; obtain ⟨k0, k1, k2, hB⟩ := box3 hB1))
    go_ret
    exact ⟨rfl, hB⟩

end Go.Proofs.Ytlehjbfhhikpiaa
