/-
  The walk of the statement on what is merged twice.
-/
import Derived.Test.YtlehjbfhhikpiaaCmsS
namespace Go.Proofs.Ytlehjbfhhikpiaa
open Go.RowKit

set_option maxRecDepth 100000 in
set_option maxHeartbeats 4000000 in
theorem walk_CmsTwice {w : World} (rows cols : Int) (A : Option Addr) (c : Nat) (its : List (BitVec 64 × BitVec 64)) (hlc : its.length ≤ c) (hI : ItAt w w.heap.size A its) (x : BitVec 64) :
    Calls Try.prog 7 #[.int .i64 rows, .int .i64 cols, .slice A its.length c, .int .u64 (U x)] w fun e w' => e = .returned (.bool true) ∧ Below w.heap.size w w' := by
  have hI2 := hI.take 100
  have htl : (its.take 100).length = min its.length 100 := by rw [List.length_take]; omega
  obtain ⟨J, hJ⟩ : ∃ J, its.take 100 = J := ⟨_, rfl⟩
  rw [hJ] at hI2 htl
  obtain ⟨n, hn⟩ : ∃ n, its.length = n := ⟨_, rfl⟩
  rw [hn] at htl hlc ⊢
  obtain ⟨m, hm⟩ : ∃ m, min n 100 = m := ⟨_, rfl⟩
  have hmi : (if 100 < (n : Int) then (100 : Int) else (n : Int)) = (m : Int) := by split <;> omega
  have hmc : m ≤ c := by omega
  have hm100 : m ≤ 100 := by omega
  have HM := Lib.hid (htl.trans hm)
  have hI := hI2
  clear hI2 htl hJ hn hm
  by_cases hz : isSz rows cols = true
  · obtain ⟨r, k, q, rfl, rfl, hf⟩ := Fit.of hz
    clear hz
    have hlz := zeros_length q
    have hlx := (ofZ_length r k J).trans hf.q
    have hct := count_twice (r := r) hf.pos.1 x (ofZ r k J)
    have hmz := merge_zeros r k (ofZ r k J) (ofZ_length r k J)
    rw [hf.q] at hmz
    obtain ⟨X, hX⟩ : ∃ X, ofZ r k J = X := ⟨_, rfl⟩
    rw [hX] at hct hmz hlx
    have hrt := hf.right
    have HZ := Lib.hid hlz
    clear hlz
    have HX := Lib.hid hlx
    clear hlx
    have HCt := Lib.hid hct
    clear hct
    have HMz := Lib.hid hmz
    clear hmz
    have HXe := Lib.hid hX
    clear hX
    have HF := Lib.hid hf
    clear hf
    have HRt := Lib.hid hrt
    clear hrt
    have hlj : (joinTo k (pairAt k X X) r).length = q := (joinTo_length _ _ _).trans HF.out.q
    have HLj := Lib.hid hlj
    clear hlj
    go_enter Try.func7, Try.ntmps7
    have hB : Below w.heap.size w w := Below.refl _ w
    go_wp2_with fail
    refine (shown_any _).mono ?_
    rintro e u1 ⟨rfl, hC⟩
    replace hI := hI.later hC
    replace hB := hB.trans (hC.mono hB.size)
    clear hC
    go_wp2_with fail
    refine (of_made HF.out A m c J HM.out (by omega) _ hI).mono ?_
    rintro e u2 ⟨hC, g_x, c_x, rfl, hg, r_x⟩
    rw [HXe.out] at r_x
    clear hg
    replace hI := hI.later hC
    replace hB := hB.trans (hC.mono hB.size)
    clear hC
    go_wp2_with fail
    have hA : Below u2.heap.size u2 (u2.alloc (.cells #[.int .i64 (r : Int), .int .i64 (k : Int), .slice (some ⟨g_x, 0, none⟩) q c_x] 24)) := (Below.refl _ u2).alloc (Nat.le_refl _) _
    replace hI := hI.later hA
    replace r_x := r_x.later hA
    replace hB := hB.trans (hA.mono hB.size)
    have k_x := new_at u2 (.cells #[.int .i64 (r : Int), .int .i64 (k : Int), .slice (some ⟨g_x, 0, none⟩) q c_x] 24) _ rfl
    obtain ⟨b_x, hb⟩ : ∃ b, u2.heap.size = b := ⟨_, rfl⟩
    rw [hb] at k_x ⊢
    clear hA hb
    generalize u2.alloc (.cells #[.int .i64 (r : Int), .int .i64 (k : Int), .slice (some ⟨g_x, 0, none⟩) q c_x] 24) = u3 at *
    clear u2
    refine (New_made HF.out _).mono ?_
    rintro e u4 ⟨hC, g_n, c_n, rfl, hg, r_n⟩
    clear hg
    replace hI := hI.later hC
    replace r_x := r_x.later hC
    replace k_x := keep k_x hC
    replace hB := hB.trans (hC.mono hB.size)
    clear hC
    have x_x_0 := old_cell (cell_at k_x 0)
    have x_x_1 := old_cell (cell_at k_x 1)
    have x_x_2 := old_cell (cell_at k_x 2)
    go_wp2_with fail
    clear x_x_0 x_x_1 x_x_2
    have hA : Below u4.heap.size u4 (u4.alloc (.cells #[.int .i64 (r : Int), .int .i64 (k : Int), .slice (some ⟨g_n, 0, none⟩) q c_n] 24)) := (Below.refl _ u4).alloc (Nat.le_refl _) _
    replace hI := hI.later hA
    replace r_x := r_x.later hA
    replace k_x := keep k_x hA
    replace r_n := r_n.later hA
    replace hB := hB.trans (hA.mono hB.size)
    have k_n := new_at u4 (.cells #[.int .i64 (r : Int), .int .i64 (k : Int), .slice (some ⟨g_n, 0, none⟩) q c_n] 24) _ rfl
    obtain ⟨b_n, hb⟩ : ∃ b, u4.heap.size = b := ⟨_, rfl⟩
    rw [hb] at k_n ⊢
    clear hA hb
    generalize u4.alloc (.cells #[.int .i64 (r : Int), .int .i64 (k : Int), .slice (some ⟨g_n, 0, none⟩) q c_n] 24) = u5 at *
    clear u4
    refine (Merge_made HF.out _ _ c_x c_x X X HX.out HX.out _ (r_x.at_ r_x.lt) (r_x.at_ r_x.lt)).mono ?_
    rintro e u6 ⟨hC, g_a, c_a, rfl, hg, r_a⟩
    clear hg
    replace hI := hI.later hC
    replace r_x := r_x.later hC
    replace k_x := keep k_x hC
    replace r_n := r_n.later hC
    replace k_n := keep k_n hC
    replace hB := hB.trans (hC.mono hB.size)
    clear hC
    have x_x_0 := old_cell (cell_at k_x 0)
    have x_x_1 := old_cell (cell_at k_x 1)
    have x_x_2 := old_cell (cell_at k_x 2)
    have x_n_0 := old_cell (cell_at k_n 0)
    have x_n_1 := old_cell (cell_at k_n 1)
    have x_n_2 := old_cell (cell_at k_n 2)
    go_wp2_with fail
    clear x_x_0 x_x_1 x_x_2 x_n_0 x_n_1 x_n_2
    have hA : Below u6.heap.size u6 (u6.alloc (.cells #[.int .i64 (r : Int), .int .i64 (k : Int), .slice (some ⟨g_a, 0, none⟩) q c_a] 24)) := (Below.refl _ u6).alloc (Nat.le_refl _) _
    replace hI := hI.later hA
    replace r_x := r_x.later hA
    replace k_x := keep k_x hA
    replace r_n := r_n.later hA
    replace k_n := keep k_n hA
    replace r_a := r_a.later hA
    replace hB := hB.trans (hA.mono hB.size)
    have k_a := new_at u6 (.cells #[.int .i64 (r : Int), .int .i64 (k : Int), .slice (some ⟨g_a, 0, none⟩) q c_a] 24) _ rfl
    obtain ⟨b_a, hb⟩ : ∃ b, u6.heap.size = b := ⟨_, rfl⟩
    rw [hb] at k_a ⊢
    clear hA hb
    generalize u6.alloc (.cells #[.int .i64 (r : Int), .int .i64 (k : Int), .slice (some ⟨g_a, 0, none⟩) q c_a] 24) = u7 at *
    clear u6
    refine (Merge_made HF.out _ _ c_n c_x (zeros q) X HZ.out HX.out _ (r_n.at_ r_n.lt) (r_x.at_ r_x.lt)).mono ?_
    rintro e u8 ⟨hC, g_b, c_b, rfl, hg, r_b⟩
    rw [HMz.out] at r_b
    clear hg
    replace hI := hI.later hC
    replace r_x := r_x.later hC
    replace k_x := keep k_x hC
    replace r_n := r_n.later hC
    replace k_n := keep k_n hC
    replace r_a := r_a.later hC
    replace k_a := keep k_a hC
    replace hB := hB.trans (hC.mono hB.size)
    clear hC
    have x_x_0 := old_cell (cell_at k_x 0)
    have x_x_1 := old_cell (cell_at k_x 1)
    have x_x_2 := old_cell (cell_at k_x 2)
    go_wp2_with fail
    clear x_x_0 x_x_1 x_x_2
    have hA : Below u8.heap.size u8 (u8.alloc (.cells #[.int .i64 (r : Int), .int .i64 (k : Int), .slice (some ⟨g_b, 0, none⟩) q c_b] 24)) := (Below.refl _ u8).alloc (Nat.le_refl _) _
    replace hI := hI.later hA
    replace r_x := r_x.later hA
    replace k_x := keep k_x hA
    replace r_n := r_n.later hA
    replace k_n := keep k_n hA
    replace r_a := r_a.later hA
    replace k_a := keep k_a hA
    replace r_b := r_b.later hA
    replace hB := hB.trans (hA.mono hB.size)
    have k_b := new_at u8 (.cells #[.int .i64 (r : Int), .int .i64 (k : Int), .slice (some ⟨g_b, 0, none⟩) q c_b] 24) _ rfl
    obtain ⟨b_b, hb⟩ : ∃ b, u8.heap.size = b := ⟨_, rfl⟩
    rw [hb] at k_b ⊢
    clear hA hb
    generalize u8.alloc (.cells #[.int .i64 (r : Int), .int .i64 (k : Int), .slice (some ⟨g_b, 0, none⟩) q c_b] 24) = u9 at *
    clear u8
    refine (Count_fit HF.out _ c_x X HX.out x _ (r_x.at_ r_x.lt)).mono ?_
    rintro e u10 ⟨hC, rfl⟩
    replace hI := hI.later hC
    replace r_x := r_x.later hC
    replace k_x := keep k_x hC
    replace r_n := r_n.later hC
    replace k_n := keep k_n hC
    replace r_a := r_a.later hC
    replace k_a := keep k_a hC
    replace r_b := r_b.later hC
    replace k_b := keep k_b hC
    replace hB := hB.trans (hC.mono hB.size)
    clear hC
    have x_a_0 := cell_at k_a 0
    have x_a_1 := cell_at k_a 1
    have x_a_2 := cell_at k_a 2
    go_wp2_with fail
    clear x_a_0 x_a_1 x_a_2
    refine (Count_fit HF.out _ c_a _ HLj.out x _ (r_a.at_ r_a.lt)).mono ?_
    rintro e u11 ⟨hC, rfl⟩
    replace hI := hI.later hC
    replace r_x := r_x.later hC
    replace k_x := keep k_x hC
    replace r_n := r_n.later hC
    replace k_n := keep k_n hC
    replace r_a := r_a.later hC
    replace k_a := keep k_a hC
    replace r_b := r_b.later hC
    replace k_b := keep k_b hC
    replace hB := hB.trans (hC.mono hB.size)
    clear hC
    go_wp2_with fail
    refine (refPlus_any _ _ _).mono ?_
    rintro e v ⟨rfl, rfl⟩
    rw [HCt.out]
    have x_b_0 := cell_at k_b 0
    have x_b_1 := cell_at k_b 1
    have x_b_2 := cell_at k_b 2
    have x_x_0 := cell_at k_x 0
    have x_x_1 := cell_at k_x 1
    have x_x_2 := cell_at k_x 2
    go_wp2_with fail
    clear x_b_0 x_b_1 x_b_2 x_x_0 x_x_1 x_x_2
    refine (Same_fit HF.out _ _ c_b c_x X HX.out _ (r_b.at_ r_b.lt) (r_x.at_ r_x.lt)).mono ?_
    rintro e u12 ⟨rfl, hC⟩
    replace hI := hI.later hC
    replace r_x := r_x.later hC
    replace k_x := keep k_x hC
    replace r_n := r_n.later hC
    replace k_n := keep k_n hC
    replace r_a := r_a.later hC
    replace k_a := keep k_a hC
    replace r_b := r_b.later hC
    replace k_b := keep k_b hC
    replace hB := hB.trans (hC.mono hB.size)
    clear hC
    have x_a_0 := cell_at k_a 0
    have x_a_1 := cell_at k_a 1
    have x_a_2 := cell_at k_a 2
    go_wp2_with fail
    clear x_a_0 x_a_1 x_a_2
    refine (Right_fit HF.out _ c_a _).mono ?_
    rintro e u13 ⟨rfl, hC⟩
    replace hI := hI.later hC
    replace r_x := r_x.later hC
    replace k_x := keep k_x hC
    replace r_n := r_n.later hC
    replace k_n := keep k_n hC
    replace r_a := r_a.later hC
    replace k_a := keep k_a hC
    replace r_b := r_b.later hC
    replace k_b := keep k_b hC
    replace hB := hB.trans (hC.mono hB.size)
    clear hC
    go_wp2_with fail
    go_ret
    exact ⟨rfl, hB⟩
  · rw [Bool.not_eq_true] at hz
    have HZ := Lib.hid hz
    clear hz
    go_enter Try.func7, Try.ntmps7
    have hB : Below w.heap.size w w := Below.refl _ w
    go_wp2_with fail
    refine (shown_any _).mono ?_
    rintro e u1 ⟨rfl, hC⟩
    replace hI := hI.later hC
    replace hB := hB.trans (hC.mono hB.size)
    clear hC
    go_wp2_with fail
    refine (of_bad HZ.out A m c _).mono ?_
    rintro e u2 ⟨rfl, hC⟩
    replace hI := hI.later hC
    replace hB := hB.trans (hC.mono hB.size)
    clear hC
    go_wp2_with fail
    have hA : Below u2.heap.size u2 (u2.alloc (.cells #[.int .i64 0, .int .i64 0, .slice none 0 0] 24)) := (Below.refl _ u2).alloc (Nat.le_refl _) _
    replace hI := hI.later hA
    replace hB := hB.trans (hA.mono hB.size)
    have k_x := new_at u2 (.cells #[.int .i64 0, .int .i64 0, .slice none 0 0] 24) _ rfl
    obtain ⟨b_x, hb⟩ : ∃ b, u2.heap.size = b := ⟨_, rfl⟩
    rw [hb] at k_x ⊢
    clear hA hb
    generalize u2.alloc (.cells #[.int .i64 0, .int .i64 0, .slice none 0 0] 24) = u3 at *
    clear u2
    go_ret
    exact ⟨rfl, hB⟩
end Go.Proofs.Ytlehjbfhhikpiaa
