/-
  The walk of the statement on parts and orders.
-/
import Derived.Test.YtlehjbfhhikpiaaCmsT
namespace Go.Proofs.Ytlehjbfhhikpiaa
open Go.RowKit

set_option maxRecDepth 100000 in
set_option maxHeartbeats 4000000 in
theorem walk_CmsPartsGood {w : World} {r k q : Nat} (hf : Fit r k q) (A : Option Addr) (c : Nat) (its : List (BitVec 64 × BitVec 64)) (hlc : its.length ≤ c) (hI : ItAt w w.heap.size A its) (at_ : Int) :
    Calls Try.prog 6 #[.int .i64 (r : Int), .int .i64 (k : Int), .slice A its.length c, .int .i64 at_] w fun e w' => e = .returned (.bool true) ∧ Below w.heap.size w w' := by
  have hI2 := hI.take 100
  have htl : (its.take 100).length = min its.length 100 := by rw [List.length_take]; omega
  obtain ⟨J, hJ⟩ : ∃ J, its.take 100 = J := ⟨_, rfl⟩
  rw [hJ] at hI2 htl
  obtain ⟨n, hn⟩ : ∃ n, its.length = n := ⟨_, rfl⟩
  rw [hn] at htl hlc ⊢
  obtain ⟨m, hm⟩ : ∃ m, min n 100 = m := ⟨_, rfl⟩
  have hmi : (if 100 < (n : Int) then (100 : Int) else (n : Int)) = (m : Int) := by split <;> omega
  have hmc : m ≤ c := by omega
  have hm100 : m ≤ 100 := by omega
  have HM := Lib.hid (htl.trans hm)
  have hI := hI2
  clear hI2 htl hJ hn hm
  obtain ⟨z, hmin⟩ : ∃ z : Int, (if (m : Int) < at_ then (m : Int) else at_) = z := ⟨_, rfl⟩
  obtain ⟨p, hmax⟩ : ∃ p : Nat, (if 0 < z then z else 0) = (p : Int) := ⟨z.toNat, by split <;> omega⟩
  have hpm : p ≤ m := by split at hmax <;> split at hmin <;> omega
  have hpc : p ≤ c := by omega
  obtain ⟨A2, hA2⟩ : ∃ A2, (if c = p then A else A.map (·.add (p * 2))) = A2 := ⟨_, rfl⟩
  have hcut : ∀ w : World, (Instr.slice 37 (.slice A m c) (some (.int .i64 (p : Int))) none none).run Try.prog w = .ok (.slice A2 (m - p) (c - p)) w := fun w => by
    rw [run_slice_l w 37 A m c (by kernel_rfl) .i64 (p : Int) (by omega) (by omega)]
    have hs : (sizeOf (Try.prog.elem 37)).run Try.prog w = .ok 2 w := by kernel_rfl
    rw [hs, ← hA2, Result.andThen_ok]
    unfold sliced
    rw [Int.toNat_natCast]
  have hlx := (ofZ_length r k J).trans hf.q
  have hl1 := (ofZ_length r k (J.take p)).trans hf.q
  have hl2 := (ofZ_length r k (J.drop p)).trans hf.q
  have m1 : joinTo k (pairAt k (ofZ r k (J.take p)) (ofZ r k (J.drop p))) r = ofZ r k J := by rw [merge_ofZ, List.take_append_drop]
  have m2 : joinTo k (pairAt k (ofZ r k (J.drop p)) (ofZ r k (J.take p))) r = ofZ r k J := by rw [merge_ofZ, append_comm_ofZ, List.take_append_drop]
  have m3 : ofZ r k (backTo J 0) = ofZ r k J := reverse_ofZ r k J
  obtain ⟨X, e_X⟩ : ∃ X, ofZ r k J = X := ⟨_, rfl⟩
  rw [e_X] at hlx m1 m2 m3
  obtain ⟨X1, e_X1⟩ : ∃ X, ofZ r k (J.take p) = X := ⟨_, rfl⟩
  rw [e_X1] at hl1 m1 m2
  obtain ⟨X2, e_X2⟩ : ∃ X, ofZ r k (J.drop p) = X := ⟨_, rfl⟩
  rw [e_X2] at hl2 m1 m2
  have hJ1 : (J.take p).length = p := by rw [List.length_take, HM.out]; omega
  have hJ2 : (J.drop p).length = m - p := by rw [List.length_drop, HM.out]
  have hI1 := hI.take p
  have hI2 : ItAt w w.heap.size A2 (J.drop p) := by
    intro hl
    rw [hJ2] at hl
    obtain ⟨b, o, rfl, hb, hc⟩ := hI (by rw [HM.out]; omega)
    have e : A2 = some ⟨b, o + p * 2, none⟩ := by
      rw [← hA2, if_neg (by omega)]
      simp [add_mk]
    rw [e]
    exact ItAt.drop (fun _ => ⟨b, o, rfl, hb, hc⟩) p (by rw [hJ2]; exact hl)
  have hb0 : (backTo J 0).length = m := by unfold backTo; rw [List.length_reverse, List.drop_zero]; exact HM.out
  clear hA2
  have H_hf := Lib.hid hf
  clear hf
  have H_hlx := Lib.hid hlx
  clear hlx
  have H_hl1 := Lib.hid hl1
  clear hl1
  have H_hl2 := Lib.hid hl2
  clear hl2
  have H_m1 := Lib.hid m1
  clear m1
  have H_m2 := Lib.hid m2
  clear m2
  have H_m3 := Lib.hid m3
  clear m3
  have H_e_X := Lib.hid e_X
  clear e_X
  have H_e_X1 := Lib.hid e_X1
  clear e_X1
  have H_e_X2 := Lib.hid e_X2
  clear e_X2
  have H_hJ1 := Lib.hid hJ1
  clear hJ1
  have H_hJ2 := Lib.hid hJ2
  clear hJ2
  have H_hb0 := Lib.hid hb0
  clear hb0
  go_enter Try.func6, Try.ntmps6
  have hB : Below w.heap.size w w := Below.refl _ w
  go_wp2_with fail
  refine (shown_any _).mono ?_
  rintro e u1 ⟨rfl, hC⟩
  replace hI := hI.later hC
  replace hI1 := hI1.later hC
  replace hI2 := hI2.later hC
  replace hB := hB.trans (hC.mono hB.size)
  clear hC
  go_wp2_with fail
  refine (of_made H_hf.out A m c J HM.out (by omega) _ hI).mono ?_
  rintro e u2 ⟨hC, g_o, c_o, rfl, hg, r_o⟩
  clear hg
  rw [H_e_X.out] at r_o
  replace hI := hI.later hC
  replace hI1 := hI1.later hC
  replace hI2 := hI2.later hC
  replace hB := hB.trans (hC.mono hB.size)
  clear hC
  go_wp2_with fail
  have hA : Below u2.heap.size u2 (u2.alloc (.cells #[.int .i64 (r : Int), .int .i64 (k : Int), .slice (some ⟨g_o, 0, none⟩) q c_o] 24)) := (Below.refl _ u2).alloc (Nat.le_refl _) _
  replace hI := hI.later hA
  replace hI1 := hI1.later hA
  replace hI2 := hI2.later hA
  replace r_o := r_o.later hA
  replace hB := hB.trans (hA.mono hB.size)
  have k_o := new_at u2 (.cells #[.int .i64 (r : Int), .int .i64 (k : Int), .slice (some ⟨g_o, 0, none⟩) q c_o] 24) _ rfl
  obtain ⟨b_o, hb⟩ : ∃ b, u2.heap.size = b := ⟨_, rfl⟩
  rw [hb] at k_o ⊢
  clear hA hb
  generalize u2.alloc (.cells #[.int .i64 (r : Int), .int .i64 (k : Int), .slice (some ⟨g_o, 0, none⟩) q c_o] 24) = u3 at *
  clear u2
  refine (of_made H_hf.out A p c (J.take p) H_hJ1.out (by omega) _ hI1).mono ?_
  rintro e u4 ⟨hC, g_x, c_x, rfl, hg, r_x⟩
  clear hg
  rw [H_e_X1.out] at r_x
  replace hI := hI.later hC
  replace hI1 := hI1.later hC
  replace hI2 := hI2.later hC
  replace r_o := r_o.later hC
  replace k_o := keep k_o hC
  replace hB := hB.trans (hC.mono hB.size)
  clear hC
  go_wp2_with fail
  have hA : Below u4.heap.size u4 (u4.alloc (.cells #[.int .i64 (r : Int), .int .i64 (k : Int), .slice (some ⟨g_x, 0, none⟩) q c_x] 24)) := (Below.refl _ u4).alloc (Nat.le_refl _) _
  replace hI := hI.later hA
  replace hI1 := hI1.later hA
  replace hI2 := hI2.later hA
  replace r_o := r_o.later hA
  replace k_o := keep k_o hA
  replace r_x := r_x.later hA
  replace hB := hB.trans (hA.mono hB.size)
  have k_x := new_at u4 (.cells #[.int .i64 (r : Int), .int .i64 (k : Int), .slice (some ⟨g_x, 0, none⟩) q c_x] 24) _ rfl
  obtain ⟨b_x, hb⟩ : ∃ b, u4.heap.size = b := ⟨_, rfl⟩
  rw [hb] at k_x ⊢
  clear hA hb
  generalize u4.alloc (.cells #[.int .i64 (r : Int), .int .i64 (k : Int), .slice (some ⟨g_x, 0, none⟩) q c_x] 24) = u5 at *
  clear u4
  refine (of_made H_hf.out A2 (m - p) (c - p) (J.drop p) H_hJ2.out (by omega) _ hI2).mono ?_
  rintro e u6 ⟨hC, g_y, c_y, rfl, hg, r_y⟩
  clear hg
  rw [H_e_X2.out] at r_y
  replace hI := hI.later hC
  replace hI1 := hI1.later hC
  replace hI2 := hI2.later hC
  replace r_o := r_o.later hC
  replace k_o := keep k_o hC
  replace r_x := r_x.later hC
  replace k_x := keep k_x hC
  replace hB := hB.trans (hC.mono hB.size)
  clear hC
  go_wp2_with fail
  have hA : Below u6.heap.size u6 (u6.alloc (.cells #[.int .i64 (r : Int), .int .i64 (k : Int), .slice (some ⟨g_y, 0, none⟩) q c_y] 24)) := (Below.refl _ u6).alloc (Nat.le_refl _) _
  replace hI := hI.later hA
  replace hI1 := hI1.later hA
  replace hI2 := hI2.later hA
  replace r_o := r_o.later hA
  replace k_o := keep k_o hA
  replace r_x := r_x.later hA
  replace k_x := keep k_x hA
  replace r_y := r_y.later hA
  replace hB := hB.trans (hA.mono hB.size)
  have k_y := new_at u6 (.cells #[.int .i64 (r : Int), .int .i64 (k : Int), .slice (some ⟨g_y, 0, none⟩) q c_y] 24) _ rfl
  obtain ⟨b_y, hb⟩ : ∃ b, u6.heap.size = b := ⟨_, rfl⟩
  rw [hb] at k_y ⊢
  clear hA hb
  generalize u6.alloc (.cells #[.int .i64 (r : Int), .int .i64 (k : Int), .slice (some ⟨g_y, 0, none⟩) q c_y] 24) = u7 at *
  clear u6
  clear hI1 hI2
  go_loopw [16, 17] (fun tv iv wr => ∃ z : Int, iv = .int .i64 z ∧ -1 ≤ z ∧ z < (m : Int) ∧ Below u7.heap.size u7 wr ∧ ∃ v : Value, tv = v ∧ OwnI wr u7.heap.size v (backTo J (z + 1).toNat)) (fun _ iv _ => (intOf iv + 1).toNat)
  case atStart => exact ⟨_, rfl, by omega, by omega, Below.refl _ _, _, rfl, by
    have e : backTo J ((m : Int) - 1 + 1).toNat = [] := by
      have h := HM.out
      unfold backTo
      rw [List.drop_of_length_le (by omega)]; rfl
    rw [e]
    exact OwnI.nil _ _⟩
  case round =>
    obtain ⟨z, rfl, hz1, hz2, hL, v, rfl, hown⟩ := hrel
    obtain ⟨wo, rfl⟩ : ∃ wo : World, wo = wr := ⟨_, rfl⟩
    by_cases hz0 : 0 ≤ z
    · obtain ⟨j, rfl⟩ := Int.eq_ofNat_of_zero_le hz0
      have hjm : j < m := by omega
      obtain ⟨b, o, rfl, hb, hc⟩ := hI (by rw [HM.out]; omega)
      obtain ⟨y0, y1⟩ := hc j (by rw [HM.out]; exact hjm)
      replace y0 := (hL.cell (p := ⟨b, o + j * 2, none⟩) hb).trans y0
      replace y1 := (hL.cell (p := ⟨b, o + j * 2 + 1, none⟩) hb).trans y1
      have e1 : ((j : Int) + 1).toNat = j + 1 := by omega
      rw [e1] at hown
      have hbk := backTo_succ J j (by rw [HM.out]; exact hjm)
      have hbl : (backTo J (j + 1)).length ≤ 65535 := by unfold backTo; rw [List.length_reverse, List.length_drop]; have := HM.out; omega
      have hs := hL.size
      have hown2 : OwnI (wo.alloc (.cells #[.int .u64 (U (nthI J j).1), .int .u64 (U (nthI J j).2)] 43)) u7.heap.size _ (backTo J (j + 1)) := hown.of (fun k _ hk => Below.heap_alloc _ _ _ hk)
      have hnew := new_at wo (.cells #[.int .u64 (U (nthI J j).1), .int .u64 (U (nthI J j).2)] 43) _ rfl
      obtain ⟨v', W, happ, hown3, hB3⟩ := append_oneI (wo.alloc (.cells #[.int .u64 (U (nthI J j).1), .int .u64 (U (nthI J j).2)] 43)) u7.heap.size _ (backTo J (j + 1)) (nthI J j) wo.heap.size hown2 (cell_at hnew 0) (cell_at hnew 1) (by simp; omega) hbl
      rw [← hbk] at hown3
      have HO := Lib.hid hown3
      have HA := Lib.hid happ
      have HB3 := Lib.hid (hL.trans (((Below.refl _ wo).alloc hs _).trans hB3))
      clear hc hown hown2 hown3 happ hB3 hnew hbk e1
      go_wp2_with (at_builtin; refine wpList_append_run rfl (.tmp 74) (.tmp 79) _ rfl rfl rfl HA.out ?_)
      go_roundw
      case rel => exact ⟨_, rfl, by omega, by omega, HB3.out, _, rfl, by
        have e : ((j : Int) - 1 + 1).toNat = j := by omega
        rw [e]; exact HO.out⟩
      case measure => simp [intOf]
    · obtain rfl : z = -1 := by omega
      obtain ⟨A5, c5, rfl, hl5, hI5⟩ := hown.at_
      have e1 : ((-1 : Int) + 1).toNat = 0 := rfl
      rw [e1] at hl5 hI5 ⊢
      rw [H_hb0.out] at hl5 ⊢
      clear hown e1 hI
      have hC := hL
      clear hL
      replace r_o := r_o.later hC
      replace k_o := keep k_o hC
      replace r_x := r_x.later hC
      replace k_x := keep k_x hC
      replace r_y := r_y.later hC
      replace k_y := keep k_y hC
      replace hB := hB.trans (hC.mono hB.size)
      clear hC
      go_wp2_with fail
      refine (of_made H_hf.out A5 m c5 (backTo J 0) H_hb0.out (by omega) _ hI5).mono ?_
      rintro e u8 ⟨hC, g_z, c_z, rfl, hg, r_z⟩
      clear hg
      rw [H_m3.out] at r_z
      replace r_o := r_o.later hC
      replace k_o := keep k_o hC
      replace r_x := r_x.later hC
      replace k_x := keep k_x hC
      replace r_y := r_y.later hC
      replace k_y := keep k_y hC
      replace hB := hB.trans (hC.mono hB.size)
      clear hC
      have x_x_0 := old_cell (cell_at k_x 0)
      have x_x_1 := old_cell (cell_at k_x 1)
      have x_x_2 := old_cell (cell_at k_x 2)
      have x_y_0 := old_cell (cell_at k_y 0)
      have x_y_1 := old_cell (cell_at k_y 1)
      have x_y_2 := old_cell (cell_at k_y 2)
      go_wp2_with fail
      clear x_x_0 x_x_1 x_x_2 x_y_0 x_y_1 x_y_2
      have hA : Below u8.heap.size u8 (u8.alloc (.cells #[.int .i64 (r : Int), .int .i64 (k : Int), .slice (some ⟨g_z, 0, none⟩) q c_z] 24)) := (Below.refl _ u8).alloc (Nat.le_refl _) _
      replace r_o := r_o.later hA
      replace k_o := keep k_o hA
      replace r_x := r_x.later hA
      replace k_x := keep k_x hA
      replace r_y := r_y.later hA
      replace k_y := keep k_y hA
      replace r_z := r_z.later hA
      replace hB := hB.trans (hA.mono hB.size)
      have k_z := new_at u8 (.cells #[.int .i64 (r : Int), .int .i64 (k : Int), .slice (some ⟨g_z, 0, none⟩) q c_z] 24) _ rfl
      obtain ⟨b_z, hb⟩ : ∃ b, u8.heap.size = b := ⟨_, rfl⟩
      rw [hb] at k_z ⊢
      clear hA hb
      generalize u8.alloc (.cells #[.int .i64 (r : Int), .int .i64 (k : Int), .slice (some ⟨g_z, 0, none⟩) q c_z] 24) = u9 at *
      clear u8
      refine (Merge_made H_hf.out _ _ c_x c_y X1 X2 H_hl1.out H_hl2.out _ (r_x.at_ r_x.lt) (r_y.at_ r_y.lt)).mono ?_
      rintro e u10 ⟨hC, g_a, c_a, rfl, hg, r_a⟩
      clear hg
      rw [H_m1.out] at r_a
      replace r_o := r_o.later hC
      replace k_o := keep k_o hC
      replace r_x := r_x.later hC
      replace k_x := keep k_x hC
      replace r_y := r_y.later hC
      replace k_y := keep k_y hC
      replace r_z := r_z.later hC
      replace k_z := keep k_z hC
      replace hB := hB.trans (hC.mono hB.size)
      clear hC
      have x_x_0 := old_cell (cell_at k_x 0)
      have x_x_1 := old_cell (cell_at k_x 1)
      have x_x_2 := old_cell (cell_at k_x 2)
      have x_y_0 := old_cell (cell_at k_y 0)
      have x_y_1 := old_cell (cell_at k_y 1)
      have x_y_2 := old_cell (cell_at k_y 2)
      go_wp2_with fail
      clear x_x_0 x_x_1 x_x_2 x_y_0 x_y_1 x_y_2
      have hA : Below u10.heap.size u10 (u10.alloc (.cells #[.int .i64 (r : Int), .int .i64 (k : Int), .slice (some ⟨g_a, 0, none⟩) q c_a] 24)) := (Below.refl _ u10).alloc (Nat.le_refl _) _
      replace r_o := r_o.later hA
      replace k_o := keep k_o hA
      replace r_x := r_x.later hA
      replace k_x := keep k_x hA
      replace r_y := r_y.later hA
      replace k_y := keep k_y hA
      replace r_z := r_z.later hA
      replace k_z := keep k_z hA
      replace r_a := r_a.later hA
      replace hB := hB.trans (hA.mono hB.size)
      have k_a := new_at u10 (.cells #[.int .i64 (r : Int), .int .i64 (k : Int), .slice (some ⟨g_a, 0, none⟩) q c_a] 24) _ rfl
      obtain ⟨b_a, hb⟩ : ∃ b, u10.heap.size = b := ⟨_, rfl⟩
      rw [hb] at k_a ⊢
      clear hA hb
      generalize u10.alloc (.cells #[.int .i64 (r : Int), .int .i64 (k : Int), .slice (some ⟨g_a, 0, none⟩) q c_a] 24) = u11 at *
      clear u10
      refine (Merge_made H_hf.out _ _ c_y c_x X2 X1 H_hl2.out H_hl1.out _ (r_y.at_ r_y.lt) (r_x.at_ r_x.lt)).mono ?_
      rintro e u12 ⟨hC, g_b, c_b, rfl, hg, r_b⟩
      clear hg
      rw [H_m2.out] at r_b
      replace r_o := r_o.later hC
      replace k_o := keep k_o hC
      replace r_x := r_x.later hC
      replace k_x := keep k_x hC
      replace r_y := r_y.later hC
      replace k_y := keep k_y hC
      replace r_z := r_z.later hC
      replace k_z := keep k_z hC
      replace r_a := r_a.later hC
      replace k_a := keep k_a hC
      replace hB := hB.trans (hC.mono hB.size)
      clear hC
      have x_a_0 := old_cell (cell_at k_a 0)
      have x_a_1 := old_cell (cell_at k_a 1)
      have x_a_2 := old_cell (cell_at k_a 2)
      have x_o_0 := old_cell (cell_at k_o 0)
      have x_o_1 := old_cell (cell_at k_o 1)
      have x_o_2 := old_cell (cell_at k_o 2)
      go_wp2_with fail
      clear x_a_0 x_a_1 x_a_2 x_o_0 x_o_1 x_o_2
      have hA : Below u12.heap.size u12 (u12.alloc (.cells #[.int .i64 (r : Int), .int .i64 (k : Int), .slice (some ⟨g_b, 0, none⟩) q c_b] 24)) := (Below.refl _ u12).alloc (Nat.le_refl _) _
      replace r_o := r_o.later hA
      replace k_o := keep k_o hA
      replace r_x := r_x.later hA
      replace k_x := keep k_x hA
      replace r_y := r_y.later hA
      replace k_y := keep k_y hA
      replace r_z := r_z.later hA
      replace k_z := keep k_z hA
      replace r_a := r_a.later hA
      replace k_a := keep k_a hA
      replace r_b := r_b.later hA
      replace hB := hB.trans (hA.mono hB.size)
      have k_b := new_at u12 (.cells #[.int .i64 (r : Int), .int .i64 (k : Int), .slice (some ⟨g_b, 0, none⟩) q c_b] 24) _ rfl
      obtain ⟨b_b, hb⟩ : ∃ b, u12.heap.size = b := ⟨_, rfl⟩
      rw [hb] at k_b ⊢
      clear hA hb
      generalize u12.alloc (.cells #[.int .i64 (r : Int), .int .i64 (k : Int), .slice (some ⟨g_b, 0, none⟩) q c_b] 24) = u13 at *
      clear u12
      refine (Same_fit H_hf.out _ _ c_a c_o X H_hlx.out _ (r_a.at_ r_a.lt) (r_o.at_ r_o.lt)).mono ?_
      rintro e u14 ⟨rfl, hC⟩
      replace r_o := r_o.later hC
      replace k_o := keep k_o hC
      replace r_x := r_x.later hC
      replace k_x := keep k_x hC
      replace r_y := r_y.later hC
      replace k_y := keep k_y hC
      replace r_z := r_z.later hC
      replace k_z := keep k_z hC
      replace r_a := r_a.later hC
      replace k_a := keep k_a hC
      replace r_b := r_b.later hC
      replace k_b := keep k_b hC
      replace hB := hB.trans (hC.mono hB.size)
      clear hC
      have x_b_0 := cell_at k_b 0
      have x_b_1 := cell_at k_b 1
      have x_b_2 := cell_at k_b 2
      have x_o_0 := cell_at k_o 0
      have x_o_1 := cell_at k_o 1
      have x_o_2 := cell_at k_o 2
      go_wp2_with fail
      clear x_b_0 x_b_1 x_b_2 x_o_0 x_o_1 x_o_2
      refine (Same_fit H_hf.out _ _ c_b c_o X H_hlx.out _ (r_b.at_ r_b.lt) (r_o.at_ r_o.lt)).mono ?_
      rintro e u15 ⟨rfl, hC⟩
      replace r_o := r_o.later hC
      replace k_o := keep k_o hC
      replace r_x := r_x.later hC
      replace k_x := keep k_x hC
      replace r_y := r_y.later hC
      replace k_y := keep k_y hC
      replace r_z := r_z.later hC
      replace k_z := keep k_z hC
      replace r_a := r_a.later hC
      replace k_a := keep k_a hC
      replace r_b := r_b.later hC
      replace k_b := keep k_b hC
      replace hB := hB.trans (hC.mono hB.size)
      clear hC
      have x_z_0 := cell_at k_z 0
      have x_z_1 := cell_at k_z 1
      have x_z_2 := cell_at k_z 2
      have x_o_0 := cell_at k_o 0
      have x_o_1 := cell_at k_o 1
      have x_o_2 := cell_at k_o 2
      go_wp2_with fail
      clear x_z_0 x_z_1 x_z_2 x_o_0 x_o_1 x_o_2
      refine (Same_fit H_hf.out _ _ c_z c_o X H_hlx.out _ (r_z.at_ r_z.lt) (r_o.at_ r_o.lt)).mono ?_
      rintro e u16 ⟨rfl, hC⟩
      replace r_o := r_o.later hC
      replace k_o := keep k_o hC
      replace r_x := r_x.later hC
      replace k_x := keep k_x hC
      replace r_y := r_y.later hC
      replace k_y := keep k_y hC
      replace r_z := r_z.later hC
      replace k_z := keep k_z hC
      replace r_a := r_a.later hC
      replace k_a := keep k_a hC
      replace r_b := r_b.later hC
      replace k_b := keep k_b hC
      replace hB := hB.trans (hC.mono hB.size)
      clear hC
      go_wp2_with fail
      go_ret
      exact ⟨rfl, hB⟩

set_option maxRecDepth 100000 in
set_option maxHeartbeats 4000000 in
theorem walk_CmsPartsBad {w : World} (rows cols : Int) (hz : isSz rows cols = false) (A : Option Addr) (c n : Nat) (hlc : n ≤ c) (at_ : Int) :
    Calls Try.prog 6 #[.int .i64 rows, .int .i64 cols, .slice A n c, .int .i64 at_] w fun e w' => e = .returned (.bool true) ∧ Below w.heap.size w w' := by
  obtain ⟨m, hmi, hmc⟩ : ∃ m : Nat, (if 100 < (n : Int) then (100 : Int) else (n : Int)) = (m : Int) ∧ m ≤ c := ⟨min n 100, by split <;> omega, by omega⟩
  have HZ := Lib.hid hz
  clear hz
  obtain ⟨z, hmin⟩ : ∃ z : Int, (if (m : Int) < at_ then (m : Int) else at_) = z := ⟨_, rfl⟩
  obtain ⟨p, hmax⟩ : ∃ p : Nat, (if 0 < z then z else 0) = (p : Int) := ⟨z.toNat, by split <;> omega⟩
  have hpm : p ≤ m := by split at hmax <;> split at hmin <;> omega
  have hpc : p ≤ c := by omega
  obtain ⟨A2, hA2⟩ : ∃ A2, (if c = p then A else A.map (·.add (p * 2))) = A2 := ⟨_, rfl⟩
  have hcut : ∀ w : World, (Instr.slice 37 (.slice A m c) (some (.int .i64 (p : Int))) none none).run Try.prog w = .ok (.slice A2 (m - p) (c - p)) w := fun w => by
    rw [run_slice_l w 37 A m c (by kernel_rfl) .i64 (p : Int) (by omega) (by omega)]
    have hs : (sizeOf (Try.prog.elem 37)).run Try.prog w = .ok 2 w := by kernel_rfl
    rw [hs, ← hA2, Result.andThen_ok]
    unfold sliced
    rw [Int.toNat_natCast]
  clear hA2
  go_enter Try.func6, Try.ntmps6
  have hB : Below w.heap.size w w := Below.refl _ w
  go_wp2_with fail
  refine (shown_any _).mono ?_
  rintro e u1 ⟨rfl, hC⟩
  replace hB := hB.trans (hC.mono hB.size)
  clear hC
  go_wp2_with fail
  refine (of_bad HZ.out A m c _).mono ?_
  rintro e u2 ⟨rfl, hC⟩
  replace hB := hB.trans (hC.mono hB.size)
  clear hC
  go_wp2_with fail
  have hA : Below u2.heap.size u2 (u2.alloc (.cells #[.int .i64 0, .int .i64 0, .slice none 0 0] 24)) := (Below.refl _ u2).alloc (Nat.le_refl _) _
  replace hB := hB.trans (hA.mono hB.size)
  have k_o := new_at u2 (.cells #[.int .i64 0, .int .i64 0, .slice none 0 0] 24) _ rfl
  obtain ⟨b_o, hb⟩ : ∃ b, u2.heap.size = b := ⟨_, rfl⟩
  rw [hb] at k_o ⊢
  clear hA hb
  generalize u2.alloc (.cells #[.int .i64 0, .int .i64 0, .slice none 0 0] 24) = u3 at *
  clear u2
  refine (of_bad HZ.out A p c _).mono ?_
  rintro e u4 ⟨rfl, hC⟩
  replace k_o := keep k_o hC
  replace hB := hB.trans (hC.mono hB.size)
  clear hC
  go_wp2_with fail
  have hA : Below u4.heap.size u4 (u4.alloc (.cells #[.int .i64 0, .int .i64 0, .slice none 0 0] 24)) := (Below.refl _ u4).alloc (Nat.le_refl _) _
  replace k_o := keep k_o hA
  replace hB := hB.trans (hA.mono hB.size)
  have k_x := new_at u4 (.cells #[.int .i64 0, .int .i64 0, .slice none 0 0] 24) _ rfl
  obtain ⟨b_x, hb⟩ : ∃ b, u4.heap.size = b := ⟨_, rfl⟩
  rw [hb] at k_x ⊢
  clear hA hb
  generalize u4.alloc (.cells #[.int .i64 0, .int .i64 0, .slice none 0 0] 24) = u5 at *
  clear u4
  refine (of_bad HZ.out A2 (m - p) (c - p) _).mono ?_
  rintro e u6 ⟨rfl, hC⟩
  replace k_o := keep k_o hC
  replace k_x := keep k_x hC
  replace hB := hB.trans (hC.mono hB.size)
  clear hC
  go_wp2_with fail
  have hA : Below u6.heap.size u6 (u6.alloc (.cells #[.int .i64 0, .int .i64 0, .slice none 0 0] 24)) := (Below.refl _ u6).alloc (Nat.le_refl _) _
  replace k_o := keep k_o hA
  replace k_x := keep k_x hA
  replace hB := hB.trans (hA.mono hB.size)
  have k_y := new_at u6 (.cells #[.int .i64 0, .int .i64 0, .slice none 0 0] 24) _ rfl
  obtain ⟨b_y, hb⟩ : ∃ b, u6.heap.size = b := ⟨_, rfl⟩
  rw [hb] at k_y ⊢
  clear hA hb
  generalize u6.alloc (.cells #[.int .i64 0, .int .i64 0, .slice none 0 0] 24) = u7 at *
  clear u6
  go_ret
  exact ⟨rfl, hB⟩

theorem walk_CmsParts {w : World} (rows cols : Int) (A : Option Addr) (c : Nat) (its : List (BitVec 64 × BitVec 64)) (hlc : its.length ≤ c) (hI : ItAt w w.heap.size A its) (at_ : Int) :
    Calls Try.prog 6 #[.int .i64 rows, .int .i64 cols, .slice A its.length c, .int .i64 at_] w fun e w' => e = .returned (.bool true) ∧ Below w.heap.size w w' := by
  by_cases hz : isSz rows cols = true
  · obtain ⟨r, k, q, rfl, rfl, hf⟩ := Fit.of hz
    exact walk_CmsPartsGood hf A c its hlc hI at_
  · rw [Bool.not_eq_true] at hz
    exact walk_CmsPartsBad rows cols hz A c its.length hlc at_
end Go.Proofs.Ytlehjbfhhikpiaa
