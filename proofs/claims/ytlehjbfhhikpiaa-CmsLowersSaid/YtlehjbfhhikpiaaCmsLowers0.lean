/-
  The walk of the statement on what is lowered.
-/
import Derived.Test.YtlehjbfhhikpiaaCmsS
namespace Go.Proofs.Ytlehjbfhhikpiaa
open Go.RowKit

set_option maxRecDepth 100000 in
set_option maxHeartbeats 4000000 in
theorem walk_CmsLowers8 {w : World} {r k h q p : Nat} (hk : k = 2 * h) (hf : Fit r k q) (hh : Fit r h p) (hb0 : ((k : Int) != 8) = false) (A A2 : Option Addr) (c c2 : Nat) (its its2 : List (BitVec 64 × BitVec 64)) (hlc : its.length ≤ c) (hlc2 : its2.length ≤ c2) (hI : ItAt w w.heap.size A its) (hI2 : ItAt w w.heap.size A2 its2) :
    Calls Try.prog 9 #[.int .i64 (r : Int), .int .i64 (k : Int), .slice A its.length c, .slice A2 its2.length c2] w fun e w' => e = .returned (.bool true) ∧ Below w.heap.size w w' := by
  have hJI := hI.take 100
  have htl : (its.take 100).length = min its.length 100 := by rw [List.length_take]; omega
  obtain ⟨J, hJ⟩ : ∃ J, its.take 100 = J := ⟨_, rfl⟩
  rw [hJ] at hJI htl
  obtain ⟨n, hn⟩ : ∃ n, its.length = n := ⟨_, rfl⟩
  rw [hn] at htl hlc ⊢
  obtain ⟨m, hm⟩ : ∃ m, min n 100 = m := ⟨_, rfl⟩
  have hmi : (if 100 < (n : Int) then (100 : Int) else (n : Int)) = (m : Int) := by split <;> omega
  have hmc : m ≤ c := by omega
  have hm100 : m ≤ 100 := by omega
  have HM := Lib.hid (htl.trans hm)
  clear hI htl hJ hn hm
  have hJI2 := hI2.take 100
  have htl : (its2.take 100).length = min its2.length 100 := by rw [List.length_take]; omega
  obtain ⟨J2, hJ⟩ : ∃ J, its2.take 100 = J := ⟨_, rfl⟩
  rw [hJ] at hJI2 htl
  obtain ⟨n2, hn⟩ : ∃ n, its2.length = n := ⟨_, rfl⟩
  rw [hn] at htl hlc2 ⊢
  obtain ⟨m2, hm⟩ : ∃ m, min n2 100 = m := ⟨_, rfl⟩
  have hmi2 : (if 100 < (n2 : Int) then (100 : Int) else (n2 : Int)) = (m2 : Int) := by split <;> omega
  have hmc2 : m2 ≤ c2 := by omega
  have hm1002 : m2 ≤ 100 := by omega
  have HM2 := Lib.hid (htl.trans hm)
  clear hI2 htl hJ hn hm
  have r1 : 1 ≤ (r : Int) := by have := hf.1; omega
  have r4 : (r : Int) ≤ 4 := by have := hf.2.1; omega
  have hq : (k : Int).tdiv 2 = (h : Int) := by rw [Int.tdiv_eq_ediv_of_nonneg (by omega)]; omega
  have hq2 : (k : Int) / 2 = (h : Int) := by omega
  have hk32 := hf.pos.2.1
  have hh32 := hh.pos.2.1
  have l1 : joinTo h (lowPair k (ofZ r k J)) r = ofZ r h J := by subst hk; exact lower_ofZ r h hh.pos.1 J
  have l2 : joinTo h (lowPair k (ofZ r k J2)) r = ofZ r h J2 := by subst hk; exact lower_ofZ r h hh.pos.1 J2
  have l3 : joinTo h (lowPair k (ofZ r k (J ++ J2))) r = ofZ r h (J ++ J2) := by subst hk; exact lower_ofZ r h hh.pos.1 (J ++ J2)
  have m1 := merge_ofZ r k J J2
  have m2 := merge_ofZ r h J J2
  have zx := (ofZ_length r k J).trans hf.q
  have zy := (ofZ_length r k J2).trans hf.q
  have zd := (ofZ_length r k (J ++ J2)).trans hf.q
  have za := (ofZ_length r h J).trans hh.q
  have zc := (ofZ_length r h J2).trans hh.q
  have zp := (ofZ_length r h (J ++ J2)).trans hh.q
  obtain ⟨X, e_X⟩ : ∃ X, ofZ r k J = X := ⟨_, rfl⟩
  obtain ⟨Y, e_Y⟩ : ∃ X, ofZ r k J2 = X := ⟨_, rfl⟩
  obtain ⟨Z, e_Z⟩ : ∃ X, ofZ r k (J ++ J2) = X := ⟨_, rfl⟩
  obtain ⟨X2, e_X2⟩ : ∃ X, ofZ r h J = X := ⟨_, rfl⟩
  obtain ⟨Y2, e_Y2⟩ : ∃ X, ofZ r h J2 = X := ⟨_, rfl⟩
  obtain ⟨Z2, e_Z2⟩ : ∃ X, ofZ r h (J ++ J2) = X := ⟨_, rfl⟩
  rw [e_X] at l1 m1 zx
  rw [e_Y] at l2 m1 zy
  rw [e_Z] at l3 m1 zd
  rw [e_X2] at l1 m2 za
  rw [e_Y2] at l2 m2 zc
  rw [e_Z2] at l3 m2 zp
  have H_hk := Lib.hid hk
  clear hk
  have H_hf := Lib.hid hf
  clear hf
  have H_hh := Lib.hid hh
  clear hh
  have H_l1 := Lib.hid l1
  clear l1
  have H_l2 := Lib.hid l2
  clear l2
  have H_l3 := Lib.hid l3
  clear l3
  have H_m1 := Lib.hid m1
  clear m1
  have H_m2 := Lib.hid m2
  clear m2
  have H_zx := Lib.hid zx
  clear zx
  have H_zy := Lib.hid zy
  clear zy
  have H_zd := Lib.hid zd
  clear zd
  have H_za := Lib.hid za
  clear za
  have H_zc := Lib.hid zc
  clear zc
  have H_zp := Lib.hid zp
  clear zp
  have H_e_X := Lib.hid e_X
  clear e_X
  have H_e_Y := Lib.hid e_Y
  clear e_Y
  have H_e_X2 := Lib.hid e_X2
  clear e_X2
  clear e_Z e_Y2 e_Z2
  go_enter Try.func9, Try.ntmps9
  have hB : Below w.heap.size w w := Below.refl _ w
  go_wp2_with fail
  refine (shown_any _).mono ?_
  rintro e u1 ⟨rfl, hC⟩
  replace hJI := hJI.later hC
  replace hJI2 := hJI2.later hC
  replace hB := hB.trans (hC.mono hB.size)
  clear hC
  go_wp2_with fail
  refine (of_made H_hf.out A m c J HM.out (by omega) _ hJI).mono ?_
  rintro e u2 ⟨hC, g_x, c_x, rfl, hg, r_x⟩
  rw [H_e_X.out] at r_x
  clear hg
  replace hJI := hJI.later hC
  replace hJI2 := hJI2.later hC
  replace hB := hB.trans (hC.mono hB.size)
  clear hC
  go_wp2_with fail
  have hA : Below u2.heap.size u2 (u2.alloc (.cells #[.int .i64 (r : Int), .int .i64 (k : Int), .slice (some ⟨g_x, 0, none⟩) q c_x] 24)) := (Below.refl _ u2).alloc (Nat.le_refl _) _
  replace hJI := hJI.later hA
  replace hJI2 := hJI2.later hA
  replace r_x := r_x.later hA
  replace hB := hB.trans (hA.mono hB.size)
  have k_x := new_at u2 (.cells #[.int .i64 (r : Int), .int .i64 (k : Int), .slice (some ⟨g_x, 0, none⟩) q c_x] 24) _ rfl
  obtain ⟨b_x, hb⟩ : ∃ b, u2.heap.size = b := ⟨_, rfl⟩
  rw [hb] at k_x ⊢
  clear hA hb
  generalize u2.alloc (.cells #[.int .i64 (r : Int), .int .i64 (k : Int), .slice (some ⟨g_x, 0, none⟩) q c_x] 24) = u3 at *
  clear u2
  refine (of_made H_hf.out A2 m2 c2 J2 HM2.out (by omega) _ hJI2).mono ?_
  rintro e u4 ⟨hC, g_y, c_y, rfl, hg, r_y⟩
  rw [H_e_Y.out] at r_y
  clear hg
  replace hJI := hJI.later hC
  replace hJI2 := hJI2.later hC
  replace r_x := r_x.later hC
  replace k_x := keep k_x hC
  replace hB := hB.trans (hC.mono hB.size)
  clear hC
  have x_x_0 := old_cell (cell_at k_x 0)
  have x_x_1 := old_cell (cell_at k_x 1)
  have x_x_2 := old_cell (cell_at k_x 2)
  go_wp2_with fail
  clear x_x_0 x_x_1 x_x_2
  have hA : Below u4.heap.size u4 (u4.alloc (.cells #[.int .i64 (r : Int), .int .i64 (k : Int), .slice (some ⟨g_y, 0, none⟩) q c_y] 24)) := (Below.refl _ u4).alloc (Nat.le_refl _) _
  replace hJI := hJI.later hA
  replace hJI2 := hJI2.later hA
  replace r_x := r_x.later hA
  replace k_x := keep k_x hA
  replace r_y := r_y.later hA
  replace hB := hB.trans (hA.mono hB.size)
  have k_y := new_at u4 (.cells #[.int .i64 (r : Int), .int .i64 (k : Int), .slice (some ⟨g_y, 0, none⟩) q c_y] 24) _ rfl
  obtain ⟨b_y, hb⟩ : ∃ b, u4.heap.size = b := ⟨_, rfl⟩
  rw [hb] at k_y ⊢
  clear hA hb
  generalize u4.alloc (.cells #[.int .i64 (r : Int), .int .i64 (k : Int), .slice (some ⟨g_y, 0, none⟩) q c_y] 24) = u5 at *
  clear u4
  refine (Lower_made H_hk.out H_hf.out H_hh.out _ c_x X H_zx.out _ (r_x.at_ r_x.lt)).mono ?_
  rintro e u6 ⟨hC, A_a, c_a, rfl, a_a⟩
  rw [H_l1.out] at a_a
  replace hJI := hJI.later hC
  replace hJI2 := hJI2.later hC
  replace r_x := r_x.later hC
  replace k_x := keep k_x hC
  replace r_y := r_y.later hC
  replace k_y := keep k_y hC
  replace hB := hB.trans (hC.mono hB.size)
  clear hC
  go_wp2_with fail
  have hA : Below u6.heap.size u6 (u6.alloc (.cells #[.int .i64 (r : Int), .int .i64 (h : Int), .slice A_a p c_a] 24)) := (Below.refl _ u6).alloc (Nat.le_refl _) _
  replace hJI := hJI.later hA
  replace hJI2 := hJI2.later hA
  replace r_x := r_x.later hA
  replace k_x := keep k_x hA
  replace r_y := r_y.later hA
  replace k_y := keep k_y hA
  replace a_a := a_a.later hA
  replace hB := hB.trans (hA.mono hB.size)
  have k_a := new_at u6 (.cells #[.int .i64 (r : Int), .int .i64 (h : Int), .slice A_a p c_a] 24) _ rfl
  obtain ⟨b_a, hb⟩ : ∃ b, u6.heap.size = b := ⟨_, rfl⟩
  rw [hb] at k_a ⊢
  clear hA hb
  generalize u6.alloc (.cells #[.int .i64 (r : Int), .int .i64 (h : Int), .slice A_a p c_a] 24) = u7 at *
  clear u6
  refine (of_made H_hh.out A m c J HM.out (by omega) _ hJI).mono ?_
  rintro e u8 ⟨hC, g_b, c_b, rfl, hg, r_b⟩
  clear hg
  rw [H_e_X2.out] at r_b
  replace hJI := hJI.later hC
  replace hJI2 := hJI2.later hC
  replace r_x := r_x.later hC
  replace k_x := keep k_x hC
  replace r_y := r_y.later hC
  replace k_y := keep k_y hC
  replace a_a := a_a.later hC
  replace k_a := keep k_a hC
  replace hB := hB.trans (hC.mono hB.size)
  clear hC
  have x_y_0 := old_cell (cell_at k_y 0)
  have x_y_1 := old_cell (cell_at k_y 1)
  have x_y_2 := old_cell (cell_at k_y 2)
  go_wp2_with fail
  clear x_y_0 x_y_1 x_y_2
  have hA : Below u8.heap.size u8 (u8.alloc (.cells #[.int .i64 (r : Int), .int .i64 (h : Int), .slice (some ⟨g_b, 0, none⟩) p c_b] 24)) := (Below.refl _ u8).alloc (Nat.le_refl _) _
  replace hJI := hJI.later hA
  replace hJI2 := hJI2.later hA
  replace r_x := r_x.later hA
  replace k_x := keep k_x hA
  replace r_y := r_y.later hA
  replace k_y := keep k_y hA
  replace a_a := a_a.later hA
  replace k_a := keep k_a hA
  replace r_b := r_b.later hA
  replace hB := hB.trans (hA.mono hB.size)
  have k_b := new_at u8 (.cells #[.int .i64 (r : Int), .int .i64 (h : Int), .slice (some ⟨g_b, 0, none⟩) p c_b] 24) _ rfl
  obtain ⟨b_b, hb⟩ : ∃ b, u8.heap.size = b := ⟨_, rfl⟩
  rw [hb] at k_b ⊢
  clear hA hb
  generalize u8.alloc (.cells #[.int .i64 (r : Int), .int .i64 (h : Int), .slice (some ⟨g_b, 0, none⟩) p c_b] 24) = u9 at *
  clear u8
  refine (Lower_made H_hk.out H_hf.out H_hh.out _ c_y Y H_zy.out _ (r_y.at_ r_y.lt)).mono ?_
  rintro e u10 ⟨hC, A_c, c_c, rfl, a_c⟩
  rw [H_l2.out] at a_c
  replace hJI := hJI.later hC
  replace hJI2 := hJI2.later hC
  replace r_x := r_x.later hC
  replace k_x := keep k_x hC
  replace r_y := r_y.later hC
  replace k_y := keep k_y hC
  replace a_a := a_a.later hC
  replace k_a := keep k_a hC
  replace r_b := r_b.later hC
  replace k_b := keep k_b hC
  replace hB := hB.trans (hC.mono hB.size)
  clear hC
  have x_x_0 := old_cell (cell_at k_x 0)
  have x_x_1 := old_cell (cell_at k_x 1)
  have x_x_2 := old_cell (cell_at k_x 2)
  have x_y_0 := old_cell (cell_at k_y 0)
  have x_y_1 := old_cell (cell_at k_y 1)
  have x_y_2 := old_cell (cell_at k_y 2)
  go_wp2_with fail
  clear x_x_0 x_x_1 x_x_2 x_y_0 x_y_1 x_y_2
  have hA : Below u10.heap.size u10 (u10.alloc (.cells #[.int .i64 (r : Int), .int .i64 (h : Int), .slice A_c p c_c] 24)) := (Below.refl _ u10).alloc (Nat.le_refl _) _
  replace hJI := hJI.later hA
  replace hJI2 := hJI2.later hA
  replace r_x := r_x.later hA
  replace k_x := keep k_x hA
  replace r_y := r_y.later hA
  replace k_y := keep k_y hA
  replace a_a := a_a.later hA
  replace k_a := keep k_a hA
  replace r_b := r_b.later hA
  replace k_b := keep k_b hA
  replace a_c := a_c.later hA
  replace hB := hB.trans (hA.mono hB.size)
  have k_c := new_at u10 (.cells #[.int .i64 (r : Int), .int .i64 (h : Int), .slice A_c p c_c] 24) _ rfl
  obtain ⟨b_c, hb⟩ : ∃ b, u10.heap.size = b := ⟨_, rfl⟩
  rw [hb] at k_c ⊢
  clear hA hb
  generalize u10.alloc (.cells #[.int .i64 (r : Int), .int .i64 (h : Int), .slice A_c p c_c] 24) = u11 at *
  clear u10
  refine (Merge_made H_hf.out _ _ c_x c_y X Y H_zx.out H_zy.out _ (r_x.at_ r_x.lt) (r_y.at_ r_y.lt)).mono ?_
  rintro e u12 ⟨hC, g_d, c_d, rfl, hg, r_d⟩
  rw [H_m1.out] at r_d
  clear hg
  replace hJI := hJI.later hC
  replace hJI2 := hJI2.later hC
  replace r_x := r_x.later hC
  replace k_x := keep k_x hC
  replace r_y := r_y.later hC
  replace k_y := keep k_y hC
  replace a_a := a_a.later hC
  replace k_a := keep k_a hC
  replace r_b := r_b.later hC
  replace k_b := keep k_b hC
  replace a_c := a_c.later hC
  replace k_c := keep k_c hC
  replace hB := hB.trans (hC.mono hB.size)
  clear hC
  go_wp2_with fail
  have hA : Below u12.heap.size u12 (u12.alloc (.cells #[.int .i64 (r : Int), .int .i64 (k : Int), .slice (some ⟨g_d, 0, none⟩) q c_d] 24)) := (Below.refl _ u12).alloc (Nat.le_refl _) _
  replace hJI := hJI.later hA
  replace hJI2 := hJI2.later hA
  replace r_x := r_x.later hA
  replace k_x := keep k_x hA
  replace r_y := r_y.later hA
  replace k_y := keep k_y hA
  replace a_a := a_a.later hA
  replace k_a := keep k_a hA
  replace r_b := r_b.later hA
  replace k_b := keep k_b hA
  replace a_c := a_c.later hA
  replace k_c := keep k_c hA
  replace r_d := r_d.later hA
  replace hB := hB.trans (hA.mono hB.size)
  have k_d := new_at u12 (.cells #[.int .i64 (r : Int), .int .i64 (k : Int), .slice (some ⟨g_d, 0, none⟩) q c_d] 24) _ rfl
  obtain ⟨b_d, hb⟩ : ∃ b, u12.heap.size = b := ⟨_, rfl⟩
  rw [hb] at k_d ⊢
  clear hA hb
  generalize u12.alloc (.cells #[.int .i64 (r : Int), .int .i64 (k : Int), .slice (some ⟨g_d, 0, none⟩) q c_d] 24) = u13 at *
  clear u12
  refine (Lower_made H_hk.out H_hf.out H_hh.out _ c_d Z H_zd.out _ (r_d.at_ r_d.lt)).mono ?_
  rintro e u14 ⟨hC, A_k, c_k, rfl, a_k⟩
  rw [H_l3.out] at a_k
  replace hJI := hJI.later hC
  replace hJI2 := hJI2.later hC
  replace r_x := r_x.later hC
  replace k_x := keep k_x hC
  replace r_y := r_y.later hC
  replace k_y := keep k_y hC
  replace a_a := a_a.later hC
  replace k_a := keep k_a hC
  replace r_b := r_b.later hC
  replace k_b := keep k_b hC
  replace a_c := a_c.later hC
  replace k_c := keep k_c hC
  replace r_d := r_d.later hC
  replace k_d := keep k_d hC
  replace hB := hB.trans (hC.mono hB.size)
  clear hC
  have x_a_0 := old_cell (cell_at k_a 0)
  have x_a_1 := old_cell (cell_at k_a 1)
  have x_a_2 := old_cell (cell_at k_a 2)
  have x_c_0 := old_cell (cell_at k_c 0)
  have x_c_1 := old_cell (cell_at k_c 1)
  have x_c_2 := old_cell (cell_at k_c 2)
  go_wp2_with fail
  clear x_a_0 x_a_1 x_a_2 x_c_0 x_c_1 x_c_2
  have hA : Below u14.heap.size u14 (u14.alloc (.cells #[.int .i64 (r : Int), .int .i64 (h : Int), .slice A_k p c_k] 24)) := (Below.refl _ u14).alloc (Nat.le_refl _) _
  replace hJI := hJI.later hA
  replace hJI2 := hJI2.later hA
  replace r_x := r_x.later hA
  replace k_x := keep k_x hA
  replace r_y := r_y.later hA
  replace k_y := keep k_y hA
  replace a_a := a_a.later hA
  replace k_a := keep k_a hA
  replace r_b := r_b.later hA
  replace k_b := keep k_b hA
  replace a_c := a_c.later hA
  replace k_c := keep k_c hA
  replace r_d := r_d.later hA
  replace k_d := keep k_d hA
  replace a_k := a_k.later hA
  replace hB := hB.trans (hA.mono hB.size)
  have k_k := new_at u14 (.cells #[.int .i64 (r : Int), .int .i64 (h : Int), .slice A_k p c_k] 24) _ rfl
  obtain ⟨b_k, hb⟩ : ∃ b, u14.heap.size = b := ⟨_, rfl⟩
  rw [hb] at k_k ⊢
  clear hA hb
  generalize u14.alloc (.cells #[.int .i64 (r : Int), .int .i64 (h : Int), .slice A_k p c_k] 24) = u15 at *
  clear u14
  refine (Merge_made H_hh.out _ _ c_a c_c X2 Y2 H_za.out H_zc.out _ a_a a_c).mono ?_
  rintro e u16 ⟨hC, g_p, c_p, rfl, hg, r_p⟩
  clear hg
  rw [H_m2.out] at r_p
  replace hJI := hJI.later hC
  replace hJI2 := hJI2.later hC
  replace r_x := r_x.later hC
  replace k_x := keep k_x hC
  replace r_y := r_y.later hC
  replace k_y := keep k_y hC
  replace a_a := a_a.later hC
  replace k_a := keep k_a hC
  replace r_b := r_b.later hC
  replace k_b := keep k_b hC
  replace a_c := a_c.later hC
  replace k_c := keep k_c hC
  replace r_d := r_d.later hC
  replace k_d := keep k_d hC
  replace a_k := a_k.later hC
  replace k_k := keep k_k hC
  replace hB := hB.trans (hC.mono hB.size)
  clear hC
  have x_a_0 := old_cell (cell_at k_a 0)
  have x_a_1 := old_cell (cell_at k_a 1)
  have x_a_2 := old_cell (cell_at k_a 2)
  have x_b_0 := old_cell (cell_at k_b 0)
  have x_b_1 := old_cell (cell_at k_b 1)
  have x_b_2 := old_cell (cell_at k_b 2)
  go_wp2_with fail
  clear x_a_0 x_a_1 x_a_2 x_b_0 x_b_1 x_b_2
  have hA : Below u16.heap.size u16 (u16.alloc (.cells #[.int .i64 (r : Int), .int .i64 (h : Int), .slice (some ⟨g_p, 0, none⟩) p c_p] 24)) := (Below.refl _ u16).alloc (Nat.le_refl _) _
  replace hJI := hJI.later hA
  replace hJI2 := hJI2.later hA
  replace r_x := r_x.later hA
  replace k_x := keep k_x hA
  replace r_y := r_y.later hA
  replace k_y := keep k_y hA
  replace a_a := a_a.later hA
  replace k_a := keep k_a hA
  replace r_b := r_b.later hA
  replace k_b := keep k_b hA
  replace a_c := a_c.later hA
  replace k_c := keep k_c hA
  replace r_d := r_d.later hA
  replace k_d := keep k_d hA
  replace a_k := a_k.later hA
  replace k_k := keep k_k hA
  replace r_p := r_p.later hA
  replace hB := hB.trans (hA.mono hB.size)
  have k_p := new_at u16 (.cells #[.int .i64 (r : Int), .int .i64 (h : Int), .slice (some ⟨g_p, 0, none⟩) p c_p] 24) _ rfl
  obtain ⟨b_p, hb⟩ : ∃ b, u16.heap.size = b := ⟨_, rfl⟩
  rw [hb] at k_p ⊢
  clear hA hb
  generalize u16.alloc (.cells #[.int .i64 (r : Int), .int .i64 (h : Int), .slice (some ⟨g_p, 0, none⟩) p c_p] 24) = u17 at *
  clear u16
  refine (Same_fit H_hh.out _ _ c_a c_b X2 H_za.out _ a_a (r_b.at_ r_b.lt)).mono ?_
  rintro e u18 ⟨rfl, hC⟩
  replace hJI := hJI.later hC
  replace hJI2 := hJI2.later hC
  replace r_x := r_x.later hC
  replace k_x := keep k_x hC
  replace r_y := r_y.later hC
  replace k_y := keep k_y hC
  replace a_a := a_a.later hC
  replace k_a := keep k_a hC
  replace r_b := r_b.later hC
  replace k_b := keep k_b hC
  replace a_c := a_c.later hC
  replace k_c := keep k_c hC
  replace r_d := r_d.later hC
  replace k_d := keep k_d hC
  replace a_k := a_k.later hC
  replace k_k := keep k_k hC
  replace r_p := r_p.later hC
  replace k_p := keep k_p hC
  replace hB := hB.trans (hC.mono hB.size)
  clear hC
  have x_k_0 := cell_at k_k 0
  have x_k_1 := cell_at k_k 1
  have x_k_2 := cell_at k_k 2
  have x_p_0 := cell_at k_p 0
  have x_p_1 := cell_at k_p 1
  have x_p_2 := cell_at k_p 2
  go_wp2_with fail
  clear x_k_0 x_k_1 x_k_2 x_p_0 x_p_1 x_p_2
  refine (Same_fit H_hh.out _ _ c_k c_p Z2 H_zp.out _ a_k (r_p.at_ r_p.lt)).mono ?_
  rintro e u19 ⟨rfl, hC⟩
  replace hJI := hJI.later hC
  replace hJI2 := hJI2.later hC
  replace r_x := r_x.later hC
  replace k_x := keep k_x hC
  replace r_y := r_y.later hC
  replace k_y := keep k_y hC
  replace a_a := a_a.later hC
  replace k_a := keep k_a hC
  replace r_b := r_b.later hC
  replace k_b := keep k_b hC
  replace a_c := a_c.later hC
  replace k_c := keep k_c hC
  replace r_d := r_d.later hC
  replace k_d := keep k_d hC
  replace a_k := a_k.later hC
  replace k_k := keep k_k hC
  replace r_p := r_p.later hC
  replace k_p := keep k_p hC
  replace hB := hB.trans (hC.mono hB.size)
  clear hC
  go_wp2_with fail
  go_ret
  exact ⟨rfl, hB⟩

set_option maxRecDepth 100000 in
set_option maxHeartbeats 4000000 in
theorem walk_CmsLowers16 {w : World} {r k h q p : Nat} (hk : k = 2 * h) (hf : Fit r k q) (hh : Fit r h p) (hb0 : ((k : Int) != 8) = true) (hb1 : ((k : Int) != 16) = false) (A A2 : Option Addr) (c c2 : Nat) (its its2 : List (BitVec 64 × BitVec 64)) (hlc : its.length ≤ c) (hlc2 : its2.length ≤ c2) (hI : ItAt w w.heap.size A its) (hI2 : ItAt w w.heap.size A2 its2) :
    Calls Try.prog 9 #[.int .i64 (r : Int), .int .i64 (k : Int), .slice A its.length c, .slice A2 its2.length c2] w fun e w' => e = .returned (.bool true) ∧ Below w.heap.size w w' := by
  have hJI := hI.take 100
  have htl : (its.take 100).length = min its.length 100 := by rw [List.length_take]; omega
  obtain ⟨J, hJ⟩ : ∃ J, its.take 100 = J := ⟨_, rfl⟩
  rw [hJ] at hJI htl
  obtain ⟨n, hn⟩ : ∃ n, its.length = n := ⟨_, rfl⟩
  rw [hn] at htl hlc ⊢
  obtain ⟨m, hm⟩ : ∃ m, min n 100 = m := ⟨_, rfl⟩
  have hmi : (if 100 < (n : Int) then (100 : Int) else (n : Int)) = (m : Int) := by split <;> omega
  have hmc : m ≤ c := by omega
  have hm100 : m ≤ 100 := by omega
  have HM := Lib.hid (htl.trans hm)
  clear hI htl hJ hn hm
  have hJI2 := hI2.take 100
  have htl : (its2.take 100).length = min its2.length 100 := by rw [List.length_take]; omega
  obtain ⟨J2, hJ⟩ : ∃ J, its2.take 100 = J := ⟨_, rfl⟩
  rw [hJ] at hJI2 htl
  obtain ⟨n2, hn⟩ : ∃ n, its2.length = n := ⟨_, rfl⟩
  rw [hn] at htl hlc2 ⊢
  obtain ⟨m2, hm⟩ : ∃ m, min n2 100 = m := ⟨_, rfl⟩
  have hmi2 : (if 100 < (n2 : Int) then (100 : Int) else (n2 : Int)) = (m2 : Int) := by split <;> omega
  have hmc2 : m2 ≤ c2 := by omega
  have hm1002 : m2 ≤ 100 := by omega
  have HM2 := Lib.hid (htl.trans hm)
  clear hI2 htl hJ hn hm
  have r1 : 1 ≤ (r : Int) := by have := hf.1; omega
  have r4 : (r : Int) ≤ 4 := by have := hf.2.1; omega
  have hq : (k : Int).tdiv 2 = (h : Int) := by rw [Int.tdiv_eq_ediv_of_nonneg (by omega)]; omega
  have hq2 : (k : Int) / 2 = (h : Int) := by omega
  have hk32 := hf.pos.2.1
  have hh32 := hh.pos.2.1
  have l1 : joinTo h (lowPair k (ofZ r k J)) r = ofZ r h J := by subst hk; exact lower_ofZ r h hh.pos.1 J
  have l2 : joinTo h (lowPair k (ofZ r k J2)) r = ofZ r h J2 := by subst hk; exact lower_ofZ r h hh.pos.1 J2
  have l3 : joinTo h (lowPair k (ofZ r k (J ++ J2))) r = ofZ r h (J ++ J2) := by subst hk; exact lower_ofZ r h hh.pos.1 (J ++ J2)
  have m1 := merge_ofZ r k J J2
  have m2 := merge_ofZ r h J J2
  have zx := (ofZ_length r k J).trans hf.q
  have zy := (ofZ_length r k J2).trans hf.q
  have zd := (ofZ_length r k (J ++ J2)).trans hf.q
  have za := (ofZ_length r h J).trans hh.q
  have zc := (ofZ_length r h J2).trans hh.q
  have zp := (ofZ_length r h (J ++ J2)).trans hh.q
  obtain ⟨X, e_X⟩ : ∃ X, ofZ r k J = X := ⟨_, rfl⟩
  obtain ⟨Y, e_Y⟩ : ∃ X, ofZ r k J2 = X := ⟨_, rfl⟩
  obtain ⟨Z, e_Z⟩ : ∃ X, ofZ r k (J ++ J2) = X := ⟨_, rfl⟩
  obtain ⟨X2, e_X2⟩ : ∃ X, ofZ r h J = X := ⟨_, rfl⟩
  obtain ⟨Y2, e_Y2⟩ : ∃ X, ofZ r h J2 = X := ⟨_, rfl⟩
  obtain ⟨Z2, e_Z2⟩ : ∃ X, ofZ r h (J ++ J2) = X := ⟨_, rfl⟩
  rw [e_X] at l1 m1 zx
  rw [e_Y] at l2 m1 zy
  rw [e_Z] at l3 m1 zd
  rw [e_X2] at l1 m2 za
  rw [e_Y2] at l2 m2 zc
  rw [e_Z2] at l3 m2 zp
  have H_hk := Lib.hid hk
  clear hk
  have H_hf := Lib.hid hf
  clear hf
  have H_hh := Lib.hid hh
  clear hh
  have H_l1 := Lib.hid l1
  clear l1
  have H_l2 := Lib.hid l2
  clear l2
  have H_l3 := Lib.hid l3
  clear l3
  have H_m1 := Lib.hid m1
  clear m1
  have H_m2 := Lib.hid m2
  clear m2
  have H_zx := Lib.hid zx
  clear zx
  have H_zy := Lib.hid zy
  clear zy
  have H_zd := Lib.hid zd
  clear zd
  have H_za := Lib.hid za
  clear za
  have H_zc := Lib.hid zc
  clear zc
  have H_zp := Lib.hid zp
  clear zp
  have H_e_X := Lib.hid e_X
  clear e_X
  have H_e_Y := Lib.hid e_Y
  clear e_Y
  have H_e_X2 := Lib.hid e_X2
  clear e_X2
  clear e_Z e_Y2 e_Z2
  go_enter Try.func9, Try.ntmps9
  have hB : Below w.heap.size w w := Below.refl _ w
  go_wp2_with fail
  refine (shown_any _).mono ?_
  rintro e u1 ⟨rfl, hC⟩
  replace hJI := hJI.later hC
  replace hJI2 := hJI2.later hC
  replace hB := hB.trans (hC.mono hB.size)
  clear hC
  go_wp2_with fail
  refine (of_made H_hf.out A m c J HM.out (by omega) _ hJI).mono ?_
  rintro e u2 ⟨hC, g_x, c_x, rfl, hg, r_x⟩
  rw [H_e_X.out] at r_x
  clear hg
  replace hJI := hJI.later hC
  replace hJI2 := hJI2.later hC
  replace hB := hB.trans (hC.mono hB.size)
  clear hC
  go_wp2_with fail
  have hA : Below u2.heap.size u2 (u2.alloc (.cells #[.int .i64 (r : Int), .int .i64 (k : Int), .slice (some ⟨g_x, 0, none⟩) q c_x] 24)) := (Below.refl _ u2).alloc (Nat.le_refl _) _
  replace hJI := hJI.later hA
  replace hJI2 := hJI2.later hA
  replace r_x := r_x.later hA
  replace hB := hB.trans (hA.mono hB.size)
  have k_x := new_at u2 (.cells #[.int .i64 (r : Int), .int .i64 (k : Int), .slice (some ⟨g_x, 0, none⟩) q c_x] 24) _ rfl
  obtain ⟨b_x, hb⟩ : ∃ b, u2.heap.size = b := ⟨_, rfl⟩
  rw [hb] at k_x ⊢
  clear hA hb
  generalize u2.alloc (.cells #[.int .i64 (r : Int), .int .i64 (k : Int), .slice (some ⟨g_x, 0, none⟩) q c_x] 24) = u3 at *
  clear u2
  refine (of_made H_hf.out A2 m2 c2 J2 HM2.out (by omega) _ hJI2).mono ?_
  rintro e u4 ⟨hC, g_y, c_y, rfl, hg, r_y⟩
  rw [H_e_Y.out] at r_y
  clear hg
  replace hJI := hJI.later hC
  replace hJI2 := hJI2.later hC
  replace r_x := r_x.later hC
  replace k_x := keep k_x hC
  replace hB := hB.trans (hC.mono hB.size)
  clear hC
  have x_x_0 := old_cell (cell_at k_x 0)
  have x_x_1 := old_cell (cell_at k_x 1)
  have x_x_2 := old_cell (cell_at k_x 2)
  go_wp2_with fail
  clear x_x_0 x_x_1 x_x_2
  have hA : Below u4.heap.size u4 (u4.alloc (.cells #[.int .i64 (r : Int), .int .i64 (k : Int), .slice (some ⟨g_y, 0, none⟩) q c_y] 24)) := (Below.refl _ u4).alloc (Nat.le_refl _) _
  replace hJI := hJI.later hA
  replace hJI2 := hJI2.later hA
  replace r_x := r_x.later hA
  replace k_x := keep k_x hA
  replace r_y := r_y.later hA
  replace hB := hB.trans (hA.mono hB.size)
  have k_y := new_at u4 (.cells #[.int .i64 (r : Int), .int .i64 (k : Int), .slice (some ⟨g_y, 0, none⟩) q c_y] 24) _ rfl
  obtain ⟨b_y, hb⟩ : ∃ b, u4.heap.size = b := ⟨_, rfl⟩
  rw [hb] at k_y ⊢
  clear hA hb
  generalize u4.alloc (.cells #[.int .i64 (r : Int), .int .i64 (k : Int), .slice (some ⟨g_y, 0, none⟩) q c_y] 24) = u5 at *
  clear u4
  refine (Lower_made H_hk.out H_hf.out H_hh.out _ c_x X H_zx.out _ (r_x.at_ r_x.lt)).mono ?_
  rintro e u6 ⟨hC, A_a, c_a, rfl, a_a⟩
  rw [H_l1.out] at a_a
  replace hJI := hJI.later hC
  replace hJI2 := hJI2.later hC
  replace r_x := r_x.later hC
  replace k_x := keep k_x hC
  replace r_y := r_y.later hC
  replace k_y := keep k_y hC
  replace hB := hB.trans (hC.mono hB.size)
  clear hC
  go_wp2_with fail
  have hA : Below u6.heap.size u6 (u6.alloc (.cells #[.int .i64 (r : Int), .int .i64 (h : Int), .slice A_a p c_a] 24)) := (Below.refl _ u6).alloc (Nat.le_refl _) _
  replace hJI := hJI.later hA
  replace hJI2 := hJI2.later hA
  replace r_x := r_x.later hA
  replace k_x := keep k_x hA
  replace r_y := r_y.later hA
  replace k_y := keep k_y hA
  replace a_a := a_a.later hA
  replace hB := hB.trans (hA.mono hB.size)
  have k_a := new_at u6 (.cells #[.int .i64 (r : Int), .int .i64 (h : Int), .slice A_a p c_a] 24) _ rfl
  obtain ⟨b_a, hb⟩ : ∃ b, u6.heap.size = b := ⟨_, rfl⟩
  rw [hb] at k_a ⊢
  clear hA hb
  generalize u6.alloc (.cells #[.int .i64 (r : Int), .int .i64 (h : Int), .slice A_a p c_a] 24) = u7 at *
  clear u6
  refine (of_made H_hh.out A m c J HM.out (by omega) _ hJI).mono ?_
  rintro e u8 ⟨hC, g_b, c_b, rfl, hg, r_b⟩
  clear hg
  rw [H_e_X2.out] at r_b
  replace hJI := hJI.later hC
  replace hJI2 := hJI2.later hC
  replace r_x := r_x.later hC
  replace k_x := keep k_x hC
  replace r_y := r_y.later hC
  replace k_y := keep k_y hC
  replace a_a := a_a.later hC
  replace k_a := keep k_a hC
  replace hB := hB.trans (hC.mono hB.size)
  clear hC
  have x_y_0 := old_cell (cell_at k_y 0)
  have x_y_1 := old_cell (cell_at k_y 1)
  have x_y_2 := old_cell (cell_at k_y 2)
  go_wp2_with fail
  clear x_y_0 x_y_1 x_y_2
  have hA : Below u8.heap.size u8 (u8.alloc (.cells #[.int .i64 (r : Int), .int .i64 (h : Int), .slice (some ⟨g_b, 0, none⟩) p c_b] 24)) := (Below.refl _ u8).alloc (Nat.le_refl _) _
  replace hJI := hJI.later hA
  replace hJI2 := hJI2.later hA
  replace r_x := r_x.later hA
  replace k_x := keep k_x hA
  replace r_y := r_y.later hA
  replace k_y := keep k_y hA
  replace a_a := a_a.later hA
  replace k_a := keep k_a hA
  replace r_b := r_b.later hA
  replace hB := hB.trans (hA.mono hB.size)
  have k_b := new_at u8 (.cells #[.int .i64 (r : Int), .int .i64 (h : Int), .slice (some ⟨g_b, 0, none⟩) p c_b] 24) _ rfl
  obtain ⟨b_b, hb⟩ : ∃ b, u8.heap.size = b := ⟨_, rfl⟩
  rw [hb] at k_b ⊢
  clear hA hb
  generalize u8.alloc (.cells #[.int .i64 (r : Int), .int .i64 (h : Int), .slice (some ⟨g_b, 0, none⟩) p c_b] 24) = u9 at *
  clear u8
  refine (Lower_made H_hk.out H_hf.out H_hh.out _ c_y Y H_zy.out _ (r_y.at_ r_y.lt)).mono ?_
  rintro e u10 ⟨hC, A_c, c_c, rfl, a_c⟩
  rw [H_l2.out] at a_c
  replace hJI := hJI.later hC
  replace hJI2 := hJI2.later hC
  replace r_x := r_x.later hC
  replace k_x := keep k_x hC
  replace r_y := r_y.later hC
  replace k_y := keep k_y hC
  replace a_a := a_a.later hC
  replace k_a := keep k_a hC
  replace r_b := r_b.later hC
  replace k_b := keep k_b hC
  replace hB := hB.trans (hC.mono hB.size)
  clear hC
  have x_x_0 := old_cell (cell_at k_x 0)
  have x_x_1 := old_cell (cell_at k_x 1)
  have x_x_2 := old_cell (cell_at k_x 2)
  have x_y_0 := old_cell (cell_at k_y 0)
  have x_y_1 := old_cell (cell_at k_y 1)
  have x_y_2 := old_cell (cell_at k_y 2)
  go_wp2_with fail
  clear x_x_0 x_x_1 x_x_2 x_y_0 x_y_1 x_y_2
  have hA : Below u10.heap.size u10 (u10.alloc (.cells #[.int .i64 (r : Int), .int .i64 (h : Int), .slice A_c p c_c] 24)) := (Below.refl _ u10).alloc (Nat.le_refl _) _
  replace hJI := hJI.later hA
  replace hJI2 := hJI2.later hA
  replace r_x := r_x.later hA
  replace k_x := keep k_x hA
  replace r_y := r_y.later hA
  replace k_y := keep k_y hA
  replace a_a := a_a.later hA
  replace k_a := keep k_a hA
  replace r_b := r_b.later hA
  replace k_b := keep k_b hA
  replace a_c := a_c.later hA
  replace hB := hB.trans (hA.mono hB.size)
  have k_c := new_at u10 (.cells #[.int .i64 (r : Int), .int .i64 (h : Int), .slice A_c p c_c] 24) _ rfl
  obtain ⟨b_c, hb⟩ : ∃ b, u10.heap.size = b := ⟨_, rfl⟩
  rw [hb] at k_c ⊢
  clear hA hb
  generalize u10.alloc (.cells #[.int .i64 (r : Int), .int .i64 (h : Int), .slice A_c p c_c] 24) = u11 at *
  clear u10
  refine (Merge_made H_hf.out _ _ c_x c_y X Y H_zx.out H_zy.out _ (r_x.at_ r_x.lt) (r_y.at_ r_y.lt)).mono ?_
  rintro e u12 ⟨hC, g_d, c_d, rfl, hg, r_d⟩
  rw [H_m1.out] at r_d
  clear hg
  replace hJI := hJI.later hC
  replace hJI2 := hJI2.later hC
  replace r_x := r_x.later hC
  replace k_x := keep k_x hC
  replace r_y := r_y.later hC
  replace k_y := keep k_y hC
  replace a_a := a_a.later hC
  replace k_a := keep k_a hC
  replace r_b := r_b.later hC
  replace k_b := keep k_b hC
  replace a_c := a_c.later hC
  replace k_c := keep k_c hC
  replace hB := hB.trans (hC.mono hB.size)
  clear hC
  go_wp2_with fail
  have hA : Below u12.heap.size u12 (u12.alloc (.cells #[.int .i64 (r : Int), .int .i64 (k : Int), .slice (some ⟨g_d, 0, none⟩) q c_d] 24)) := (Below.refl _ u12).alloc (Nat.le_refl _) _
  replace hJI := hJI.later hA
  replace hJI2 := hJI2.later hA
  replace r_x := r_x.later hA
  replace k_x := keep k_x hA
  replace r_y := r_y.later hA
  replace k_y := keep k_y hA
  replace a_a := a_a.later hA
  replace k_a := keep k_a hA
  replace r_b := r_b.later hA
  replace k_b := keep k_b hA
  replace a_c := a_c.later hA
  replace k_c := keep k_c hA
  replace r_d := r_d.later hA
  replace hB := hB.trans (hA.mono hB.size)
  have k_d := new_at u12 (.cells #[.int .i64 (r : Int), .int .i64 (k : Int), .slice (some ⟨g_d, 0, none⟩) q c_d] 24) _ rfl
  obtain ⟨b_d, hb⟩ : ∃ b, u12.heap.size = b := ⟨_, rfl⟩
  rw [hb] at k_d ⊢
  clear hA hb
  generalize u12.alloc (.cells #[.int .i64 (r : Int), .int .i64 (k : Int), .slice (some ⟨g_d, 0, none⟩) q c_d] 24) = u13 at *
  clear u12
  refine (Lower_made H_hk.out H_hf.out H_hh.out _ c_d Z H_zd.out _ (r_d.at_ r_d.lt)).mono ?_
  rintro e u14 ⟨hC, A_k, c_k, rfl, a_k⟩
  rw [H_l3.out] at a_k
  replace hJI := hJI.later hC
  replace hJI2 := hJI2.later hC
  replace r_x := r_x.later hC
  replace k_x := keep k_x hC
  replace r_y := r_y.later hC
  replace k_y := keep k_y hC
  replace a_a := a_a.later hC
  replace k_a := keep k_a hC
  replace r_b := r_b.later hC
  replace k_b := keep k_b hC
  replace a_c := a_c.later hC
  replace k_c := keep k_c hC
  replace r_d := r_d.later hC
  replace k_d := keep k_d hC
  replace hB := hB.trans (hC.mono hB.size)
  clear hC
  have x_a_0 := old_cell (cell_at k_a 0)
  have x_a_1 := old_cell (cell_at k_a 1)
  have x_a_2 := old_cell (cell_at k_a 2)
  have x_c_0 := old_cell (cell_at k_c 0)
  have x_c_1 := old_cell (cell_at k_c 1)
  have x_c_2 := old_cell (cell_at k_c 2)
  go_wp2_with fail
  clear x_a_0 x_a_1 x_a_2 x_c_0 x_c_1 x_c_2
  have hA : Below u14.heap.size u14 (u14.alloc (.cells #[.int .i64 (r : Int), .int .i64 (h : Int), .slice A_k p c_k] 24)) := (Below.refl _ u14).alloc (Nat.le_refl _) _
  replace hJI := hJI.later hA
  replace hJI2 := hJI2.later hA
  replace r_x := r_x.later hA
  replace k_x := keep k_x hA
  replace r_y := r_y.later hA
  replace k_y := keep k_y hA
  replace a_a := a_a.later hA
  replace k_a := keep k_a hA
  replace r_b := r_b.later hA
  replace k_b := keep k_b hA
  replace a_c := a_c.later hA
  replace k_c := keep k_c hA
  replace r_d := r_d.later hA
  replace k_d := keep k_d hA
  replace a_k := a_k.later hA
  replace hB := hB.trans (hA.mono hB.size)
  have k_k := new_at u14 (.cells #[.int .i64 (r : Int), .int .i64 (h : Int), .slice A_k p c_k] 24) _ rfl
  obtain ⟨b_k, hb⟩ : ∃ b, u14.heap.size = b := ⟨_, rfl⟩
  rw [hb] at k_k ⊢
  clear hA hb
  generalize u14.alloc (.cells #[.int .i64 (r : Int), .int .i64 (h : Int), .slice A_k p c_k] 24) = u15 at *
  clear u14
  refine (Merge_made H_hh.out _ _ c_a c_c X2 Y2 H_za.out H_zc.out _ a_a a_c).mono ?_
  rintro e u16 ⟨hC, g_p, c_p, rfl, hg, r_p⟩
  clear hg
  rw [H_m2.out] at r_p
  replace hJI := hJI.later hC
  replace hJI2 := hJI2.later hC
  replace r_x := r_x.later hC
  replace k_x := keep k_x hC
  replace r_y := r_y.later hC
  replace k_y := keep k_y hC
  replace a_a := a_a.later hC
  replace k_a := keep k_a hC
  replace r_b := r_b.later hC
  replace k_b := keep k_b hC
  replace a_c := a_c.later hC
  replace k_c := keep k_c hC
  replace r_d := r_d.later hC
  replace k_d := keep k_d hC
  replace a_k := a_k.later hC
  replace k_k := keep k_k hC
  replace hB := hB.trans (hC.mono hB.size)
  clear hC
  have x_a_0 := old_cell (cell_at k_a 0)
  have x_a_1 := old_cell (cell_at k_a 1)
  have x_a_2 := old_cell (cell_at k_a 2)
  have x_b_0 := old_cell (cell_at k_b 0)
  have x_b_1 := old_cell (cell_at k_b 1)
  have x_b_2 := old_cell (cell_at k_b 2)
  go_wp2_with fail
  clear x_a_0 x_a_1 x_a_2 x_b_0 x_b_1 x_b_2
  have hA : Below u16.heap.size u16 (u16.alloc (.cells #[.int .i64 (r : Int), .int .i64 (h : Int), .slice (some ⟨g_p, 0, none⟩) p c_p] 24)) := (Below.refl _ u16).alloc (Nat.le_refl _) _
  replace hJI := hJI.later hA
  replace hJI2 := hJI2.later hA
  replace r_x := r_x.later hA
  replace k_x := keep k_x hA
  replace r_y := r_y.later hA
  replace k_y := keep k_y hA
  replace a_a := a_a.later hA
  replace k_a := keep k_a hA
  replace r_b := r_b.later hA
  replace k_b := keep k_b hA
  replace a_c := a_c.later hA
  replace k_c := keep k_c hA
  replace r_d := r_d.later hA
  replace k_d := keep k_d hA
  replace a_k := a_k.later hA
  replace k_k := keep k_k hA
  replace r_p := r_p.later hA
  replace hB := hB.trans (hA.mono hB.size)
  have k_p := new_at u16 (.cells #[.int .i64 (r : Int), .int .i64 (h : Int), .slice (some ⟨g_p, 0, none⟩) p c_p] 24) _ rfl
  obtain ⟨b_p, hb⟩ : ∃ b, u16.heap.size = b := ⟨_, rfl⟩
  rw [hb] at k_p ⊢
  clear hA hb
  generalize u16.alloc (.cells #[.int .i64 (r : Int), .int .i64 (h : Int), .slice (some ⟨g_p, 0, none⟩) p c_p] 24) = u17 at *
  clear u16
  refine (Same_fit H_hh.out _ _ c_a c_b X2 H_za.out _ a_a (r_b.at_ r_b.lt)).mono ?_
  rintro e u18 ⟨rfl, hC⟩
  replace hJI := hJI.later hC
  replace hJI2 := hJI2.later hC
  replace r_x := r_x.later hC
  replace k_x := keep k_x hC
  replace r_y := r_y.later hC
  replace k_y := keep k_y hC
  replace a_a := a_a.later hC
  replace k_a := keep k_a hC
  replace r_b := r_b.later hC
  replace k_b := keep k_b hC
  replace a_c := a_c.later hC
  replace k_c := keep k_c hC
  replace r_d := r_d.later hC
  replace k_d := keep k_d hC
  replace a_k := a_k.later hC
  replace k_k := keep k_k hC
  replace r_p := r_p.later hC
  replace k_p := keep k_p hC
  replace hB := hB.trans (hC.mono hB.size)
  clear hC
  have x_k_0 := cell_at k_k 0
  have x_k_1 := cell_at k_k 1
  have x_k_2 := cell_at k_k 2
  have x_p_0 := cell_at k_p 0
  have x_p_1 := cell_at k_p 1
  have x_p_2 := cell_at k_p 2
  go_wp2_with fail
  clear x_k_0 x_k_1 x_k_2 x_p_0 x_p_1 x_p_2
  refine (Same_fit H_hh.out _ _ c_k c_p Z2 H_zp.out _ a_k (r_p.at_ r_p.lt)).mono ?_
  rintro e u19 ⟨rfl, hC⟩
  replace hJI := hJI.later hC
  replace hJI2 := hJI2.later hC
  replace r_x := r_x.later hC
  replace k_x := keep k_x hC
  replace r_y := r_y.later hC
  replace k_y := keep k_y hC
  replace a_a := a_a.later hC
  replace k_a := keep k_a hC
  replace r_b := r_b.later hC
  replace k_b := keep k_b hC
  replace a_c := a_c.later hC
  replace k_c := keep k_c hC
  replace r_d := r_d.later hC
  replace k_d := keep k_d hC
  replace a_k := a_k.later hC
  replace k_k := keep k_k hC
  replace r_p := r_p.later hC
  replace k_p := keep k_p hC
  replace hB := hB.trans (hC.mono hB.size)
  clear hC
  go_wp2_with fail
  go_ret
  exact ⟨rfl, hB⟩

set_option maxRecDepth 100000 in
set_option maxHeartbeats 4000000 in
theorem walk_CmsLowers32 {w : World} {r k h q p : Nat} (hk : k = 2 * h) (hf : Fit r k q) (hh : Fit r h p) (hb0 : ((k : Int) != 8) = true) (hb1 : ((k : Int) != 16) = true) (hb2 : ((k : Int) != 32) = false) (A A2 : Option Addr) (c c2 : Nat) (its its2 : List (BitVec 64 × BitVec 64)) (hlc : its.length ≤ c) (hlc2 : its2.length ≤ c2) (hI : ItAt w w.heap.size A its) (hI2 : ItAt w w.heap.size A2 its2) :
    Calls Try.prog 9 #[.int .i64 (r : Int), .int .i64 (k : Int), .slice A its.length c, .slice A2 its2.length c2] w fun e w' => e = .returned (.bool true) ∧ Below w.heap.size w w' := by
  have hJI := hI.take 100
  have htl : (its.take 100).length = min its.length 100 := by rw [List.length_take]; omega
  obtain ⟨J, hJ⟩ : ∃ J, its.take 100 = J := ⟨_, rfl⟩
  rw [hJ] at hJI htl
  obtain ⟨n, hn⟩ : ∃ n, its.length = n := ⟨_, rfl⟩
  rw [hn] at htl hlc ⊢
  obtain ⟨m, hm⟩ : ∃ m, min n 100 = m := ⟨_, rfl⟩
  have hmi : (if 100 < (n : Int) then (100 : Int) else (n : Int)) = (m : Int) := by split <;> omega
  have hmc : m ≤ c := by omega
  have hm100 : m ≤ 100 := by omega
  have HM := Lib.hid (htl.trans hm)
  clear hI htl hJ hn hm
  have hJI2 := hI2.take 100
  have htl : (its2.take 100).length = min its2.length 100 := by rw [List.length_take]; omega
  obtain ⟨J2, hJ⟩ : ∃ J, its2.take 100 = J := ⟨_, rfl⟩
  rw [hJ] at hJI2 htl
  obtain ⟨n2, hn⟩ : ∃ n, its2.length = n := ⟨_, rfl⟩
  rw [hn] at htl hlc2 ⊢
  obtain ⟨m2, hm⟩ : ∃ m, min n2 100 = m := ⟨_, rfl⟩
  have hmi2 : (if 100 < (n2 : Int) then (100 : Int) else (n2 : Int)) = (m2 : Int) := by split <;> omega
  have hmc2 : m2 ≤ c2 := by omega
  have hm1002 : m2 ≤ 100 := by omega
  have HM2 := Lib.hid (htl.trans hm)
  clear hI2 htl hJ hn hm
  have r1 : 1 ≤ (r : Int) := by have := hf.1; omega
  have r4 : (r : Int) ≤ 4 := by have := hf.2.1; omega
  have hq : (k : Int).tdiv 2 = (h : Int) := by rw [Int.tdiv_eq_ediv_of_nonneg (by omega)]; omega
  have hq2 : (k : Int) / 2 = (h : Int) := by omega
  have hk32 := hf.pos.2.1
  have hh32 := hh.pos.2.1
  have l1 : joinTo h (lowPair k (ofZ r k J)) r = ofZ r h J := by subst hk; exact lower_ofZ r h hh.pos.1 J
  have l2 : joinTo h (lowPair k (ofZ r k J2)) r = ofZ r h J2 := by subst hk; exact lower_ofZ r h hh.pos.1 J2
  have l3 : joinTo h (lowPair k (ofZ r k (J ++ J2))) r = ofZ r h (J ++ J2) := by subst hk; exact lower_ofZ r h hh.pos.1 (J ++ J2)
  have m1 := merge_ofZ r k J J2
  have m2 := merge_ofZ r h J J2
  have zx := (ofZ_length r k J).trans hf.q
  have zy := (ofZ_length r k J2).trans hf.q
  have zd := (ofZ_length r k (J ++ J2)).trans hf.q
  have za := (ofZ_length r h J).trans hh.q
  have zc := (ofZ_length r h J2).trans hh.q
  have zp := (ofZ_length r h (J ++ J2)).trans hh.q
  obtain ⟨X, e_X⟩ : ∃ X, ofZ r k J = X := ⟨_, rfl⟩
  obtain ⟨Y, e_Y⟩ : ∃ X, ofZ r k J2 = X := ⟨_, rfl⟩
  obtain ⟨Z, e_Z⟩ : ∃ X, ofZ r k (J ++ J2) = X := ⟨_, rfl⟩
  obtain ⟨X2, e_X2⟩ : ∃ X, ofZ r h J = X := ⟨_, rfl⟩
  obtain ⟨Y2, e_Y2⟩ : ∃ X, ofZ r h J2 = X := ⟨_, rfl⟩
  obtain ⟨Z2, e_Z2⟩ : ∃ X, ofZ r h (J ++ J2) = X := ⟨_, rfl⟩
  rw [e_X] at l1 m1 zx
  rw [e_Y] at l2 m1 zy
  rw [e_Z] at l3 m1 zd
  rw [e_X2] at l1 m2 za
  rw [e_Y2] at l2 m2 zc
  rw [e_Z2] at l3 m2 zp
  have H_hk := Lib.hid hk
  clear hk
  have H_hf := Lib.hid hf
  clear hf
  have H_hh := Lib.hid hh
  clear hh
  have H_l1 := Lib.hid l1
  clear l1
  have H_l2 := Lib.hid l2
  clear l2
  have H_l3 := Lib.hid l3
  clear l3
  have H_m1 := Lib.hid m1
  clear m1
  have H_m2 := Lib.hid m2
  clear m2
  have H_zx := Lib.hid zx
  clear zx
  have H_zy := Lib.hid zy
  clear zy
  have H_zd := Lib.hid zd
  clear zd
  have H_za := Lib.hid za
  clear za
  have H_zc := Lib.hid zc
  clear zc
  have H_zp := Lib.hid zp
  clear zp
  have H_e_X := Lib.hid e_X
  clear e_X
  have H_e_Y := Lib.hid e_Y
  clear e_Y
  have H_e_X2 := Lib.hid e_X2
  clear e_X2
  clear e_Z e_Y2 e_Z2
  go_enter Try.func9, Try.ntmps9
  have hB : Below w.heap.size w w := Below.refl _ w
  go_wp2_with fail
  refine (shown_any _).mono ?_
  rintro e u1 ⟨rfl, hC⟩
  replace hJI := hJI.later hC
  replace hJI2 := hJI2.later hC
  replace hB := hB.trans (hC.mono hB.size)
  clear hC
  go_wp2_with fail
  refine (of_made H_hf.out A m c J HM.out (by omega) _ hJI).mono ?_
  rintro e u2 ⟨hC, g_x, c_x, rfl, hg, r_x⟩
  rw [H_e_X.out] at r_x
  clear hg
  replace hJI := hJI.later hC
  replace hJI2 := hJI2.later hC
  replace hB := hB.trans (hC.mono hB.size)
  clear hC
  go_wp2_with fail
  have hA : Below u2.heap.size u2 (u2.alloc (.cells #[.int .i64 (r : Int), .int .i64 (k : Int), .slice (some ⟨g_x, 0, none⟩) q c_x] 24)) := (Below.refl _ u2).alloc (Nat.le_refl _) _
  replace hJI := hJI.later hA
  replace hJI2 := hJI2.later hA
  replace r_x := r_x.later hA
  replace hB := hB.trans (hA.mono hB.size)
  have k_x := new_at u2 (.cells #[.int .i64 (r : Int), .int .i64 (k : Int), .slice (some ⟨g_x, 0, none⟩) q c_x] 24) _ rfl
  obtain ⟨b_x, hb⟩ : ∃ b, u2.heap.size = b := ⟨_, rfl⟩
  rw [hb] at k_x ⊢
  clear hA hb
  generalize u2.alloc (.cells #[.int .i64 (r : Int), .int .i64 (k : Int), .slice (some ⟨g_x, 0, none⟩) q c_x] 24) = u3 at *
  clear u2
  refine (of_made H_hf.out A2 m2 c2 J2 HM2.out (by omega) _ hJI2).mono ?_
  rintro e u4 ⟨hC, g_y, c_y, rfl, hg, r_y⟩
  rw [H_e_Y.out] at r_y
  clear hg
  replace hJI := hJI.later hC
  replace hJI2 := hJI2.later hC
  replace r_x := r_x.later hC
  replace k_x := keep k_x hC
  replace hB := hB.trans (hC.mono hB.size)
  clear hC
  have x_x_0 := old_cell (cell_at k_x 0)
  have x_x_1 := old_cell (cell_at k_x 1)
  have x_x_2 := old_cell (cell_at k_x 2)
  go_wp2_with fail
  clear x_x_0 x_x_1 x_x_2
  have hA : Below u4.heap.size u4 (u4.alloc (.cells #[.int .i64 (r : Int), .int .i64 (k : Int), .slice (some ⟨g_y, 0, none⟩) q c_y] 24)) := (Below.refl _ u4).alloc (Nat.le_refl _) _
  replace hJI := hJI.later hA
  replace hJI2 := hJI2.later hA
  replace r_x := r_x.later hA
  replace k_x := keep k_x hA
  replace r_y := r_y.later hA
  replace hB := hB.trans (hA.mono hB.size)
  have k_y := new_at u4 (.cells #[.int .i64 (r : Int), .int .i64 (k : Int), .slice (some ⟨g_y, 0, none⟩) q c_y] 24) _ rfl
  obtain ⟨b_y, hb⟩ : ∃ b, u4.heap.size = b := ⟨_, rfl⟩
  rw [hb] at k_y ⊢
  clear hA hb
  generalize u4.alloc (.cells #[.int .i64 (r : Int), .int .i64 (k : Int), .slice (some ⟨g_y, 0, none⟩) q c_y] 24) = u5 at *
  clear u4
  refine (Lower_made H_hk.out H_hf.out H_hh.out _ c_x X H_zx.out _ (r_x.at_ r_x.lt)).mono ?_
  rintro e u6 ⟨hC, A_a, c_a, rfl, a_a⟩
  rw [H_l1.out] at a_a
  replace hJI := hJI.later hC
  replace hJI2 := hJI2.later hC
  replace r_x := r_x.later hC
  replace k_x := keep k_x hC
  replace r_y := r_y.later hC
  replace k_y := keep k_y hC
  replace hB := hB.trans (hC.mono hB.size)
  clear hC
  go_wp2_with fail
  have hA : Below u6.heap.size u6 (u6.alloc (.cells #[.int .i64 (r : Int), .int .i64 (h : Int), .slice A_a p c_a] 24)) := (Below.refl _ u6).alloc (Nat.le_refl _) _
  replace hJI := hJI.later hA
  replace hJI2 := hJI2.later hA
  replace r_x := r_x.later hA
  replace k_x := keep k_x hA
  replace r_y := r_y.later hA
  replace k_y := keep k_y hA
  replace a_a := a_a.later hA
  replace hB := hB.trans (hA.mono hB.size)
  have k_a := new_at u6 (.cells #[.int .i64 (r : Int), .int .i64 (h : Int), .slice A_a p c_a] 24) _ rfl
  obtain ⟨b_a, hb⟩ : ∃ b, u6.heap.size = b := ⟨_, rfl⟩
  rw [hb] at k_a ⊢
  clear hA hb
  generalize u6.alloc (.cells #[.int .i64 (r : Int), .int .i64 (h : Int), .slice A_a p c_a] 24) = u7 at *
  clear u6
  refine (of_made H_hh.out A m c J HM.out (by omega) _ hJI).mono ?_
  rintro e u8 ⟨hC, g_b, c_b, rfl, hg, r_b⟩
  clear hg
  rw [H_e_X2.out] at r_b
  replace hJI := hJI.later hC
  replace hJI2 := hJI2.later hC
  replace r_x := r_x.later hC
  replace k_x := keep k_x hC
  replace r_y := r_y.later hC
  replace k_y := keep k_y hC
  replace a_a := a_a.later hC
  replace k_a := keep k_a hC
  replace hB := hB.trans (hC.mono hB.size)
  clear hC
  have x_y_0 := old_cell (cell_at k_y 0)
  have x_y_1 := old_cell (cell_at k_y 1)
  have x_y_2 := old_cell (cell_at k_y 2)
  go_wp2_with fail
  clear x_y_0 x_y_1 x_y_2
  have hA : Below u8.heap.size u8 (u8.alloc (.cells #[.int .i64 (r : Int), .int .i64 (h : Int), .slice (some ⟨g_b, 0, none⟩) p c_b] 24)) := (Below.refl _ u8).alloc (Nat.le_refl _) _
  replace hJI := hJI.later hA
  replace hJI2 := hJI2.later hA
  replace r_x := r_x.later hA
  replace k_x := keep k_x hA
  replace r_y := r_y.later hA
  replace k_y := keep k_y hA
  replace a_a := a_a.later hA
  replace k_a := keep k_a hA
  replace r_b := r_b.later hA
  replace hB := hB.trans (hA.mono hB.size)
  have k_b := new_at u8 (.cells #[.int .i64 (r : Int), .int .i64 (h : Int), .slice (some ⟨g_b, 0, none⟩) p c_b] 24) _ rfl
  obtain ⟨b_b, hb⟩ : ∃ b, u8.heap.size = b := ⟨_, rfl⟩
  rw [hb] at k_b ⊢
  clear hA hb
  generalize u8.alloc (.cells #[.int .i64 (r : Int), .int .i64 (h : Int), .slice (some ⟨g_b, 0, none⟩) p c_b] 24) = u9 at *
  clear u8
  refine (Lower_made H_hk.out H_hf.out H_hh.out _ c_y Y H_zy.out _ (r_y.at_ r_y.lt)).mono ?_
  rintro e u10 ⟨hC, A_c, c_c, rfl, a_c⟩
  rw [H_l2.out] at a_c
  replace hJI := hJI.later hC
  replace hJI2 := hJI2.later hC
  replace r_x := r_x.later hC
  replace k_x := keep k_x hC
  replace r_y := r_y.later hC
  replace k_y := keep k_y hC
  replace a_a := a_a.later hC
  replace k_a := keep k_a hC
  replace r_b := r_b.later hC
  replace k_b := keep k_b hC
  replace hB := hB.trans (hC.mono hB.size)
  clear hC
  have x_x_0 := old_cell (cell_at k_x 0)
  have x_x_1 := old_cell (cell_at k_x 1)
  have x_x_2 := old_cell (cell_at k_x 2)
  have x_y_0 := old_cell (cell_at k_y 0)
  have x_y_1 := old_cell (cell_at k_y 1)
  have x_y_2 := old_cell (cell_at k_y 2)
  go_wp2_with fail
  clear x_x_0 x_x_1 x_x_2 x_y_0 x_y_1 x_y_2
  have hA : Below u10.heap.size u10 (u10.alloc (.cells #[.int .i64 (r : Int), .int .i64 (h : Int), .slice A_c p c_c] 24)) := (Below.refl _ u10).alloc (Nat.le_refl _) _
  replace hJI := hJI.later hA
  replace hJI2 := hJI2.later hA
  replace r_x := r_x.later hA
  replace k_x := keep k_x hA
  replace r_y := r_y.later hA
  replace k_y := keep k_y hA
  replace a_a := a_a.later hA
  replace k_a := keep k_a hA
  replace r_b := r_b.later hA
  replace k_b := keep k_b hA
  replace a_c := a_c.later hA
  replace hB := hB.trans (hA.mono hB.size)
  have k_c := new_at u10 (.cells #[.int .i64 (r : Int), .int .i64 (h : Int), .slice A_c p c_c] 24) _ rfl
  obtain ⟨b_c, hb⟩ : ∃ b, u10.heap.size = b := ⟨_, rfl⟩
  rw [hb] at k_c ⊢
  clear hA hb
  generalize u10.alloc (.cells #[.int .i64 (r : Int), .int .i64 (h : Int), .slice A_c p c_c] 24) = u11 at *
  clear u10
  refine (Merge_made H_hf.out _ _ c_x c_y X Y H_zx.out H_zy.out _ (r_x.at_ r_x.lt) (r_y.at_ r_y.lt)).mono ?_
  rintro e u12 ⟨hC, g_d, c_d, rfl, hg, r_d⟩
  rw [H_m1.out] at r_d
  clear hg
  replace hJI := hJI.later hC
  replace hJI2 := hJI2.later hC
  replace r_x := r_x.later hC
  replace k_x := keep k_x hC
  replace r_y := r_y.later hC
  replace k_y := keep k_y hC
  replace a_a := a_a.later hC
  replace k_a := keep k_a hC
  replace r_b := r_b.later hC
  replace k_b := keep k_b hC
  replace a_c := a_c.later hC
  replace k_c := keep k_c hC
  replace hB := hB.trans (hC.mono hB.size)
  clear hC
  go_wp2_with fail
  have hA : Below u12.heap.size u12 (u12.alloc (.cells #[.int .i64 (r : Int), .int .i64 (k : Int), .slice (some ⟨g_d, 0, none⟩) q c_d] 24)) := (Below.refl _ u12).alloc (Nat.le_refl _) _
  replace hJI := hJI.later hA
  replace hJI2 := hJI2.later hA
  replace r_x := r_x.later hA
  replace k_x := keep k_x hA
  replace r_y := r_y.later hA
  replace k_y := keep k_y hA
  replace a_a := a_a.later hA
  replace k_a := keep k_a hA
  replace r_b := r_b.later hA
  replace k_b := keep k_b hA
  replace a_c := a_c.later hA
  replace k_c := keep k_c hA
  replace r_d := r_d.later hA
  replace hB := hB.trans (hA.mono hB.size)
  have k_d := new_at u12 (.cells #[.int .i64 (r : Int), .int .i64 (k : Int), .slice (some ⟨g_d, 0, none⟩) q c_d] 24) _ rfl
  obtain ⟨b_d, hb⟩ : ∃ b, u12.heap.size = b := ⟨_, rfl⟩
  rw [hb] at k_d ⊢
  clear hA hb
  generalize u12.alloc (.cells #[.int .i64 (r : Int), .int .i64 (k : Int), .slice (some ⟨g_d, 0, none⟩) q c_d] 24) = u13 at *
  clear u12
  refine (Lower_made H_hk.out H_hf.out H_hh.out _ c_d Z H_zd.out _ (r_d.at_ r_d.lt)).mono ?_
  rintro e u14 ⟨hC, A_k, c_k, rfl, a_k⟩
  rw [H_l3.out] at a_k
  replace hJI := hJI.later hC
  replace hJI2 := hJI2.later hC
  replace r_x := r_x.later hC
  replace k_x := keep k_x hC
  replace r_y := r_y.later hC
  replace k_y := keep k_y hC
  replace a_a := a_a.later hC
  replace k_a := keep k_a hC
  replace r_b := r_b.later hC
  replace k_b := keep k_b hC
  replace a_c := a_c.later hC
  replace k_c := keep k_c hC
  replace r_d := r_d.later hC
  replace k_d := keep k_d hC
  replace hB := hB.trans (hC.mono hB.size)
  clear hC
  have x_a_0 := old_cell (cell_at k_a 0)
  have x_a_1 := old_cell (cell_at k_a 1)
  have x_a_2 := old_cell (cell_at k_a 2)
  have x_c_0 := old_cell (cell_at k_c 0)
  have x_c_1 := old_cell (cell_at k_c 1)
  have x_c_2 := old_cell (cell_at k_c 2)
  go_wp2_with fail
  clear x_a_0 x_a_1 x_a_2 x_c_0 x_c_1 x_c_2
  have hA : Below u14.heap.size u14 (u14.alloc (.cells #[.int .i64 (r : Int), .int .i64 (h : Int), .slice A_k p c_k] 24)) := (Below.refl _ u14).alloc (Nat.le_refl _) _
  replace hJI := hJI.later hA
  replace hJI2 := hJI2.later hA
  replace r_x := r_x.later hA
  replace k_x := keep k_x hA
  replace r_y := r_y.later hA
  replace k_y := keep k_y hA
  replace a_a := a_a.later hA
  replace k_a := keep k_a hA
  replace r_b := r_b.later hA
  replace k_b := keep k_b hA
  replace a_c := a_c.later hA
  replace k_c := keep k_c hA
  replace r_d := r_d.later hA
  replace k_d := keep k_d hA
  replace a_k := a_k.later hA
  replace hB := hB.trans (hA.mono hB.size)
  have k_k := new_at u14 (.cells #[.int .i64 (r : Int), .int .i64 (h : Int), .slice A_k p c_k] 24) _ rfl
  obtain ⟨b_k, hb⟩ : ∃ b, u14.heap.size = b := ⟨_, rfl⟩
  rw [hb] at k_k ⊢
  clear hA hb
  generalize u14.alloc (.cells #[.int .i64 (r : Int), .int .i64 (h : Int), .slice A_k p c_k] 24) = u15 at *
  clear u14
  refine (Merge_made H_hh.out _ _ c_a c_c X2 Y2 H_za.out H_zc.out _ a_a a_c).mono ?_
  rintro e u16 ⟨hC, g_p, c_p, rfl, hg, r_p⟩
  clear hg
  rw [H_m2.out] at r_p
  replace hJI := hJI.later hC
  replace hJI2 := hJI2.later hC
  replace r_x := r_x.later hC
  replace k_x := keep k_x hC
  replace r_y := r_y.later hC
  replace k_y := keep k_y hC
  replace a_a := a_a.later hC
  replace k_a := keep k_a hC
  replace r_b := r_b.later hC
  replace k_b := keep k_b hC
  replace a_c := a_c.later hC
  replace k_c := keep k_c hC
  replace r_d := r_d.later hC
  replace k_d := keep k_d hC
  replace a_k := a_k.later hC
  replace k_k := keep k_k hC
  replace hB := hB.trans (hC.mono hB.size)
  clear hC
  have x_a_0 := old_cell (cell_at k_a 0)
  have x_a_1 := old_cell (cell_at k_a 1)
  have x_a_2 := old_cell (cell_at k_a 2)
  have x_b_0 := old_cell (cell_at k_b 0)
  have x_b_1 := old_cell (cell_at k_b 1)
  have x_b_2 := old_cell (cell_at k_b 2)
  go_wp2_with fail
  clear x_a_0 x_a_1 x_a_2 x_b_0 x_b_1 x_b_2
  have hA : Below u16.heap.size u16 (u16.alloc (.cells #[.int .i64 (r : Int), .int .i64 (h : Int), .slice (some ⟨g_p, 0, none⟩) p c_p] 24)) := (Below.refl _ u16).alloc (Nat.le_refl _) _
  replace hJI := hJI.later hA
  replace hJI2 := hJI2.later hA
  replace r_x := r_x.later hA
  replace k_x := keep k_x hA
  replace r_y := r_y.later hA
  replace k_y := keep k_y hA
  replace a_a := a_a.later hA
  replace k_a := keep k_a hA
  replace r_b := r_b.later hA
  replace k_b := keep k_b hA
  replace a_c := a_c.later hA
  replace k_c := keep k_c hA
  replace r_d := r_d.later hA
  replace k_d := keep k_d hA
  replace a_k := a_k.later hA
  replace k_k := keep k_k hA
  replace r_p := r_p.later hA
  replace hB := hB.trans (hA.mono hB.size)
  have k_p := new_at u16 (.cells #[.int .i64 (r : Int), .int .i64 (h : Int), .slice (some ⟨g_p, 0, none⟩) p c_p] 24) _ rfl
  obtain ⟨b_p, hb⟩ : ∃ b, u16.heap.size = b := ⟨_, rfl⟩
  rw [hb] at k_p ⊢
  clear hA hb
  generalize u16.alloc (.cells #[.int .i64 (r : Int), .int .i64 (h : Int), .slice (some ⟨g_p, 0, none⟩) p c_p] 24) = u17 at *
  clear u16
  refine (Same_fit H_hh.out _ _ c_a c_b X2 H_za.out _ a_a (r_b.at_ r_b.lt)).mono ?_
  rintro e u18 ⟨rfl, hC⟩
  replace hJI := hJI.later hC
  replace hJI2 := hJI2.later hC
  replace r_x := r_x.later hC
  replace k_x := keep k_x hC
  replace r_y := r_y.later hC
  replace k_y := keep k_y hC
  replace a_a := a_a.later hC
  replace k_a := keep k_a hC
  replace r_b := r_b.later hC
  replace k_b := keep k_b hC
  replace a_c := a_c.later hC
  replace k_c := keep k_c hC
  replace r_d := r_d.later hC
  replace k_d := keep k_d hC
  replace a_k := a_k.later hC
  replace k_k := keep k_k hC
  replace r_p := r_p.later hC
  replace k_p := keep k_p hC
  replace hB := hB.trans (hC.mono hB.size)
  clear hC
  have x_k_0 := cell_at k_k 0
  have x_k_1 := cell_at k_k 1
  have x_k_2 := cell_at k_k 2
  have x_p_0 := cell_at k_p 0
  have x_p_1 := cell_at k_p 1
  have x_p_2 := cell_at k_p 2
  go_wp2_with fail
  clear x_k_0 x_k_1 x_k_2 x_p_0 x_p_1 x_p_2
  refine (Same_fit H_hh.out _ _ c_k c_p Z2 H_zp.out _ a_k (r_p.at_ r_p.lt)).mono ?_
  rintro e u19 ⟨rfl, hC⟩
  replace hJI := hJI.later hC
  replace hJI2 := hJI2.later hC
  replace r_x := r_x.later hC
  replace k_x := keep k_x hC
  replace r_y := r_y.later hC
  replace k_y := keep k_y hC
  replace a_a := a_a.later hC
  replace k_a := keep k_a hC
  replace r_b := r_b.later hC
  replace k_b := keep k_b hC
  replace a_c := a_c.later hC
  replace k_c := keep k_c hC
  replace r_d := r_d.later hC
  replace k_d := keep k_d hC
  replace a_k := a_k.later hC
  replace k_k := keep k_k hC
  replace r_p := r_p.later hC
  replace k_p := keep k_p hC
  replace hB := hB.trans (hC.mono hB.size)
  clear hC
  go_wp2_with fail
  go_ret
  exact ⟨rfl, hB⟩

set_option maxRecDepth 100000 in
set_option maxHeartbeats 4000000 in
theorem walk_CmsLowers0 {w : World} (rows cols : Int) (A A2 : Option Addr) (n c n2 c2 : Nat) (hlc : n ≤ c) (hlc2 : n2 ≤ c2) (hbad : ¬ ((cols = 8 ∨ cols = 16 ∨ cols = 32) ∧ 1 ≤ rows ∧ rows ≤ 4)) :
    Calls Try.prog 9 #[.int .i64 rows, .int .i64 cols, .slice A n c, .slice A2 n2 c2] w fun e w' => e = .returned (.bool true) ∧ Below w.heap.size w w' := by
  have hmi : ∃ m : Nat, (if 100 < (n : Int) then (100 : Int) else (n : Int)) = (m : Int) ∧ m ≤ c := ⟨min n 100, by split <;> omega, by omega⟩
  have hmi2 : ∃ m : Nat, (if 100 < (n2 : Int) then (100 : Int) else (n2 : Int)) = (m : Int) ∧ m ≤ c2 := ⟨min n2 100, by split <;> omega, by omega⟩
  obtain ⟨m, hm, hmc⟩ := hmi
  obtain ⟨m2, hm2, hmc2⟩ := hmi2
  have hs : ((cols != 8) = true ∧ (cols != 16) = true ∧ (cols != 32) = true) ∨ ((((cols != 8) = false) ∨ ((cols != 8) = true ∧ (cols != 16) = false) ∨ ((cols != 8) = true ∧ (cols != 16) = true ∧ (cols != 32) = false)) ∧ (rows < 1 ∨ (1 ≤ rows ∧ 4 < rows))) := by
    simp only [bne_iff_ne, bne_eq_false_iff_eq]
    omega
  clear hbad hlc hlc2
  rcases hs with ⟨h8, h16, h32⟩ | ⟨h8 | ⟨h8, h16⟩ | ⟨h8, h16, h32⟩, hr | ⟨hr, hr4⟩⟩
  all_goals
    go_enter Try.func9, Try.ntmps9
    have hB : Below w.heap.size w w := Below.refl _ w
    go_wp2_with fail
    refine (shown_any _).mono ?_
    rintro e u1 ⟨rfl, hC⟩
    replace hB := hB.trans (hC.mono hB.size)
    clear hC
    go_wp2_with fail
    go_ret
    exact ⟨rfl, hB⟩

theorem walk_CmsLowers {w : World} (rows cols : Int) (A : Option Addr) (c : Nat) (its : List (BitVec 64 × BitVec 64)) (hlc : its.length ≤ c) (hI : ItAt w w.heap.size A its) (A2 : Option Addr) (c2 : Nat) (its2 : List (BitVec 64 × BitVec 64)) (hlc2 : its2.length ≤ c2) (hI2 : ItAt w w.heap.size A2 its2) :
    Calls Try.prog 9 #[.int .i64 rows, .int .i64 cols, .slice A its.length c, .slice A2 its2.length c2] w fun e w' => e = .returned (.bool true) ∧ Below w.heap.size w w' := by
  by_cases hg : (cols = 8 ∨ cols = 16 ∨ cols = 32) ∧ 1 ≤ rows ∧ rows ≤ 4
  · obtain ⟨hc, h1, h4⟩ := hg
    obtain ⟨r, rfl⟩ := Int.eq_ofNat_of_zero_le (a := rows) (by omega)
    rcases hc with rfl | rfl | rfl
    · exact walk_CmsLowers8 (k := 8) (h := 4) rfl ⟨by omega, by omega, by omega, rfl⟩ ⟨by omega, by omega, by omega, rfl⟩ (by decide) A A2 c c2 its its2 hlc hlc2 hI hI2
    · exact walk_CmsLowers16 (k := 16) (h := 8) rfl ⟨by omega, by omega, by omega, rfl⟩ ⟨by omega, by omega, by omega, rfl⟩ (by decide) (by decide) A A2 c c2 its its2 hlc hlc2 hI hI2
    · exact walk_CmsLowers32 (k := 32) (h := 16) rfl ⟨by omega, by omega, by omega, rfl⟩ ⟨by omega, by omega, by omega, rfl⟩ (by decide) (by decide) (by decide) A A2 c c2 its its2 hlc hlc2 hI hI2
  · exact walk_CmsLowers0 rows cols A A2 its.length c its2.length c2 hlc hlc2 hg
end Go.Proofs.Ytlehjbfhhikpiaa
