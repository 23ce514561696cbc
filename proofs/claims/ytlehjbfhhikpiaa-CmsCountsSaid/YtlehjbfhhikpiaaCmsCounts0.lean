/-
  The walk of the statement on counts.
-/
import Derived.Test.YtlehjbfhhikpiaaCmsT
namespace Go.Proofs.Ytlehjbfhhikpiaa
open Go.RowKit

set_option maxRecDepth 100000 in
set_option maxHeartbeats 4000000 in
theorem walk_CmsLeast {w : World} {r k q : Nat} (hf : Fit r k q) (hk : k = 4) (A : Option Addr) (c : Nat) (its : List (BitVec 64 × BitVec 64)) (hlc : its.length ≤ c) (hI : ItAt w w.heap.size A its) (x : BitVec 64) :
    Calls Try.prog 5 #[.int .i64 (r : Int), .int .i64 (k : Int), .slice A its.length c, .int .u64 (U x)] w fun e w' => e = .returned (.bool true) ∧ Below w.heap.size w w' := by
  have hI2 := hI.take 100
  have htl : (its.take 100).length = min its.length 100 := by rw [List.length_take]; omega
  obtain ⟨J, hJ⟩ : ∃ J, its.take 100 = J := ⟨_, rfl⟩
  rw [hJ] at hI2 htl
  obtain ⟨n, hn⟩ : ∃ n, its.length = n := ⟨_, rfl⟩
  rw [hn] at htl hlc ⊢
  obtain ⟨m, hm⟩ : ∃ m, min n 100 = m := ⟨_, rfl⟩
  have hmi : (if 100 < (n : Int) then (100 : Int) else (n : Int)) = (m : Int) := by split <;> omega
  have hmc : m ≤ c := by omega
  have hm100 : m ≤ 100 := by omega
  have HM := Lib.hid (htl.trans hm)
  have hI := hI2
  clear hI2 htl hJ hn hm
  have hlx := (ofZ_length r k J).trans hf.q
  have n1 : decide (U (ownF x J) ≤ U (countF r k x (ofZ r k J))) = true := U_ge (by rw [ownF_toNat]; exact own_le r k x hf.pos.1 J)
  have n2 : decide (U (countF r k x (ofZ r k J)) ≤ U (allF J)) = true := U_ge (by rw [allF_toNat]; exact le_all r k hf.pos.2.2 hf.pos.1 x J)
  obtain ⟨X, e_X⟩ : ∃ X, ofZ r k J = X := ⟨_, rfl⟩
  rw [e_X] at hlx n1 n2
  obtain ⟨N, e_N⟩ : ∃ N, countF r k x X = N := ⟨_, rfl⟩
  rw [e_N] at n1 n2
  have H_hf := Lib.hid hf
  clear hf
  have H_hlx := Lib.hid hlx
  clear hlx
  have H_e_X := Lib.hid e_X
  clear e_X
  have H_e_N := Lib.hid e_N
  clear e_N
  subst hk
  have hJl := HM.out
  have HT : Hid (J.take m = J) := Lib.hid (List.take_of_length_le (by rw [hJl]; exact Nat.le_refl _))
  clear hJl
  have N1 := Lib.hid n1
  have N2 := Lib.hid n2
  clear n1 n2
  go_enter Try.func5, Try.ntmps5
  have hB : Below w.heap.size w w := Below.refl _ w
  go_wp2_with fail
  refine (shown_any _).mono ?_
  rintro e u1 ⟨rfl, hC⟩
  replace hI := hI.later hC
  replace hB := hB.trans (hC.mono hB.size)
  clear hC
  go_wp2_with fail
  refine (of_made H_hf.out A m c J HM.out (by omega) _ hI).mono ?_
  rintro e u2 ⟨hC, g_x, c_x, rfl, hg, r_x⟩
  clear hg
  rw [H_e_X.out] at r_x
  replace hI := hI.later hC
  replace hB := hB.trans (hC.mono hB.size)
  clear hC
  go_wp2_with fail
  have hA : Below u2.heap.size u2 (u2.alloc (.cells #[.int .i64 (r : Int), .int .i64 4, .slice (some ⟨g_x, 0, none⟩) q c_x] 24)) := (Below.refl _ u2).alloc (Nat.le_refl _) _
  replace hI := hI.later hA
  replace r_x := r_x.later hA
  replace hB := hB.trans (hA.mono hB.size)
  have k_x := new_at u2 (.cells #[.int .i64 (r : Int), .int .i64 4, .slice (some ⟨g_x, 0, none⟩) q c_x] 24) _ rfl
  obtain ⟨b_x, hb⟩ : ∃ b, u2.heap.size = b := ⟨_, rfl⟩
  rw [hb] at k_x ⊢
  clear hA hb
  generalize u2.alloc (.cells #[.int .i64 (r : Int), .int .i64 4, .slice (some ⟨g_x, 0, none⟩) q c_x] 24) = u3 at *
  clear u2
  go_loop [12, 13, 14] (fun ov av iv => ∃ j : Nat, j ≤ m ∧ iv = .int .i64 j ∧ ov = .int .u64 (U (ownF x (J.take j))) ∧ av = .int .u64 (U (allF (J.take j)))) (fun _ _ iv => m - (intOf iv).toNat)
  case atStart => exact ⟨0, Nat.zero_le _, rfl, rfl, rfl⟩
  case round =>
    obtain ⟨j, hj, rfl, rfl, rfl⟩ := hrel
    by_cases hjm : j < m
    · obtain ⟨b, o, rfl, hb, hc⟩ := hI (by rw [HM.out]; omega)
      obtain ⟨y0, y1⟩ := hc j (by rw [HM.out]; exact hjm)
      have s1 := ownF_snoc x J j (by rw [HM.out]; exact hjm)
      have s2 := allF_snoc J j (by rw [HM.out]; exact hjm)
      have S2 := Lib.hid s2
      clear hc s2
      by_cases hx : (nthI J j).1 == x
      · have hd : (U (nthI J j).1 == U x) = true := by
          rw [beq_iff_eq] at hx ⊢
          rw [hx]
        rw [if_pos hx] at s1
        have S1 := Lib.hid s1
        clear s1 hx
        go_wp2_with (go_at_call 25; refine (refPlus_any _ _ _).mono ?_; rintro e w9 ⟨rfl, rfl⟩)
        go_round
        case rel => exact ⟨j + 1, by omega, by go_num, by rw [S1.out], by rw [S2.out]⟩
        case measure => simp [intOf]; omega
      · have hd : (U (nthI J j).1 == U x) = false := by
          rw [beq_eq_false_iff_ne]
          exact fun e => hx (by rw [beq_iff_eq]; exact U_inj e)
        rw [if_neg hx] at s1
        have S1 := Lib.hid s1
        clear s1 hx
        go_wp2_with (go_at_call 25; refine (refPlus_any _ _ _).mono ?_; rintro e w9 ⟨rfl, rfl⟩)
        go_round
        case rel => exact ⟨j + 1, by omega, by go_num, by rw [S1.out], by rw [S2.out]⟩
        case measure => simp [intOf]; omega
    · obtain rfl : j = m := by omega
      rw [HT.out]
      have x_x_0 := cell_at k_x 0
      have x_x_1 := cell_at k_x 1
      have x_x_2 := cell_at k_x 2
      go_wp2_with fail
      clear x_x_0 x_x_1 x_x_2
      refine (Count_fit H_hf.out _ c_x X H_hlx.out x _ (r_x.at_ r_x.lt)).mono ?_
      rintro e u4 ⟨hC, rfl⟩
      rw [H_e_N.out]
      replace hI := hI.later hC
      replace r_x := r_x.later hC
      replace k_x := keep k_x hC
      replace hB := hB.trans (hC.mono hB.size)
      clear hC
      have x_x_0 := cell_at k_x 0
      have x_x_1 := cell_at k_x 1
      have x_x_2 := cell_at k_x 2
      go_wp2_with fail
      clear x_x_0 x_x_1 x_x_2
      refine (Lower_least4 _ c_x X H_hlx.out _ (r_x.at_ r_x.lt)).mono ?_
      rintro e u5 ⟨hC, A_y, c_y, rfl⟩
      replace hI := hI.later hC
      replace r_x := r_x.later hC
      replace k_x := keep k_x hC
      replace hB := hB.trans (hC.mono hB.size)
      clear hC
      go_wp2_with fail
      have hA : Below u5.heap.size u5 (u5.alloc (.cells #[.int .i64 0, .int .i64 0, .slice A_y 0 c_y] 24)) := (Below.refl _ u5).alloc (Nat.le_refl _) _
      replace hI := hI.later hA
      replace r_x := r_x.later hA
      replace k_x := keep k_x hA
      replace hB := hB.trans (hA.mono hB.size)
      have k_y := new_at u5 (.cells #[.int .i64 0, .int .i64 0, .slice A_y 0 c_y] 24) _ rfl
      obtain ⟨b_y, hb⟩ : ∃ b, u5.heap.size = b := ⟨_, rfl⟩
      rw [hb] at k_y ⊢
      clear hA hb
      generalize u5.alloc (.cells #[.int .i64 0, .int .i64 0, .slice A_y 0 c_y] 24) = u6 at *
      clear u5
      refine (Count_none A_y c_y x _).mono ?_
      rintro e u7 ⟨hC, rfl⟩
      replace hI := hI.later hC
      replace r_x := r_x.later hC
      replace k_x := keep k_x hC
      replace k_y := keep k_y hC
      replace hB := hB.trans (hC.mono hB.size)
      clear hC
      have n1 := N1.out
      have n2 := N2.out
      go_wp2_with fail
      go_ret
      exact ⟨rfl, hB⟩

set_option maxRecDepth 100000 in
set_option maxHeartbeats 4000000 in
theorem walk_CmsHalf {w : World} {r k q : Nat} (hf : Fit r k q) {h p : Nat} (hk : k = 2 * h) (hh : Fit r h p) (A : Option Addr) (c : Nat) (its : List (BitVec 64 × BitVec 64)) (hlc : its.length ≤ c) (hI : ItAt w w.heap.size A its) (x : BitVec 64) :
    Calls Try.prog 5 #[.int .i64 (r : Int), .int .i64 (k : Int), .slice A its.length c, .int .u64 (U x)] w fun e w' => e = .returned (.bool true) ∧ Below w.heap.size w w' := by
  have hI2 := hI.take 100
  have htl : (its.take 100).length = min its.length 100 := by rw [List.length_take]; omega
  obtain ⟨J, hJ⟩ : ∃ J, its.take 100 = J := ⟨_, rfl⟩
  rw [hJ] at hI2 htl
  obtain ⟨n, hn⟩ : ∃ n, its.length = n := ⟨_, rfl⟩
  rw [hn] at htl hlc ⊢
  obtain ⟨m, hm⟩ : ∃ m, min n 100 = m := ⟨_, rfl⟩
  have hmi : (if 100 < (n : Int) then (100 : Int) else (n : Int)) = (m : Int) := by split <;> omega
  have hmc : m ≤ c := by omega
  have hm100 : m ≤ 100 := by omega
  have HM := Lib.hid (htl.trans hm)
  have hI := hI2
  clear hI2 htl hJ hn hm
  have hlx := (ofZ_length r k J).trans hf.q
  have n1 : decide (U (ownF x J) ≤ U (countF r k x (ofZ r k J))) = true := U_ge (by rw [ownF_toNat]; exact own_le r k x hf.pos.1 J)
  have n2 : decide (U (countF r k x (ofZ r k J)) ≤ U (allF J)) = true := U_ge (by rw [allF_toNat]; exact le_all r k hf.pos.2.2 hf.pos.1 x J)
  have l1 : joinTo h (lowPair k (ofZ r k J)) r = ofZ r h J := by subst hk; exact lower_ofZ r h hh.pos.1 J
  have hly := (ofZ_length r h J).trans hh.q
  have n3 : decide (U (countF r k x (ofZ r k J)) ≤ U (countF r h x (ofZ r h J))) = true := U_ge (by subst hk; exact le_lower r h hh.pos.1 x J)
  have n4 : decide (U (countF r h x (ofZ r h J)) ≤ U (allF J)) = true := U_ge (by rw [allF_toNat]; exact le_all r h hh.pos.2.2 hh.pos.1 x J)
  obtain ⟨Y, e_Y⟩ : ∃ X, ofZ r h J = X := ⟨_, rfl⟩
  rw [e_Y] at l1 hly n3 n4
  obtain ⟨M, e_M⟩ : ∃ M, countF r h x Y = M := ⟨_, rfl⟩
  rw [e_M] at n3 n4
  obtain ⟨X, e_X⟩ : ∃ X, ofZ r k J = X := ⟨_, rfl⟩
  rw [e_X] at hlx n1 n2 n3 l1
  obtain ⟨N, e_N⟩ : ∃ N, countF r k x X = N := ⟨_, rfl⟩
  rw [e_N] at n1 n2 n3
  have H_hf := Lib.hid hf
  clear hf
  have H_hlx := Lib.hid hlx
  clear hlx
  have H_e_X := Lib.hid e_X
  clear e_X
  have H_e_N := Lib.hid e_N
  clear e_N
  have H_hk := Lib.hid hk
  clear hk
  have H_hh := Lib.hid hh
  clear hh
  have H_l1 := Lib.hid l1
  clear l1
  have H_hly := Lib.hid hly
  clear hly
  have H_e_M := Lib.hid e_M
  clear e_M
  clear e_Y
  have hJl := HM.out
  have HT : Hid (J.take m = J) := Lib.hid (List.take_of_length_le (by rw [hJl]; exact Nat.le_refl _))
  clear hJl
  have N1 := Lib.hid n1
  have N2 := Lib.hid n2
  clear n1 n2
  have N3 := Lib.hid n3
  have N4 := Lib.hid n4
  clear n3 n4
  go_enter Try.func5, Try.ntmps5
  have hB : Below w.heap.size w w := Below.refl _ w
  go_wp2_with fail
  refine (shown_any _).mono ?_
  rintro e u1 ⟨rfl, hC⟩
  replace hI := hI.later hC
  replace hB := hB.trans (hC.mono hB.size)
  clear hC
  go_wp2_with fail
  refine (of_made H_hf.out A m c J HM.out (by omega) _ hI).mono ?_
  rintro e u2 ⟨hC, g_x, c_x, rfl, hg, r_x⟩
  clear hg
  rw [H_e_X.out] at r_x
  replace hI := hI.later hC
  replace hB := hB.trans (hC.mono hB.size)
  clear hC
  go_wp2_with fail
  have hA : Below u2.heap.size u2 (u2.alloc (.cells #[.int .i64 (r : Int), .int .i64 (k : Int), .slice (some ⟨g_x, 0, none⟩) q c_x] 24)) := (Below.refl _ u2).alloc (Nat.le_refl _) _
  replace hI := hI.later hA
  replace r_x := r_x.later hA
  replace hB := hB.trans (hA.mono hB.size)
  have k_x := new_at u2 (.cells #[.int .i64 (r : Int), .int .i64 (k : Int), .slice (some ⟨g_x, 0, none⟩) q c_x] 24) _ rfl
  obtain ⟨b_x, hb⟩ : ∃ b, u2.heap.size = b := ⟨_, rfl⟩
  rw [hb] at k_x ⊢
  clear hA hb
  generalize u2.alloc (.cells #[.int .i64 (r : Int), .int .i64 (k : Int), .slice (some ⟨g_x, 0, none⟩) q c_x] 24) = u3 at *
  clear u2
  go_loop [12, 13, 14] (fun ov av iv => ∃ j : Nat, j ≤ m ∧ iv = .int .i64 j ∧ ov = .int .u64 (U (ownF x (J.take j))) ∧ av = .int .u64 (U (allF (J.take j)))) (fun _ _ iv => m - (intOf iv).toNat)
  case atStart => exact ⟨0, Nat.zero_le _, rfl, rfl, rfl⟩
  case round =>
    obtain ⟨j, hj, rfl, rfl, rfl⟩ := hrel
    by_cases hjm : j < m
    · obtain ⟨b, o, rfl, hb, hc⟩ := hI (by rw [HM.out]; omega)
      obtain ⟨y0, y1⟩ := hc j (by rw [HM.out]; exact hjm)
      have s1 := ownF_snoc x J j (by rw [HM.out]; exact hjm)
      have s2 := allF_snoc J j (by rw [HM.out]; exact hjm)
      have S2 := Lib.hid s2
      clear hc s2
      by_cases hx : (nthI J j).1 == x
      · have hd : (U (nthI J j).1 == U x) = true := by
          rw [beq_iff_eq] at hx ⊢
          rw [hx]
        rw [if_pos hx] at s1
        have S1 := Lib.hid s1
        clear s1 hx
        go_wp2_with (go_at_call 25; refine (refPlus_any _ _ _).mono ?_; rintro e w9 ⟨rfl, rfl⟩)
        go_round
        case rel => exact ⟨j + 1, by omega, by go_num, by rw [S1.out], by rw [S2.out]⟩
        case measure => simp [intOf]; omega
      · have hd : (U (nthI J j).1 == U x) = false := by
          rw [beq_eq_false_iff_ne]
          exact fun e => hx (by rw [beq_iff_eq]; exact U_inj e)
        rw [if_neg hx] at s1
        have S1 := Lib.hid s1
        clear s1 hx
        go_wp2_with (go_at_call 25; refine (refPlus_any _ _ _).mono ?_; rintro e w9 ⟨rfl, rfl⟩)
        go_round
        case rel => exact ⟨j + 1, by omega, by go_num, by rw [S1.out], by rw [S2.out]⟩
        case measure => simp [intOf]; omega
    · obtain rfl : j = m := by omega
      rw [HT.out]
      have x_x_0 := cell_at k_x 0
      have x_x_1 := cell_at k_x 1
      have x_x_2 := cell_at k_x 2
      go_wp2_with fail
      clear x_x_0 x_x_1 x_x_2
      refine (Count_fit H_hf.out _ c_x X H_hlx.out x _ (r_x.at_ r_x.lt)).mono ?_
      rintro e u4 ⟨hC, rfl⟩
      rw [H_e_N.out]
      replace hI := hI.later hC
      replace r_x := r_x.later hC
      replace k_x := keep k_x hC
      replace hB := hB.trans (hC.mono hB.size)
      clear hC
      have x_x_0 := cell_at k_x 0
      have x_x_1 := cell_at k_x 1
      have x_x_2 := cell_at k_x 2
      go_wp2_with fail
      clear x_x_0 x_x_1 x_x_2
      refine (Lower_made H_hk.out H_hf.out H_hh.out _ c_x X H_hlx.out _ (r_x.at_ r_x.lt)).mono ?_
      rintro e u5 ⟨hC, A_y, c_y, rfl, a_y⟩
      rw [H_l1.out] at a_y
      replace hI := hI.later hC
      replace r_x := r_x.later hC
      replace k_x := keep k_x hC
      replace hB := hB.trans (hC.mono hB.size)
      clear hC
      go_wp2_with fail
      have hA : Below u5.heap.size u5 (u5.alloc (.cells #[.int .i64 (r : Int), .int .i64 (h : Int), .slice A_y p c_y] 24)) := (Below.refl _ u5).alloc (Nat.le_refl _) _
      replace hI := hI.later hA
      replace r_x := r_x.later hA
      replace k_x := keep k_x hA
      replace a_y := a_y.later hA
      replace hB := hB.trans (hA.mono hB.size)
      have k_y := new_at u5 (.cells #[.int .i64 (r : Int), .int .i64 (h : Int), .slice A_y p c_y] 24) _ rfl
      obtain ⟨b_y, hb⟩ : ∃ b, u5.heap.size = b := ⟨_, rfl⟩
      rw [hb] at k_y ⊢
      clear hA hb
      generalize u5.alloc (.cells #[.int .i64 (r : Int), .int .i64 (h : Int), .slice A_y p c_y] 24) = u6 at *
      clear u5
      refine (Count_fit H_hh.out _ c_y Y H_hly.out x _ a_y).mono ?_
      rintro e u7 ⟨hC, rfl⟩
      rw [H_e_M.out]
      replace hI := hI.later hC
      replace r_x := r_x.later hC
      replace k_x := keep k_x hC
      replace a_y := a_y.later hC
      replace k_y := keep k_y hC
      replace hB := hB.trans (hC.mono hB.size)
      clear hC
      have n1 := N1.out
      have n2 := N2.out
      have n3 := N3.out
      have n4 := N4.out
      go_wp2_with fail
      go_ret
      exact ⟨rfl, hB⟩

set_option maxRecDepth 100000 in
set_option maxHeartbeats 4000000 in
theorem walk_CmsCountsBad {w : World} (rows cols : Int) (hz : isSz rows cols = false) (A : Option Addr) (c n : Nat) (hlc : n ≤ c) (x : BitVec 64) :
    Calls Try.prog 5 #[.int .i64 rows, .int .i64 cols, .slice A n c, .int .u64 (U x)] w fun e w' => e = .returned (.bool true) ∧ Below w.heap.size w w' := by
  obtain ⟨m, hmi, hmc⟩ : ∃ m : Nat, (if 100 < (n : Int) then (100 : Int) else (n : Int)) = (m : Int) ∧ m ≤ c := ⟨min n 100, by split <;> omega, by omega⟩
  have HZ := Lib.hid hz
  clear hz
  go_enter Try.func5, Try.ntmps5
  have hB : Below w.heap.size w w := Below.refl _ w
  go_wp2_with fail
  refine (shown_any _).mono ?_
  rintro e u1 ⟨rfl, hC⟩
  replace hB := hB.trans (hC.mono hB.size)
  clear hC
  go_wp2_with fail
  refine (of_bad HZ.out A m c _).mono ?_
  rintro e u2 ⟨rfl, hC⟩
  replace hB := hB.trans (hC.mono hB.size)
  clear hC
  go_wp2_with fail
  have hA : Below u2.heap.size u2 (u2.alloc (.cells #[.int .i64 0, .int .i64 0, .slice none 0 0] 24)) := (Below.refl _ u2).alloc (Nat.le_refl _) _
  replace hB := hB.trans (hA.mono hB.size)
  have k_x := new_at u2 (.cells #[.int .i64 0, .int .i64 0, .slice none 0 0] 24) _ rfl
  obtain ⟨b_x, hb⟩ : ∃ b, u2.heap.size = b := ⟨_, rfl⟩
  rw [hb] at k_x ⊢
  clear hA hb
  generalize u2.alloc (.cells #[.int .i64 0, .int .i64 0, .slice none 0 0] 24) = u3 at *
  clear u2
  go_ret
  exact ⟨rfl, hB⟩

theorem walk_CmsCounts {w : World} (rows cols : Int) (A : Option Addr) (c : Nat) (its : List (BitVec 64 × BitVec 64)) (hlc : its.length ≤ c) (hI : ItAt w w.heap.size A its) (x : BitVec 64) :
    Calls Try.prog 5 #[.int .i64 rows, .int .i64 cols, .slice A its.length c, .int .u64 (U x)] w fun e w' => e = .returned (.bool true) ∧ Below w.heap.size w w' := by
  by_cases hz : isSz rows cols = true
  · obtain ⟨r, k, q, rfl, rfl, hf⟩ := Fit.of hz
    rcases hf.2.2.1 with hk | hk | hk | hk
    · exact walk_CmsLeast hf hk A c its hlc hI x
    · exact walk_CmsHalf hf (h := 4) hk ⟨hf.1, hf.2.1, by omega, rfl⟩ A c its hlc hI x
    · exact walk_CmsHalf hf (h := 8) hk ⟨hf.1, hf.2.1, by omega, rfl⟩ A c its hlc hI x
    · exact walk_CmsHalf hf (h := 16) hk ⟨hf.1, hf.2.1, by omega, rfl⟩ A c its hlc hI x
  · rw [Bool.not_eq_true] at hz
    exact walk_CmsCountsBad rows cols hz A c its.length hlc x
end Go.Proofs.Ytlehjbfhhikpiaa
