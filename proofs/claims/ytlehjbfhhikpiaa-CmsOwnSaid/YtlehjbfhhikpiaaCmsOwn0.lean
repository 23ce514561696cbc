/-
  The walk of the statement on lists that are not shared.
-/
import Derived.Test.YtlehjbfhhikpiaaCmsT
namespace Go.Proofs.Ytlehjbfhhikpiaa
open Go.RowKit

theorem other_set {W : World} {g j k : Nat} {v : Value} {o : Obj} (h : W.heap[k]? = some o) (hk : k ≠ g) : (W.setCell ⟨g, j, none⟩ v).heap[k]? = some o := (Below.heap_setCell W ⟨g, j, none⟩ v k hk).trans h
theorem RowP.other {W : World} {g j b : Nat} {T : TypeId} {v : Value} {l : List (BitVec 64)} (h : RowP W b T l) (hk : b ≠ g) : RowP (W.setCell ⟨g, j, none⟩ v) b T l := h.of (Below.heap_setCell W ⟨g, j, none⟩ v b hk)
theorem count_zeros {r k q : Nat} (hf : Fit r k q) (x : BitVec 64) : U (countF r k x (zeros q)) = 0 := by
  have h := countF_le (x := x) (l := zeros q) (k := k) (i := 0) hf.pos.2.2
  rw [nth_zeros] at h
  have : (0 : BitVec 64).toNat = 0 := rfl
  unfold U
  omega

set_option maxRecDepth 100000 in
set_option maxHeartbeats 4000000 in
theorem walk_CmsOwnGood {w : World} {r k q : Nat} (hf : Fit r k q) (A : Option Addr) (c : Nat) (its : List (BitVec 64 × BitVec 64)) (hlc : its.length ≤ c) (hI : ItAt w w.heap.size A its) (x : BitVec 64) :
    Calls Try.prog 4 #[.int .i64 (r : Int), .int .i64 (k : Int), .slice A its.length c, .int .u64 (U x)] w fun e w' => e = .returned (.bool true) ∧ Below w.heap.size w w' := by
  have hI2 := hI.take 100
  have htl : (its.take 100).length = min its.length 100 := by rw [List.length_take]; omega
  obtain ⟨J, hJ⟩ : ∃ J, its.take 100 = J := ⟨_, rfl⟩
  rw [hJ] at hI2 htl
  obtain ⟨n, hn⟩ : ∃ n, its.length = n := ⟨_, rfl⟩
  rw [hn] at htl hlc ⊢
  obtain ⟨m, hm⟩ : ∃ m, min n 100 = m := ⟨_, rfl⟩
  have hmi : (if 100 < (n : Int) then (100 : Int) else (n : Int)) = (m : Int) := by split <;> omega
  have hmc : m ≤ c := by omega
  have hm100 : m ≤ 100 := by omega
  have HM := Lib.hid (htl.trans hm)
  have hI := hI2
  clear hI2 htl hJ hn hm
  have hlx := (ofZ_length r k J).trans hf.q
  obtain ⟨X, e_X⟩ : ∃ X, ofZ r k J = X := ⟨_, rfl⟩
  rw [e_X] at hlx
  obtain ⟨N, e_N⟩ : ∃ N, countF r k x X = N := ⟨_, rfl⟩
  have hzl := zeros_length q
  have hcz := count_zeros hf x
  have hq := hf.le
  have e0 : U 0#64 = 0 := by decide +kernel
  have e3 : U 3#64 = 3 := by decide +kernel
  have e5 : U 5#64 = 5 := by decide +kernel
  have H_hf := Lib.hid hf
  clear hf
  have H_hlx := Lib.hid hlx
  clear hlx
  have H_e_X := Lib.hid e_X
  clear e_X
  have H_e_N := Lib.hid e_N
  clear e_N
  have H_hzl := Lib.hid hzl
  clear hzl
  have H_hcz := Lib.hid hcz
  clear hcz
  have H_e0 := Lib.hid e0
  clear e0
  have H_e3 := Lib.hid e3
  clear e3
  have H_e5 := Lib.hid e5
  clear e5
  go_enter Try.func4, Try.ntmps4
  have hB : Below w.heap.size w w := Below.refl _ w
  go_wp2_with fail
  refine (shown_any _).mono ?_
  rintro e u1 ⟨rfl, hC⟩
  replace hI := hI.later hC
  replace hB := hB.trans (hC.mono hB.size)
  clear hC
  go_wp2_with fail
  refine (of_made H_hf.out A m c J HM.out (by omega) _ hI).mono ?_
  rintro e u2 ⟨hC, g_x, c_x, rfl, hg, r_x⟩
  have hw_x : w.heap.size ≤ g_x := Nat.le_trans hB.size hg
  clear hg
  rw [H_e_X.out] at r_x
  have lt_x := r_x.lt
  replace hI := hI.later hC
  replace hB := hB.trans (hC.mono hB.size)
  clear hC
  go_wp2_with fail
  have hA : Below u2.heap.size u2 (u2.alloc (.cells #[.int .i64 (r : Int), .int .i64 (k : Int), .slice (some ⟨g_x, 0, none⟩) q c_x] 24)) := (Below.refl _ u2).alloc (Nat.le_refl _) _
  replace hI := hI.later hA
  replace r_x := r_x.later hA
  replace hB := hB.trans (hA.mono hB.size)
  have k_x := new_at u2 (.cells #[.int .i64 (r : Int), .int .i64 (k : Int), .slice (some ⟨g_x, 0, none⟩) q c_x] 24) _ rfl
  obtain ⟨b_x, hb⟩ : ∃ b, u2.heap.size = b := ⟨_, rfl⟩
  rw [hb] at k_x ⊢
  rw [hb] at lt_x
  clear hA hb
  generalize u2.alloc (.cells #[.int .i64 (r : Int), .int .i64 (k : Int), .slice (some ⟨g_x, 0, none⟩) q c_x] 24) = u3 at *
  clear u2
  refine (Count_fit H_hf.out _ c_x X H_hlx.out x _ (r_x.at_ r_x.lt)).mono ?_
  rintro e u4 ⟨hC, rfl⟩
  rw [H_e_N.out]
  replace hI := hI.later hC
  replace r_x := r_x.later hC
  replace k_x := keep k_x hC
  replace hB := hB.trans (hC.mono hB.size)
  clear hC
  go_wp2_with fail
  refine (New_made H_hf.out _).mono ?_
  rintro e u5 ⟨hC, g_n, c_n, rfl, hg, r_n⟩
  have n_n_g_x : g_x < g_n := by have := r_x.lt; omega
  have n_n_b_x : b_x < g_n := by have := (Array.getElem?_eq_some_iff.1 k_x).1; omega
  have hw_n : w.heap.size ≤ g_n := Nat.le_trans hB.size hg
  clear hg
  have lt_n := r_n.lt
  replace hI := hI.later hC
  replace r_x := r_x.later hC
  replace k_x := keep k_x hC
  replace hB := hB.trans (hC.mono hB.size)
  clear hC
  have x_x_0 := old_cell (cell_at k_x 0)
  have x_x_1 := old_cell (cell_at k_x 1)
  have x_x_2 := old_cell (cell_at k_x 2)
  go_wp2_with fail
  clear x_x_0 x_x_1 x_x_2
  have hA : Below u5.heap.size u5 (u5.alloc (.cells #[.int .i64 (r : Int), .int .i64 (k : Int), .slice (some ⟨g_n, 0, none⟩) q c_n] 24)) := (Below.refl _ u5).alloc (Nat.le_refl _) _
  replace hI := hI.later hA
  replace r_x := r_x.later hA
  replace k_x := keep k_x hA
  replace r_n := r_n.later hA
  replace hB := hB.trans (hA.mono hB.size)
  have k_n := new_at u5 (.cells #[.int .i64 (r : Int), .int .i64 (k : Int), .slice (some ⟨g_n, 0, none⟩) q c_n] 24) _ rfl
  obtain ⟨b_n, hb⟩ : ∃ b, u5.heap.size = b := ⟨_, rfl⟩
  rw [hb] at k_n ⊢
  rw [hb] at lt_n
  clear hA hb
  generalize u5.alloc (.cells #[.int .i64 (r : Int), .int .i64 (k : Int), .slice (some ⟨g_n, 0, none⟩) q c_n] 24) = u6 at *
  clear u5
  refine (Merge_made H_hf.out _ _ c_x c_n X (zeros q) H_hlx.out H_hzl.out _ (r_x.at_ r_x.lt) (r_n.at_ r_n.lt)).mono ?_
  rintro e u7 ⟨hC, g_a, c_a, rfl, hg, r_a⟩
  have n_a_g_x : g_x < g_a := by have := r_x.lt; omega
  have n_a_b_x : b_x < g_a := by have := (Array.getElem?_eq_some_iff.1 k_x).1; omega
  have n_a_g_n : g_n < g_a := by have := r_n.lt; omega
  have n_a_b_n : b_n < g_a := by have := (Array.getElem?_eq_some_iff.1 k_n).1; omega
  have hw_a : w.heap.size ≤ g_a := Nat.le_trans hB.size hg
  clear hg
  have lt_a := r_a.lt
  replace hI := hI.later hC
  replace r_x := r_x.later hC
  replace k_x := keep k_x hC
  replace r_n := r_n.later hC
  replace k_n := keep k_n hC
  replace hB := hB.trans (hC.mono hB.size)
  clear hC
  have x_x_0 := old_cell (cell_at k_x 0)
  have x_x_1 := old_cell (cell_at k_x 1)
  have x_x_2 := old_cell (cell_at k_x 2)
  go_wp2_with fail
  clear x_x_0 x_x_1 x_x_2
  have hA : Below u7.heap.size u7 (u7.alloc (.cells #[.int .i64 (r : Int), .int .i64 (k : Int), .slice (some ⟨g_a, 0, none⟩) q c_a] 24)) := (Below.refl _ u7).alloc (Nat.le_refl _) _
  replace hI := hI.later hA
  replace r_x := r_x.later hA
  replace k_x := keep k_x hA
  replace r_n := r_n.later hA
  replace k_n := keep k_n hA
  replace r_a := r_a.later hA
  replace hB := hB.trans (hA.mono hB.size)
  have k_a := new_at u7 (.cells #[.int .i64 (r : Int), .int .i64 (k : Int), .slice (some ⟨g_a, 0, none⟩) q c_a] 24) _ rfl
  obtain ⟨b_a, hb⟩ : ∃ b, u7.heap.size = b := ⟨_, rfl⟩
  rw [hb] at k_a ⊢
  rw [hb] at lt_a
  clear hA hb
  generalize u7.alloc (.cells #[.int .i64 (r : Int), .int .i64 (k : Int), .slice (some ⟨g_a, 0, none⟩) q c_a] 24) = u8 at *
  clear u7
  rw [← H_e0.out]
  refine (Add_made H_hf.out _ c_x X H_hlx.out x 0#64 _ (r_x.at_ r_x.lt)).mono ?_
  rintro e u9 ⟨hC, g_b, c_b, rfl, hg, r_b⟩
  have n_b_g_x : g_x < g_b := by have := r_x.lt; omega
  have n_b_b_x : b_x < g_b := by have := (Array.getElem?_eq_some_iff.1 k_x).1; omega
  have n_b_g_n : g_n < g_b := by have := r_n.lt; omega
  have n_b_b_n : b_n < g_b := by have := (Array.getElem?_eq_some_iff.1 k_n).1; omega
  have n_b_g_a : g_a < g_b := by have := r_a.lt; omega
  have n_b_b_a : b_a < g_b := by have := (Array.getElem?_eq_some_iff.1 k_a).1; omega
  have hw_b : w.heap.size ≤ g_b := Nat.le_trans hB.size hg
  clear hg
  have lt_b := r_b.lt
  replace hI := hI.later hC
  replace r_x := r_x.later hC
  replace k_x := keep k_x hC
  replace r_n := r_n.later hC
  replace k_n := keep k_n hC
  replace r_a := r_a.later hC
  replace k_a := keep k_a hC
  replace hB := hB.trans (hC.mono hB.size)
  clear hC
  go_wp2_with fail
  have hA : Below u9.heap.size u9 (u9.alloc (.cells #[.int .i64 (r : Int), .int .i64 (k : Int), .slice (some ⟨g_b, 0, none⟩) q c_b] 24)) := (Below.refl _ u9).alloc (Nat.le_refl _) _
  replace hI := hI.later hA
  replace r_x := r_x.later hA
  replace k_x := keep k_x hA
  replace r_n := r_n.later hA
  replace k_n := keep k_n hA
  replace r_a := r_a.later hA
  replace k_a := keep k_a hA
  replace r_b := r_b.later hA
  replace hB := hB.trans (hA.mono hB.size)
  have k_b := new_at u9 (.cells #[.int .i64 (r : Int), .int .i64 (k : Int), .slice (some ⟨g_b, 0, none⟩) q c_b] 24) _ rfl
  obtain ⟨b_b, hb⟩ : ∃ b, u9.heap.size = b := ⟨_, rfl⟩
  rw [hb] at k_b ⊢
  rw [hb] at lt_b
  clear hA hb
  generalize u9.alloc (.cells #[.int .i64 (r : Int), .int .i64 (k : Int), .slice (some ⟨g_b, 0, none⟩) q c_b] 24) = u10 at *
  clear u9
  have la : (joinTo k (pairAt k X (zeros q)) r).length = q := (joinTo_length _ _ _).trans H_hf.out.q
  have lb : (addF r k x 0#64 X).length = q := (addF_length _ _ _ _ _).trans H_hlx.out
  obtain ⟨La, e_La⟩ : ∃ L, joinTo k (pairAt k X (zeros q)) r = L := ⟨_, rfl⟩
  obtain ⟨Lb, e_Lb⟩ : ∃ L, addF r k x 0#64 X = L := ⟨_, rfl⟩
  rw [e_La] at la r_a
  rw [e_Lb] at lb r_b
  have H_la := Lib.hid la
  have H_lb := Lib.hid lb
  clear la lb e_La e_Lb
  go_loopw [19] (fun iv wr => ∃ j : Nat, j ≤ q ∧ iv = .int .i64 j ∧ Below w.heap.size w wr ∧ wr.heap[b_x]? = some (.cells #[.int .i64 (r : Int), .int .i64 (k : Int), .slice (some ⟨g_x, 0, none⟩) q c_x] 24 (0, 0)) ∧ wr.heap[b_n]? = some (.cells #[.int .i64 (r : Int), .int .i64 (k : Int), .slice (some ⟨g_n, 0, none⟩) q c_n] 24 (0, 0)) ∧ wr.heap[b_a]? = some (.cells #[.int .i64 (r : Int), .int .i64 (k : Int), .slice (some ⟨g_a, 0, none⟩) q c_a] 24 (0, 0)) ∧ wr.heap[b_b]? = some (.cells #[.int .i64 (r : Int), .int .i64 (k : Int), .slice (some ⟨g_b, 0, none⟩) q c_b] 24 (0, 0)) ∧ RowP wr g_x 25 X ∧ RowP wr g_n 25 (zeros q) ∧ (∃ L : List (BitVec 64), L.length = q ∧ RowP wr g_a 25 L) ∧ ∃ L : List (BitVec 64), L.length = q ∧ RowP wr g_b 25 L) (fun iv _ => q - (intOf iv).toNat)
  case atStart => exact ⟨0, Nat.zero_le _, rfl, hB, k_x, k_n, k_a, k_b, r_x, r_n, ⟨_, H_la.out, r_a⟩, _, H_lb.out, r_b⟩
  case round =>
    clear hB k_x k_n k_a k_b r_x r_n r_a r_b H_la H_lb hI
    obtain ⟨j, hj, rfl, hB, k_x, k_n, k_a, k_b, r_x, r_n, ra, rb⟩ := hrel
    obtain ⟨wo, rfl⟩ : ∃ wo : World, wo = wr := ⟨_, rfl⟩
    by_cases hjq : j < q
    · obtain ⟨L, hl, rr⟩ := ra
      have hx := rr.cell (j := j) (by rw [hl]; exact hjq)
      have fr := rr.free j
      have y2 := cell_at k_a 2
      have H_l := Lib.hid hl
      clear hl
      go_wp2_with fail
      have rs := rr.set (j := j) (by rw [H_l.out]; exact hjq) 3#64
      rw [H_e3.out] at rs
      go_roundw
      case rel => exact ⟨j + 1, by omega, by go_num, hB.setCell (by show w.heap.size ≤ g_a; omega) _, (other_set k_x (by omega)), (other_set k_n (by omega)), (other_set k_a (by omega)), (other_set k_b (by omega)), r_x.other (by omega), r_n.other (by omega), ⟨L.set j 3#64, by rw [List.length_set]; exact H_l.out, rs⟩, (by obtain ⟨L2, h2, r2⟩ := rb; exact ⟨L2, h2, r2.other (by omega)⟩)⟩
      case measure => simp [intOf]; omega
    · obtain rfl : q = j := by omega
      have y2 := cell_at k_a 2
      go_wp2_with fail
      clear y2
      go_loopw [20] (fun iv wr => ∃ j : Nat, j ≤ q ∧ iv = .int .i64 j ∧ Below w.heap.size w wr ∧ wr.heap[b_x]? = some (.cells #[.int .i64 (r : Int), .int .i64 (k : Int), .slice (some ⟨g_x, 0, none⟩) q c_x] 24 (0, 0)) ∧ wr.heap[b_n]? = some (.cells #[.int .i64 (r : Int), .int .i64 (k : Int), .slice (some ⟨g_n, 0, none⟩) q c_n] 24 (0, 0)) ∧ wr.heap[b_a]? = some (.cells #[.int .i64 (r : Int), .int .i64 (k : Int), .slice (some ⟨g_a, 0, none⟩) q c_a] 24 (0, 0)) ∧ wr.heap[b_b]? = some (.cells #[.int .i64 (r : Int), .int .i64 (k : Int), .slice (some ⟨g_b, 0, none⟩) q c_b] 24 (0, 0)) ∧ RowP wr g_x 25 X ∧ RowP wr g_n 25 (zeros q) ∧ (∃ L : List (BitVec 64), L.length = q ∧ RowP wr g_a 25 L) ∧ ∃ L : List (BitVec 64), L.length = q ∧ RowP wr g_b 25 L) (fun iv _ => q - (intOf iv).toNat)
      case atStart => exact ⟨0, Nat.zero_le _, rfl, hB, k_x, k_n, k_a, k_b, r_x, r_n, ra, rb⟩
      case round =>
        clear hB k_x k_n k_a k_b r_x r_n ra rb
        obtain ⟨j, hj, rfl, hB, k_x, k_n, k_a, k_b, r_x, r_n, ra, rb⟩ := hrel
        obtain ⟨wo, rfl⟩ : ∃ wo : World, wo = wr := ⟨_, rfl⟩
        by_cases hjq : j < q
        · obtain ⟨L, hl, rr⟩ := rb
          have hx := rr.cell (j := j) (by rw [hl]; exact hjq)
          have fr := rr.free j
          have y2 := cell_at k_b 2
          have H_l := Lib.hid hl
          clear hl
          go_wp2_with fail
          have rs := rr.set (j := j) (by rw [H_l.out]; exact hjq) 5#64
          rw [H_e5.out] at rs
          go_roundw
          case rel => exact ⟨j + 1, by omega, by go_num, hB.setCell (by show w.heap.size ≤ g_b; omega) _, (other_set k_x (by omega)), (other_set k_n (by omega)), (other_set k_a (by omega)), (other_set k_b (by omega)), r_x.other (by omega), r_n.other (by omega), (by obtain ⟨L2, h2, r2⟩ := ra; exact ⟨L2, h2, r2.other (by omega)⟩), ⟨L.set j 5#64, by rw [List.length_set]; exact H_l.out, rs⟩⟩
          case measure => simp [intOf]; omega
        · obtain rfl : q = j := by omega
          have y2 := cell_at k_b 2
          have x0 := cell_at k_x 0
          have x1 := cell_at k_x 1
          have x2 := cell_at k_x 2
          go_wp2_with fail
          clear y2 x0 x1 x2
          refine (Count_fit H_hf.out _ c_x X H_hlx.out x _ (r_x.at_ r_x.lt)).mono ?_
          rintro e u11 ⟨hC, rfl⟩
          rw [H_e_N.out]
          replace k_n := keep k_n hC
          replace r_n := r_n.later hC
          replace hB := hB.trans (hC.mono hB.size)
          clear hC
          have x_n_0 := cell_at k_n 0
          have x_n_1 := cell_at k_n 1
          have x_n_2 := cell_at k_n 2
          go_wp2_with fail
          clear x_n_0 x_n_1 x_n_2
          refine (Count_fit H_hf.out _ c_n (zeros q) H_hzl.out x _ (r_n.at_ r_n.lt)).mono ?_
          rintro e u12 ⟨hC, rfl⟩
          rw [H_hcz.out]
          replace k_n := keep k_n hC
          replace r_n := r_n.later hC
          replace hB := hB.trans (hC.mono hB.size)
          clear hC
          go_wp2_with fail
          go_ret
          exact ⟨rfl, hB⟩

set_option maxRecDepth 100000 in
set_option maxHeartbeats 4000000 in
theorem walk_CmsOwnBad {w : World} (rows cols : Int) (hz : isSz rows cols = false) (A : Option Addr) (c n : Nat) (hlc : n ≤ c) (x : BitVec 64) :
    Calls Try.prog 4 #[.int .i64 rows, .int .i64 cols, .slice A n c, .int .u64 (U x)] w fun e w' => e = .returned (.bool true) ∧ Below w.heap.size w w' := by
  obtain ⟨m, hmi, hmc⟩ : ∃ m : Nat, (if 100 < (n : Int) then (100 : Int) else (n : Int)) = (m : Int) ∧ m ≤ c := ⟨min n 100, by split <;> omega, by omega⟩
  have HZ := Lib.hid hz
  clear hz
  go_enter Try.func4, Try.ntmps4
  have hB : Below w.heap.size w w := Below.refl _ w
  go_wp2_with fail
  refine (shown_any _).mono ?_
  rintro e u1 ⟨rfl, hC⟩
  replace hB := hB.trans (hC.mono hB.size)
  clear hC
  go_wp2_with fail
  refine (of_bad HZ.out A m c _).mono ?_
  rintro e u2 ⟨rfl, hC⟩
  replace hB := hB.trans (hC.mono hB.size)
  clear hC
  go_wp2_with fail
  have hA : Below u2.heap.size u2 (u2.alloc (.cells #[.int .i64 0, .int .i64 0, .slice none 0 0] 24)) := (Below.refl _ u2).alloc (Nat.le_refl _) _
  replace hB := hB.trans (hA.mono hB.size)
  have k_x := new_at u2 (.cells #[.int .i64 0, .int .i64 0, .slice none 0 0] 24) _ rfl
  obtain ⟨b_x, hb⟩ : ∃ b, u2.heap.size = b := ⟨_, rfl⟩
  rw [hb] at k_x ⊢
  clear hA hb
  generalize u2.alloc (.cells #[.int .i64 0, .int .i64 0, .slice none 0 0] 24) = u3 at *
  clear u2
  go_ret
  exact ⟨rfl, hB⟩

theorem walk_CmsOwn {w : World} (rows cols : Int) (A : Option Addr) (c : Nat) (its : List (BitVec 64 × BitVec 64)) (hlc : its.length ≤ c) (hI : ItAt w w.heap.size A its) (x : BitVec 64) :
    Calls Try.prog 4 #[.int .i64 rows, .int .i64 cols, .slice A its.length c, .int .u64 (U x)] w fun e w' => e = .returned (.bool true) ∧ Below w.heap.size w w' := by
  by_cases hz : isSz rows cols = true
  · obtain ⟨r, k, q, rfl, rfl, hf⟩ := Fit.of hz
    exact walk_CmsOwnGood hf A c its hlc hI x
  · rw [Bool.not_eq_true] at hz
    exact walk_CmsOwnBad rows cols hz A c its.length hlc x
end Go.Proofs.Ytlehjbfhhikpiaa
