/-
  How often a number came at most: the reference's.
-/
import Derived.Test.YtlehjbfhhikpiaaCmsH
namespace Go.Proofs.Ytlehjbfhhikpiaa
open Go.RowKit

set_option maxRecDepth 100000 in
set_option maxHeartbeats 4000000 in
theorem refCount_any (R C : Int) (A : Option Addr) (c : Nat) (l : List (BitVec 64)) (x : BitVec 64) (w : World) (hA : At w w.heap.size A l) : Calls Try.prog 22 #[.agg #[.int .i64 R, .int .i64 C, .slice A l.length c], .int .u64 (U x)] w fun e w' => Below w.heap.size w w' ∧
    e = .returned (.int .u64 (U (countAt R C x l))) := by
  go_enter Try.func22, Try.ntmps22
  go_wp2_with fail
  refine (refRight_any R C A l.length c _).mono ?_
  rintro e w1 ⟨rfl, hB1⟩
  have kx : w1.heap[w.heap.size]? = some (.cells #[.int .i64 R, .int .i64 C, .slice A l.length c] 24) := (hB1.block _ (by simp)).trans (new_at _ _ _ rfl)
  obtain ⟨c0, c1, c2, hBw1⟩ := box3 hB1
  have hs1 := hB1.size
  simp at hs1
  clear hB1
  by_cases hR : isRight R C l.length = true
  · have hRR := hR
    obtain ⟨r, k, rfl, rfl, hr, hr4, hk, hn⟩ := isRight_out hR
    have hlt0 : 0 < l.length := by rw [hn]; exact Nat.mul_pos (by omega) (by omega)
    obtain ⟨b, o, rfl, hb, hc⟩ := hA hlt0
    have HR := Lib.hid hRR
    have HN := Lib.hid hn
    have HK := Lib.hid hk
    have HC := Lib.hid hc
    have hcnt : countAt r k x l = (placesTo k x r).foldl (fun n i => minB n (nth l i)) 18446744073709551615#64 := by rw [countAt, hRR, if_pos rfl]; rfl
    have HCnt := Lib.hid hcnt
    rw [hRR]
    clear hR hRR hn hk hc hcnt
    go_wp2_with fail
    clear c0 c1 c2
    go_loopw [5, 6] (fun nv iv wr => ∃ j : Nat, j ≤ r ∧ iv = .int .i64 j ∧ w.heap.size + 1 ≤ wr.heap.size ∧ Below w.heap.size w wr ∧
        wr.heap[w.heap.size]? = some (.cells #[.int .i64 (r : Int), .int .i64 (k : Int), .slice (some ⟨b, o, none⟩) l.length c] 24 (0, 0)) ∧ nv = .int .u64 (U ((placesTo k x j).foldl (fun n i => minB n (nth l i)) 18446744073709551615#64))) (fun _ iv _ => r - (intOf iv).toNat)
    case atStart => exact ⟨0, Nat.zero_le _, rfl, by omega, hBw1, kx, rfl⟩
    case round =>
      obtain ⟨j, hj, rfl, hz, hB, jx, rfl⟩ := hrel
      obtain ⟨wo, rfl⟩ : ∃ wo : World, wo = wr := ⟨_, rfl⟩
      have c0 := cell_at jx 0
      have c1 := cell_at jx 1
      have c2 := cell_at jx 2
      by_cases hjr : j < r
      · have hk := HK.out
        have hkk : k ≤ 32 := by omega
        obtain ⟨cc, hc⟩ : ∃ cc, colF k j x = cc := ⟨_, rfl⟩
        have hcl : cc < k := by rw [← hc]; exact Nat.mod_lt _ (by omega)
        have hjk : j * k ≤ 128 := by rcases hk with rfl | rfl | rfl | rfl <;> omega
        obtain ⟨d, hd⟩ : ∃ d, j * k = d := ⟨_, rfl⟩
        have hm : IntKind.i64.wrap ((j : Int) * (k : Int)) = (d : Int) := by
          have e : (j : Int) * (k : Int) = (d : Int) := by rw [← hd]; simp
          rw [e, IntKind.wrap_i64]; omega
        have hd128 : d ≤ 128 := by rw [← hd]; exact hjk
        have hcolv : colAt r k l.length j x = cc := by
          unfold colAt
          rw [HR.out, decide_eq_true (show (0 : Int) ≤ (j : Int) by omega), decide_eq_true (show (j : Int) < (r : Int) by omega)]
          simp only [Bool.and_self, if_true, Int.toNat_natCast]
          exact hc
        have hcol := fun w => refCol_any (r : Int) (k : Int) (some ⟨b, o, none⟩) l.length c (j : Int) x w
        rw [hcolv] at hcol
        have hin : d + cc < l.length := by
          rw [HN.out]
          have h1 : (j + 1) * k ≤ r * k := Nat.mul_le_mul_right _ hjr
          rw [Nat.add_mul, Nat.one_mul, hd] at h1
          omega
        have hplace : placesTo k x (j + 1) = placesTo k x j ++ [d + cc] := by rw [placesTo_succ, hc, hd]
        obtain ⟨L, hL⟩ : ∃ L, (placesTo k x j).foldl (fun n i => minB n (nth l i)) 18446744073709551615#64 = L := ⟨_, rfl⟩
        have hnext : (placesTo k x (j + 1)).foldl (fun n i => minB n (nth l i)) 18446744073709551615#64 = minB L (nth l (d + cc)) := by rw [hplace, List.foldl_append, hL]; rfl
        rw [hL]
        have HNX := Lib.hid hnext
        have HCol := Lib.hid hcol
        have q0 : w.heap.size < wo.heap.size := by omega
        have hmin := U_min L (nth l (d + cc))
        have ci := (hB.cell (p := ⟨b, o + (d + cc), none⟩) hb).trans (HC.out (d + cc) hin)
        have qb : b < wo.heap.size := by omega
        clear hc hcolv hcol hplace hL hnext hd hk
        go_wp2_with fail
        refine wp_region_later wo.heap.size (by kernel_rfl) (by kernel_rfl) ?_
        have l0 : ∀ s : Later wo.heap.size wo, s.W.cell? ⟨w.heap.size, 0, none⟩ = some _ := fun s => s.cell c0 q0
        have l1 : ∀ s : Later wo.heap.size wo, s.W.cell? ⟨w.heap.size, 1, none⟩ = some _ := fun s => s.cell c1 q0
        have l2 : ∀ s : Later wo.heap.size wo, s.W.cell? ⟨w.heap.size, 2, none⟩ = some _ := fun s => s.cell c2 q0
        have l3 : ∀ s : Later wo.heap.size wo, s.W.cell? ⟨b, o + (d + cc), none⟩ = some _ := fun s => s.cell ci qb
        clear c0 c1 c2 ci
        repeat (go_big_quiet_step ((go_at_call 20; exact Calls.later (Nat.le_refl _) (HCol.out _))))
        refine wpQuiet_nil ?_
        rintro _ ⟨u, rfl⟩
        clear l0 l1 l2 l3
        have hub := u.below
        have ux := (hub.block _ q0).trans jx
        have hus := hub.size
        go_wp2_with fail
        go_roundw
        case rel => exact ⟨j + 1, by omega, by go_num, by omega, hB.trans (hub.mono (by omega)), ux, by rw [HNX.out]⟩
        case measure => simp [intOf]; omega
      · obtain rfl : j = r := by omega
        go_wp2_with fail
        go_ret
        exact ⟨hB, by rw [HCnt.out]; rfl⟩
  · rw [Bool.not_eq_true] at hR
    rw [hR]
    have HC : Hid (countAt R C x l = 0#64) := Lib.hid (by rw [countAt, hR, if_neg Bool.false_ne_true]; rfl)
    clear hR
    go_wp2_with fail
    go_ret
    exact ⟨hBw1, by rw [HC.out]; rfl⟩
end Go.Proofs.Ytlehjbfhhikpiaa
