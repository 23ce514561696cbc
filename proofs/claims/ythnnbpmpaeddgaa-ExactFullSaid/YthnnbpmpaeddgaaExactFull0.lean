/-
  The walk of the statement on sixty-four numbers.
-/
import Derived.Test.YthnnbpmpaeddgaaExaL
namespace Go.Proofs.Ythnnbpmpaeddgaa
open Go.RowKit Go.Shelf

theorem U_run (first : BitVec 64) (j : Nat) : IntKind.u64.wrap (U first + (j : Int)) = U (first + BitVec.ofNat 64 j) := by
  rw [IntKind.wrap_u64]
  unfold U
  rw [BitVec.toNat_add, BitVec.toNat_ofNat]
  omega
theorem U_back (first : BitVec 64) : IntKind.u64.wrap (U first - 1) = U (first - 1#64) := by
  rw [IntKind.wrap_u64]
  unfold U
  rw [BitVec.toNat_sub]
  have := first.isLt
  have e : (1#64).toNat = 1 := rfl
  rw [e]
  omega
set_option maxRecDepth 100000 in
set_option maxHeartbeats 4000000 in
theorem walk_ExactFull0 {w : World} (n : Int) (hn : n < 60 ∨ (60 ≤ n ∧ 70 < n)) (first : BitVec 64) :
    Calls Try.prog 7 #[.int .i64 n, .int .u64 (U first)] w fun e w' => e = .returned (.bool true) ∧ Below w.heap.size w w' := by
  rcases hn with hn | ⟨hn, hn2⟩
  all_goals
    go_enter Try.func7, Try.ntmps7
    have hB : Below w.heap.size w w := Below.refl _ w
    go_wp2_with fail
    refine (shown_any _).mono ?_
    rintro e u1 ⟨rfl, hC⟩
    replace hB := hB.trans (hC.mono hB.size)
    clear hC
    go_wp2_with fail
    go_ret
    exact ⟨rfl, hB⟩

set_option maxRecDepth 100000 in
set_option maxHeartbeats 4000000 in
theorem walk_ExactFull1 {w : World} (n : Nat) (h60 : 60 ≤ n) (h70 : n ≤ 70) (first : BitVec 64) :
    Calls Try.prog 7 #[.int .i64 (n : Int), .int .u64 (U first)] w fun e w' => e = .returned (.bool true) ∧ Below w.heap.size w w' := by
  have hlen := runs_len first n (by omega)
  obtain ⟨S, e_S⟩ : ∃ S, ofX (runs first n) = S := ⟨_, rfl⟩
  rw [e_S] at hlen
  have hback := U_back first
  have hruns := runs_length first n
  have HBack := Lib.hid hback
  have HRuns := Lib.hid hruns
  clear hback hruns
  have r60 : (60 : Int) ≤ (n : Int) := by omega
  have r70 : (n : Int) ≤ 70 := by omega
  have H_hlen := Lib.hid hlen
  clear hlen
  have H_e_S := Lib.hid e_S
  clear e_S
  go_enter Try.func7, Try.ntmps7
  have hB : Below w.heap.size w w := Below.refl _ w
  go_wp2_with fail
  refine (shown_any _).mono ?_
  rintro e u1 ⟨rfl, hC⟩
  replace hB := hB.trans (hC.mono hB.size)
  clear hC
  go_wp2_with fail
  go_loopw [6, 7] (fun lv iv wr => ∃ (j : Nat) (A5 : Option Addr) (c5 : Nat), j ≤ n ∧ iv = .int .i64 j ∧ lv = .slice A5 j c5 ∧ Below w.heap.size w wr ∧ OwnL wr u1.heap.size (.slice A5 j c5) (runs first j) ∧ u1.heap.size ≤ wr.heap.size) (fun _ iv _ => n - (intOf iv).toNat)
  case atStart => exact ⟨0, none, 0, Nat.zero_le _, rfl, rfl, hB, OwnL.nil _ _, Nat.le_refl _⟩
  case round =>
    obtain ⟨j, A5, c5, hj, rfl, rfl, hB2, hown, hsz⟩ := hrel
    obtain ⟨wo, rfl⟩ : ∃ wo : World, wo = wr := ⟨_, rfl⟩
    by_cases hjn : j < n
    · have hw : IntKind.u64.wrap (j : Int) = (j : Int) := by rw [IntKind.wrap_u64]; omega
      have hs := U_run first j
      have hrs := runs_succ first j
      have hrl := runs_length first j
      have hrl2 := runs_length first (j + 1)
      obtain ⟨y, hy⟩ : ∃ y, first + BitVec.ofNat 64 j = y := ⟨_, rfl⟩
      rw [hy] at hs hrs
      obtain ⟨R, hR⟩ : ∃ R, runs first j = R := ⟨_, rfl⟩
      rw [hR] at hrs hown hrl
      have hown2 : OwnL (wo.alloc (.cells #[.int .u64 (U y)] 25)) u1.heap.size (.slice A5 j c5) R := hown.of (fun k _ hk => Below.heap_alloc _ _ _ hk)
      have hnew := new_at wo (.cells #[.int .u64 (U y)] 25) _ rfl
      obtain ⟨v', W, happ, hown3, hB3⟩ := append_one (wo.alloc (.cells #[.int .u64 (U y)] 25)) u1.heap.size _ R y wo.heap.size hown2 (cell_at hnew 0) (by simp; omega) (by rw [hrl]; omega)
      rw [← hrs] at hown3
      obtain ⟨A6, c6, hv, -, -⟩ := hown3.at_
      rw [hrl2] at hv
      subst hv
      have HO := Lib.hid hown3
      have HA := Lib.hid happ
      have HB3 := Lib.hid (((Below.refl u1.heap.size wo).alloc hsz _).trans hB3)
      clear hown hown2 hown3 happ hB3 hnew hrs hrl hrl2 hR hy
      go_wp2_with (at_builtin; refine wpList_append_run rfl (.tmp 27) (.tmp 32) _ rfl rfl rfl HA.out ?_)
      go_roundw
      case rel => exact ⟨j + 1, A6, c6, by omega, by go_num, rfl, hB2.trans (HB3.out.mono hB.size), HO.out, Nat.le_trans hsz HB3.out.size⟩
      case measure => simp [intOf]; omega
    · obtain rfl : n = j := by omega
      have hAt := hown.at2
      have HAt := Lib.hid hAt
      clear hAt hown
      replace hB := hB2
      clear hB2
      have hb := HAt.out
      go_wp2_with fail
      by_cases h64 : n ≤ 64
      · have t_x : capX (ofX (runs first n)) = ⟨S, 0⟩ := by rw [H_e_S.out, capX_ok (by rw [H_hlen.out]; exact h64)]
        have t_y := full_add (first := first) (n := n) (by omega) h64
        rw [H_e_S.out] at t_y
        obtain ⟨⟨l_z, e_z⟩, t_z⟩ : ∃ t, mergeX S [first - 1#64] = t := ⟨_, rfl⟩
        have hez := full_new (first := first) (n := n) h64
        rw [H_e_S.out, t_z] at hez
        change e_z = _ at hez
        obtain ⟨N_z, z_z⟩ : ∃ N, l_z.length = N := ⟨_, rfl⟩
        have hfin : (e_z == 0) = decide ((n : Int) < 64) := by
          rw [hez]
          by_cases h : n < 64
          · rw [if_pos h]; symm; rw [decide_eq_true (by omega)]; rfl
          · rw [if_neg h]; symm; rw [decide_eq_false (by omega)]; rfl
        have hi64 : ¬ (64 : Int) < (n : Int) := by omega
        clear hez
        have H_t_x := Lib.hid t_x
        clear t_x
        have H_t_y := Lib.hid t_y
        clear t_y
        have H_t_z := Lib.hid t_z
        clear t_z
        have H_z_z := Lib.hid z_z
        clear z_z
        have H_hfin := Lib.hid hfin
        clear hfin
        refine (Of_at A5 c5 (runs first n) n H_t_x.out rfl H_hlen.out HRuns.out (by omega) _ hb).mono ?_
        rintro e u7 ⟨hC, A_x, c_x, rfl, a_x⟩
        replace hB := hB.trans (hC.mono hB.size)
        clear hC
        go_wp2_with fail
        have hA : Below u7.heap.size u7 (u7.alloc (.cells #[.slice A_x n c_x] 24)) := (Below.refl _ u7).alloc (Nat.le_refl _) _
        replace a_x := a_x.later hA
        replace hB := hB.trans (hA.mono hB.size)
        have k_x := new_at u7 (.cells #[.slice A_x n c_x] 24) _ rfl
        obtain ⟨b_x, hb⟩ : ∃ b, u7.heap.size = b := ⟨_, rfl⟩
        rw [hb] at k_x ⊢
        clear hA hb
        generalize u7.alloc (.cells #[.slice A_x n c_x] 24) = u8 at *
        clear u7
        refine (Add_at _ c_x S n first H_t_y.out rfl H_hlen.out H_hlen.out (by omega) _ a_x).mono ?_
        rintro e u9 ⟨hC, A_y, c_y, rfl, a_y⟩
        replace a_x := a_x.later hC
        replace k_x := keep k_x hC
        replace hB := hB.trans (hC.mono hB.size)
        clear hC
        have x_x_0 := old_cell (cell_at k_x 0)
        go_wp2_with fail
        clear x_x_0
        have hA : Below u9.heap.size u9 (u9.alloc (.cells #[.slice A_y n c_y] 24)) := (Below.refl _ u9).alloc (Nat.le_refl _) _
        replace a_x := a_x.later hA
        replace k_x := keep k_x hA
        replace a_y := a_y.later hA
        replace hB := hB.trans (hA.mono hB.size)
        have k_y := new_at u9 (.cells #[.slice A_y n c_y] 24) _ rfl
        obtain ⟨b_y, hb⟩ : ∃ b, u9.heap.size = b := ⟨_, rfl⟩
        rw [hb] at k_y ⊢
        clear hA hb
        generalize u9.alloc (.cells #[.slice A_y n c_y] 24) = u10 at *
        clear u9
        rw [HBack.out]
        refine (Add_at _ c_x S n (first - 1#64) H_t_z.out rfl H_z_z.out H_hlen.out (by omega) _ a_x).mono ?_
        rintro e u11 ⟨hC, A_z, c_z, rfl, a_z⟩
        replace a_x := a_x.later hC
        replace k_x := keep k_x hC
        replace a_y := a_y.later hC
        replace k_y := keep k_y hC
        replace hB := hB.trans (hC.mono hB.size)
        clear hC
        have x_x_0 := old_cell (cell_at k_x 0)
        have x_y_0 := old_cell (cell_at k_y 0)
        go_wp2_with fail
        clear x_x_0 x_y_0
        have hA : Below u11.heap.size u11 (u11.alloc (.cells #[.slice A_z N_z c_z] 24)) := (Below.refl _ u11).alloc (Nat.le_refl _) _
        replace a_x := a_x.later hA
        replace k_x := keep k_x hA
        replace a_y := a_y.later hA
        replace k_y := keep k_y hA
        replace a_z := a_z.later hA
        replace hB := hB.trans (hA.mono hB.size)
        have k_z := new_at u11 (.cells #[.slice A_z N_z c_z] 24) _ rfl
        obtain ⟨b_z, hb⟩ : ∃ b, u11.heap.size = b := ⟨_, rfl⟩
        rw [hb] at k_z ⊢
        clear hA hb
        generalize u11.alloc (.cells #[.slice A_z N_z c_z] 24) = u12 at *
        clear u11
        refine (same_self _ _ c_x c_y S n H_hlen.out (by omega) _ a_x a_y).mono ?_
        rintro e u13 ⟨rfl, hC⟩
        replace a_x := a_x.later hC
        replace k_x := keep k_x hC
        replace a_y := a_y.later hC
        replace k_y := keep k_y hC
        replace a_z := a_z.later hC
        replace k_z := keep k_z hC
        replace hB := hB.trans (hC.mono hB.size)
        clear hC
        have hfin := H_hfin.out
        go_wp2_with fail
        go_ret
        exact ⟨rfl, hB⟩
      · have t_x : capX (ofX (runs first n)) = ⟨[], 60⟩ := by rw [H_e_S.out, capX_bad (by rw [H_hlen.out]; exact h64)]
        have hi64 : (64 : Int) < (n : Int) := by omega
        have hcn : countX [] = 0 := rfl
        clear h64
        have H_t_x := Lib.hid t_x
        clear t_x
        have H_hcn := Lib.hid hcn
        clear hcn
        refine (Of_at (N := 0) A5 c5 (runs first n) n H_t_x.out rfl rfl HRuns.out (by omega) _ hb).mono ?_
        rintro e u7 ⟨hC, A_x, c_x, rfl, a_x⟩
        replace hB := hB.trans (hC.mono hB.size)
        clear hC
        go_wp2_with fail
        have hA : Below u7.heap.size u7 (u7.alloc (.cells #[.slice A_x 0 c_x] 24)) := (Below.refl _ u7).alloc (Nat.le_refl _) _
        replace a_x := a_x.later hA
        replace hB := hB.trans (hA.mono hB.size)
        have k_x := new_at u7 (.cells #[.slice A_x 0 c_x] 24) _ rfl
        obtain ⟨b_x, hb⟩ : ∃ b, u7.heap.size = b := ⟨_, rfl⟩
        rw [hb] at k_x ⊢
        clear hA hb
        generalize u7.alloc (.cells #[.slice A_x 0 c_x] 24) = u8 at *
        clear u7
        have hcc := Count_any A_x c_x [] 0 rfl (by omega) u8 a_x
        rw [H_hcn.out] at hcc
        refine (hcc).mono ?_
        rintro e u9 ⟨rfl, hC⟩
        clear hcc
        replace a_x := a_x.later hC
        replace k_x := keep k_x hC
        replace hB := hB.trans (hC.mono hB.size)
        clear hC
        go_wp2_with fail
        go_ret
        exact ⟨rfl, hB⟩

theorem walk_ExactFull (n : Int) (first : BitVec 64) (w : World) :
    Calls Try.prog 7 #[.int .i64 n, .int .u64 (U first)] w fun e w' => e = .returned (.bool true) ∧ Below w.heap.size w w' := by
  by_cases h : 60 ≤ n ∧ n ≤ 70
  · obtain ⟨k, rfl⟩ := Int.eq_ofNat_of_zero_le (a := n) (by omega)
    exact walk_ExactFull1 k (by omega) (by omega) first
  · exact walk_ExactFull0 n (by omega) first
end Go.Proofs.Ythnnbpmpaeddgaa
