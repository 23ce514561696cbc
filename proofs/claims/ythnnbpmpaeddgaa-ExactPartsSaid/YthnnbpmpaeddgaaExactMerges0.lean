/-
  The walk of the statement on what is added and merged.
-/
import Derived.Test.YthnnbpmpaeddgaaExaS
namespace Go.Proofs.Ythnnbpmpaeddgaa
open Go.RowKit Go.Shelf

theorem capX_le (l : L64) : (capX l).l.length ≤ 64 := by unfold capX; split <;> simp; assumption
theorem mergeX_le (l m : L64) : (mergeX l m).l.length ≤ 64 := by
  unfold mergeX pickX
  split
  · exact capX_le _
  · simp

set_option maxRecDepth 100000 in
set_option maxHeartbeats 4000000 in
theorem walk_ExactMerges {w : World} (A : Option Addr) (c : Nat) (L : L64) (hlc : L.length ≤ c) (hA : At w w.heap.size A L) (A2 : Option Addr) (c2 : Nat) (L2 : L64) (hlc2 : L2.length ≤ c2) (hA2 : At w w.heap.size A2 L2) (x : BitVec 64) :
    Calls Try.prog 3 #[.agg #[.slice A L.length c], .agg #[.slice A2 L2.length c2], .int .u64 (U x)] w fun e w' => e = .returned (.bool true) ∧ Below w.heap.size w w' := by
  have hIx := hA.take 70
  have htl : (L.take 70).length = min L.length 70 := by rw [List.length_take]; omega
  obtain ⟨Xx, hJ⟩ : ∃ J, L.take 70 = J := ⟨_, rfl⟩
  rw [hJ] at hIx htl
  obtain ⟨nx, hn⟩ : ∃ n, L.length = n := ⟨_, rfl⟩
  rw [hn] at htl hlc ⊢
  obtain ⟨mx, hm⟩ : ∃ m, min nx 70 = m := ⟨_, rfl⟩
  have hlex : mx ≤ 70 := by omega
  have HMinx := Lib.hid hm
  have HMx := Lib.hid (htl.trans hm)
  clear htl hJ hn
  clear hm hA
  have hIy := hA2.take 70
  have htl : (L2.take 70).length = min L2.length 70 := by rw [List.length_take]; omega
  obtain ⟨Xy, hJ⟩ : ∃ J, L2.take 70 = J := ⟨_, rfl⟩
  rw [hJ] at hIy htl
  obtain ⟨ny, hn⟩ : ∃ n, L2.length = n := ⟨_, rfl⟩
  rw [hn] at htl hlc2 ⊢
  obtain ⟨my, hm⟩ : ∃ m, min ny 70 = m := ⟨_, rfl⟩
  have hley : my ≤ 70 := by omega
  have HMiny := Lib.hid hm
  have HMy := Lib.hid (htl.trans hm)
  clear htl hJ hn
  clear hm hA2
  obtain ⟨⟨l_a, e_a⟩, ht_a⟩ : ∃ t, mergeX Xx [x] = t := ⟨_, rfl⟩
  obtain ⟨N_a, hN_a⟩ : ∃ N, l_a.length = N := ⟨_, rfl⟩
  have hb_a : N_a ≤ 64 := by have h := mergeX_le Xx [x]; rw [ht_a] at h; rw [← hN_a]; exact h
  have H_ht_a := Lib.hid ht_a
  clear ht_a
  have H_hN_a := Lib.hid hN_a
  clear hN_a
  obtain ⟨⟨l_c, e_c⟩, ht_c⟩ : ∃ t, mergeX Xx Xy = t := ⟨_, rfl⟩
  obtain ⟨N_c, hN_c⟩ : ∃ N, l_c.length = N := ⟨_, rfl⟩
  have hb_c : N_c ≤ 64 := by have h := mergeX_le Xx Xy; rw [ht_c] at h; rw [← hN_c]; exact h
  have H_ht_c := Lib.hid ht_c
  clear ht_c
  have H_hN_c := Lib.hid hN_c
  clear hN_c
  go_enter Try.func3, Try.ntmps3
  have hB : Below w.heap.size w w := Below.refl _ w
  go_wp2_with fail
  have hA : Below w.heap.size w ((w.alloc (.cells #[.slice A nx c] 24)).alloc (.cells #[.slice A2 ny c2] 24)) := ((Below.refl _ w).alloc (Nat.le_refl _) _).alloc (by simp) _
  have hq0 := hB.size
  replace hB := hB.trans (hA.mono hB.size)
  have k_x : ((w.alloc (.cells #[.slice A nx c] 24)).alloc (.cells #[.slice A2 ny c2] 24)).heap[w.heap.size]? = some (.cells #[.slice A nx c] 24 (0, 0)) := old_at (new_at _ _ _ rfl)
  have k_y : ((w.alloc (.cells #[.slice A nx c] 24)).alloc (.cells #[.slice A2 ny c2] 24)).heap[w.heap.size + 1]? = some (.cells #[.slice A2 ny c2] 24 (0, 0)) := new_at _ _ _ (by simp)
  obtain ⟨b_y, hb1⟩ : ∃ b, w.heap.size + 1 = b := ⟨_, rfl⟩
  have q_y : w.heap.size ≤ b_y := by omega
  rw [hb1] at k_y ⊢
  obtain ⟨b_x, hb0⟩ : ∃ b, w.heap.size = b := ⟨_, rfl⟩
  have q_x : w.heap.size ≤ b_x := by omega
  rw [hb0] at k_x ⊢
  have lt_x_y : b_x < b_y := by omega
  clear hA hq0 hb0 hb1
  generalize ((w.alloc (.cells #[.slice A nx c] 24)).alloc (.cells #[.slice A2 ny c2] 24)) = u1 at *
  refine (shown_any _).mono ?_
  rintro e u2 ⟨rfl, hC⟩
  replace k_x := keep k_x hC
  replace k_y := keep k_y hC
  replace hB := hB.trans (hC.mono hB.size)
  clear hC
  have x_x_0 := cell_at k_x 0
  go_wp2_with fail
  clear x_x_0
  refine (Few_any A nx c mx HMinx.out hlc _).mono ?_
  rintro e u3 ⟨rfl, hC⟩
  replace k_x := keep k_x hC
  replace k_y := keep k_y hC
  replace hB := hB.trans (hC.mono hB.size)
  clear hC
  have x_x_0 := cell_at k_x 0
  have x_y_0 := cell_at k_y 0
  have fr_0 := free_at k_x 0
  have hP := (Put.refl k_x).set 0 (.slice A mx c)
  have HP := Lib.hid hP
  clear hP
  go_wp2_with fail
  clear x_x_0 x_y_0 fr_0
  have hP := HP.out
  replace hB := hB.trans (hP.below (by omega))
  replace k_y := (hP.other (by omega)).trans k_y
  replace k_x := hP.get (Array.getElem?_eq_some_iff.1 k_x).1
  clear hP HP
  generalize (u3.setCell ⟨b_x, 0, none⟩ (.slice A mx c)) = u4 at *
  clear u3
  refine (Few_any A2 ny c2 my HMiny.out hlc2 _).mono ?_
  rintro e u5 ⟨rfl, hC⟩
  replace k_x := keep k_x hC
  replace k_y := keep k_y hC
  replace hB := hB.trans (hC.mono hB.size)
  clear hC
  have x_y_0 := cell_at k_y 0
  have x_x_0 := cell_at k_x 0
  have fr_0 := free_at k_y 0
  have hP := (Put.refl k_y).set 0 (.slice A2 my c2)
  have HP := Lib.hid hP
  clear hP
  go_wp2_with fail
  clear x_y_0 x_x_0 fr_0
  have hP := HP.out
  replace hB := hB.trans (hP.below (by omega))
  replace k_x := (hP.other (by omega)).trans k_x
  replace k_y := hP.get (Array.getElem?_eq_some_iff.1 k_y).1
  clear hP HP
  generalize (u5.setCell ⟨b_y, 0, none⟩ (.slice A2 my c2)) = u6 at *
  clear u5
  refine (Add_at A c Xx mx x H_ht_a.out rfl H_hN_a.out HMx.out (by omega) _ (hIx.later hB)).mono ?_
  rintro e u7 ⟨hC, A_a, c_a, rfl, a_a⟩
  replace k_x := keep k_x hC
  replace k_y := keep k_y hC
  replace hB := hB.trans (hC.mono hB.size)
  clear hC
  have x_x_0 := old_cell (cell_at k_x 0)
  go_wp2_with fail
  clear x_x_0
  have hA : Below u7.heap.size u7 (u7.alloc (.cells #[.slice A_a N_a c_a] 24)) := (Below.refl _ u7).alloc (Nat.le_refl _) _
  replace k_x := keep k_x hA
  replace k_y := keep k_y hA
  replace a_a := a_a.later hA
  replace hB := hB.trans (hA.mono hB.size)
  have k_a := new_at u7 (.cells #[.slice A_a N_a c_a] 24) _ rfl
  obtain ⟨b_a, hb⟩ : ∃ b, u7.heap.size = b := ⟨_, rfl⟩
  rw [hb] at k_a ⊢
  clear hA hb
  generalize u7.alloc (.cells #[.slice A_a N_a c_a] 24) = u8 at *
  clear u7
  refine (refAdd_at A c Xx mx x H_ht_a.out rfl H_hN_a.out HMx.out (by omega) _ (hIx.later hB)).mono ?_
  rintro e u9 ⟨hC, A_b, c_b, rfl, a_b⟩
  replace k_x := keep k_x hC
  replace k_y := keep k_y hC
  replace a_a := a_a.later hC
  replace k_a := keep k_a hC
  replace hB := hB.trans (hC.mono hB.size)
  clear hC
  have x_x_0 := old_cell (cell_at k_x 0)
  have x_y_0 := old_cell (cell_at k_y 0)
  go_wp2_with fail
  clear x_x_0 x_y_0
  have hA : Below u9.heap.size u9 (u9.alloc (.cells #[.slice A_b N_a c_b] 24)) := (Below.refl _ u9).alloc (Nat.le_refl _) _
  replace k_x := keep k_x hA
  replace k_y := keep k_y hA
  replace a_a := a_a.later hA
  replace k_a := keep k_a hA
  replace a_b := a_b.later hA
  replace hB := hB.trans (hA.mono hB.size)
  have k_b := new_at u9 (.cells #[.slice A_b N_a c_b] 24) _ rfl
  obtain ⟨b_b, hb⟩ : ∃ b, u9.heap.size = b := ⟨_, rfl⟩
  rw [hb] at k_b ⊢
  clear hA hb
  generalize u9.alloc (.cells #[.slice A_b N_a c_b] 24) = u10 at *
  clear u9
  refine (Merge_at A A2 c c2 Xx Xy mx my H_ht_c.out rfl H_hN_c.out HMx.out HMy.out (by omega) (by omega) _ (hIx.later hB) (hIy.later hB)).mono ?_
  rintro e u11 ⟨hC, A_c, c_c, rfl, a_c⟩
  replace k_x := keep k_x hC
  replace k_y := keep k_y hC
  replace a_a := a_a.later hC
  replace k_a := keep k_a hC
  replace a_b := a_b.later hC
  replace k_b := keep k_b hC
  replace hB := hB.trans (hC.mono hB.size)
  clear hC
  have x_x_0 := old_cell (cell_at k_x 0)
  have x_y_0 := old_cell (cell_at k_y 0)
  go_wp2_with fail
  clear x_x_0 x_y_0
  have hA : Below u11.heap.size u11 (u11.alloc (.cells #[.slice A_c N_c c_c] 24)) := (Below.refl _ u11).alloc (Nat.le_refl _) _
  replace k_x := keep k_x hA
  replace k_y := keep k_y hA
  replace a_a := a_a.later hA
  replace k_a := keep k_a hA
  replace a_b := a_b.later hA
  replace k_b := keep k_b hA
  replace a_c := a_c.later hA
  replace hB := hB.trans (hA.mono hB.size)
  have k_c := new_at u11 (.cells #[.slice A_c N_c c_c] 24) _ rfl
  obtain ⟨b_c, hb⟩ : ∃ b, u11.heap.size = b := ⟨_, rfl⟩
  rw [hb] at k_c ⊢
  clear hA hb
  generalize u11.alloc (.cells #[.slice A_c N_c c_c] 24) = u12 at *
  clear u11
  refine (refMerge_at A A2 c c2 Xx Xy mx my H_ht_c.out rfl H_hN_c.out HMx.out HMy.out (by omega) (by omega) _ (hIx.later hB) (hIy.later hB)).mono ?_
  rintro e u13 ⟨hC, A_d, c_d, rfl, a_d⟩
  replace k_x := keep k_x hC
  replace k_y := keep k_y hC
  replace a_a := a_a.later hC
  replace k_a := keep k_a hC
  replace a_b := a_b.later hC
  replace k_b := keep k_b hC
  replace a_c := a_c.later hC
  replace k_c := keep k_c hC
  replace hB := hB.trans (hC.mono hB.size)
  clear hC
  have x_a_0 := old_cell (cell_at k_a 0)
  have x_b_0 := old_cell (cell_at k_b 0)
  go_wp2_with fail
  clear x_a_0 x_b_0
  have hA : Below u13.heap.size u13 (u13.alloc (.cells #[.slice A_d N_c c_d] 24)) := (Below.refl _ u13).alloc (Nat.le_refl _) _
  replace k_x := keep k_x hA
  replace k_y := keep k_y hA
  replace a_a := a_a.later hA
  replace k_a := keep k_a hA
  replace a_b := a_b.later hA
  replace k_b := keep k_b hA
  replace a_c := a_c.later hA
  replace k_c := keep k_c hA
  replace a_d := a_d.later hA
  replace hB := hB.trans (hA.mono hB.size)
  have k_d := new_at u13 (.cells #[.slice A_d N_c c_d] 24) _ rfl
  obtain ⟨b_d, hb⟩ : ∃ b, u13.heap.size = b := ⟨_, rfl⟩
  rw [hb] at k_d ⊢
  clear hA hb
  generalize u13.alloc (.cells #[.slice A_d N_c c_d] 24) = u14 at *
  clear u13
  refine (numbers_self _ _ c_a c_b l_a N_a H_hN_a.out (by omega) _ a_a a_b).mono ?_
  rintro e u15 ⟨rfl, hC⟩
  replace k_x := keep k_x hC
  replace k_y := keep k_y hC
  replace a_a := a_a.later hC
  replace k_a := keep k_a hC
  replace a_b := a_b.later hC
  replace k_b := keep k_b hC
  replace a_c := a_c.later hC
  replace k_c := keep k_c hC
  replace a_d := a_d.later hC
  replace k_d := keep k_d hC
  replace hB := hB.trans (hC.mono hB.size)
  clear hC
  have x_c_0 := cell_at k_c 0
  have x_d_0 := cell_at k_d 0
  go_wp2_with fail
  clear x_c_0 x_d_0
  refine (numbers_self _ _ c_c c_d l_c N_c H_hN_c.out (by omega) _ a_c a_d).mono ?_
  rintro e u16 ⟨rfl, hC⟩
  replace k_x := keep k_x hC
  replace k_y := keep k_y hC
  replace a_a := a_a.later hC
  replace k_a := keep k_a hC
  replace a_b := a_b.later hC
  replace k_b := keep k_b hC
  replace a_c := a_c.later hC
  replace k_c := keep k_c hC
  replace a_d := a_d.later hC
  replace k_d := keep k_d hC
  replace hB := hB.trans (hC.mono hB.size)
  clear hC
  go_wp2_with fail
  go_ret
  exact ⟨rfl, hB⟩
end Go.Proofs.Ythnnbpmpaeddgaa
