/-
  The walk of the statement on which sketches are right, what numbers make, which are there.
-/
import Derived.Test.YthnnbpmpaeddgaaExactMerges0
namespace Go.Proofs.Ythnnbpmpaeddgaa
open Go.RowKit Go.Shelf

theorem at_later {w : World} {A : Option Addr} {l : List (BitVec 64)} (h : At w w.heap.size A l) (s : Later w.heap.size w) : At s.W s.W.heap.size A l := (h.below s.below).mono s.below.size
set_option maxRecDepth 100000 in
set_option maxHeartbeats 4000000 in
theorem walk_ExactMakes {w : World} (A : Option Addr) (c : Nat) (L : L64) (hlc : L.length ≤ c) (hA : At w w.heap.size A L) (A2 : Option Addr) (c2 : Nat) (L2 : L64) (hlc2 : L2.length ≤ c2) (hA2 : At w w.heap.size A2 L2) (x : BitVec 64) :
    Calls Try.prog 5 #[.agg #[.slice A L.length c], .slice A2 L2.length c2, .int .u64 (U x)] w fun e w' => e = .returned (.bool true) ∧ Below w.heap.size w w' := by
  have hIx := hA.take 70
  have htl : (L.take 70).length = min L.length 70 := by rw [List.length_take]; omega
  obtain ⟨Xx, hJ⟩ : ∃ J, L.take 70 = J := ⟨_, rfl⟩
  rw [hJ] at hIx htl
  obtain ⟨nx, hn⟩ : ∃ n, L.length = n := ⟨_, rfl⟩
  rw [hn] at htl hlc ⊢
  obtain ⟨mx, hm⟩ : ∃ m, min nx 70 = m := ⟨_, rfl⟩
  have hlex : mx ≤ 70 := by omega
  have HMinx := Lib.hid hm
  have HMx := Lib.hid (htl.trans hm)
  clear htl hJ hn
  clear hm hA
  have hIy := hA2.take 100
  have htl : (L2.take 100).length = min L2.length 100 := by rw [List.length_take]; omega
  obtain ⟨Xy, hJ⟩ : ∃ J, L2.take 100 = J := ⟨_, rfl⟩
  rw [hJ] at hIy htl
  obtain ⟨ny, hn⟩ : ∃ n, L2.length = n := ⟨_, rfl⟩
  rw [hn] at htl hlc2 ⊢
  obtain ⟨my, hm⟩ : ∃ m, min ny 100 = m := ⟨_, rfl⟩
  have hley : my ≤ 100 := by omega
  have HMiny := Lib.hid hm
  have HMy := Lib.hid (htl.trans hm)
  clear htl hJ hn
  clear hm hA2
  obtain ⟨⟨l_a, e_a⟩, ht_a⟩ : ∃ t, capX (ofX Xy) = t := ⟨_, rfl⟩
  obtain ⟨N_a, hN_a⟩ : ∃ N, l_a.length = N := ⟨_, rfl⟩
  have hb_a : N_a ≤ 64 := by have h := capX_le (ofX Xy); rw [ht_a] at h; rw [← hN_a]; exact h
  have H_ht_a := Lib.hid ht_a
  clear ht_a
  have H_hN_a := Lib.hid hN_a
  clear hN_a
  go_enter Try.func5, Try.ntmps5
  have hB : Below w.heap.size w w := Below.refl _ w
  go_wp2_with fail
  have hA : Below w.heap.size w (w.alloc (.cells #[.slice A nx c] 24)) := (Below.refl _ w).alloc (Nat.le_refl _) _
  have hq0 := hB.size
  replace hB := hB.trans (hA.mono hB.size)
  have k_x : (w.alloc (.cells #[.slice A nx c] 24)).heap[w.heap.size]? = some (.cells #[.slice A nx c] 24 (0, 0)) := new_at _ _ _ rfl
  obtain ⟨b_x, hb0⟩ : ∃ b, w.heap.size = b := ⟨_, rfl⟩
  have q_x : w.heap.size ≤ b_x := by omega
  rw [hb0] at k_x ⊢
  clear hA hq0 hb0
  generalize (w.alloc (.cells #[.slice A nx c] 24)) = u1 at *
  refine (shown_any _).mono ?_
  rintro e u2 ⟨rfl, hC⟩
  replace k_x := keep k_x hC
  replace hB := hB.trans (hC.mono hB.size)
  clear hC
  have x_x_0 := cell_at k_x 0
  go_wp2_with fail
  clear x_x_0
  refine (Few_any A nx c mx HMinx.out hlc _).mono ?_
  rintro e u3 ⟨rfl, hC⟩
  replace k_x := keep k_x hC
  replace hB := hB.trans (hC.mono hB.size)
  clear hC
  have x_x_0 := cell_at k_x 0
  have fr_0 := free_at k_x 0
  have hP := (Put.refl k_x).set 0 (.slice A mx c)
  have HP := Lib.hid hP
  clear hP
  go_wp2_with fail
  clear x_x_0 fr_0
  have hP := HP.out
  replace hB := hB.trans (hP.below (by omega))
  replace k_x := hP.get (Array.getElem?_eq_some_iff.1 k_x).1
  clear hP HP
  generalize (u3.setCell ⟨b_x, 0, none⟩ (.slice A mx c)) = u4 at *
  clear u3
  refine (few_any A2 ny c2 my HMiny.out hlc2 _).mono ?_
  rintro e w9 ⟨rfl, rfl⟩
  go_wp2_with fail
  refine (Of_at A2 c2 Xy my H_ht_a.out rfl H_hN_a.out HMy.out (by omega) _ (hIy.later hB)).mono ?_
  rintro e u6 ⟨hC, A_a, c_a, rfl, a_a⟩
  replace k_x := keep k_x hC
  replace hB := hB.trans (hC.mono hB.size)
  clear hC
  go_wp2_with fail
  have hA : Below u6.heap.size u6 (u6.alloc (.cells #[.slice A_a N_a c_a] 24)) := (Below.refl _ u6).alloc (Nat.le_refl _) _
  replace k_x := keep k_x hA
  replace a_a := a_a.later hA
  replace hB := hB.trans (hA.mono hB.size)
  have k_a := new_at u6 (.cells #[.slice A_a N_a c_a] 24) _ rfl
  obtain ⟨b_a, hb⟩ : ∃ b, u6.heap.size = b := ⟨_, rfl⟩
  rw [hb] at k_a ⊢
  clear hA hb
  generalize u6.alloc (.cells #[.slice A_a N_a c_a] 24) = u7 at *
  clear u6
  refine (few_any A2 ny c2 my HMiny.out hlc2 _).mono ?_
  rintro e w9 ⟨rfl, rfl⟩
  go_wp2_with fail
  refine (refOf_at A2 c2 Xy my H_ht_a.out rfl H_hN_a.out HMy.out (by omega) _ (hIy.later hB)).mono ?_
  rintro e u9 ⟨hC, A_b, c_b, rfl, a_b⟩
  replace k_x := keep k_x hC
  replace a_a := a_a.later hC
  replace k_a := keep k_a hC
  replace hB := hB.trans (hC.mono hB.size)
  clear hC
  go_wp2_with fail
  have hA : Below u9.heap.size u9 (u9.alloc (.cells #[.slice A_b N_a c_b] 24)) := (Below.refl _ u9).alloc (Nat.le_refl _) _
  replace k_x := keep k_x hA
  replace a_a := a_a.later hA
  replace k_a := keep k_a hA
  replace a_b := a_b.later hA
  replace hB := hB.trans (hA.mono hB.size)
  have k_b := new_at u9 (.cells #[.slice A_b N_a c_b] 24) _ rfl
  obtain ⟨b_b, hb⟩ : ∃ b, u9.heap.size = b := ⟨_, rfl⟩
  rw [hb] at k_b ⊢
  clear hA hb
  generalize u9.alloc (.cells #[.slice A_b N_a c_b] 24) = u10 at *
  clear u9
  have hAx := hIx.later hB
  refine wp_region_later u10.heap.size (by kernel_rfl) (by kernel_rfl) ?_
  have l_x_0 : ∀ s : Later u10.heap.size u10, s.W.cell? ⟨b_x, 0, none⟩ = some _ := fun s => s.cell (cell_at k_x 0) (Array.getElem?_eq_some_iff.1 k_x).1
  have l_a_0 : ∀ s : Later u10.heap.size u10, s.W.cell? ⟨b_a, 0, none⟩ = some _ := fun s => s.cell (cell_at k_a 0) (Array.getElem?_eq_some_iff.1 k_a).1
  have l_b_0 : ∀ s : Later u10.heap.size u10, s.W.cell? ⟨b_b, 0, none⟩ = some _ := fun s => s.cell (cell_at k_b 0) (Array.getElem?_eq_some_iff.1 k_b).1
  repeat (go_big_quiet_step (first | (go_at_call 16; with_reducible exact Calls.later (Nat.le_refl _) (numbers_self _ _ c_a c_b l_a N_a H_hN_a.out (by omega) _ (at_later a_a _) (at_later a_b _))) | (go_at_call 22; with_reducible exact Calls.later (Nat.le_refl _) (Right_any A c Xx mx HMx.out (by omega) _ (at_later hAx _))) | (go_at_call 23; with_reducible exact Calls.later (Nat.le_refl _) (refRight_any A c Xx mx HMx.out (by omega) _ (at_later hAx _))) | (go_at_call 19; with_reducible exact Calls.later (Nat.le_refl _) (Has_any A c Xx mx HMx.out (by omega) x _ (at_later hAx _))) | (go_at_call 24; with_reducible exact Calls.later (Nat.le_refl _) (refHas_any A c Xx mx HMx.out (by omega) x _ (at_later hAx _))) | (go_at_call 20; with_reducible exact Calls.later (Nat.le_refl _) (Count_any A c Xx mx HMx.out (by omega) _ (at_later hAx _))) | (go_at_call 25; with_reducible exact Calls.later (Nat.le_refl _) (refCount_any A c Xx mx HMx.out (by omega) _ (at_later hAx _))) | (go_at_call 26; with_reducible exact Calls.later (Nat.le_refl _) (Same_any A_a A c_a c l_a Xx N_a mx H_hN_a.out HMx.out (by omega) _ (at_later a_a _) (at_later hAx _))) | (go_at_call 16; with_reducible exact Calls.later (Nat.le_refl _) (numbers_at A_a A c_a c l_a Xx N_a mx H_hN_a.out HMx.out (by omega) _ (at_later a_a _) (at_later hAx _)))))
  refine wpQuiet_nil ?_
  rintro _ ⟨s, rfl⟩
  clear l_x_0 l_a_0 l_b_0
  have hC := s.below
  replace k_x := keep k_x hC
  replace a_a := a_a.later hC
  replace k_a := keep k_a hC
  replace a_b := a_b.later hC
  replace k_b := keep k_b hC
  replace hAx := hAx.later hC
  replace hB := hB.trans (hC.mono hB.size)
  clear hC
  go_wp2_with fail
  go_ret
  exact ⟨rfl, hB⟩
end Go.Proofs.Ythnnbpmpaeddgaa
