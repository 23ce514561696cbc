/-
  The walk of AuditParts. Printed by gen_audl.py.
-/
import Derived.Test.YtdhbomipffidlaaAudS
namespace Go.Proofs.Ytdhbomipffidlaa
open Go.RowKit Go.Shelf
attribute [local go_sem] Oper.semAt_some calmOp calmUpon effOp effUpon

theorem chain_nil (a b q : BitVec 64) : chainE a b q [] = 0 := rfl
theorem chain_le (a b q : BitVec 64) (l : LE) : chainE a b q l ≤ l.length := upTo_le _ _
set_option maxRecDepth 100000 in
set_option maxHeartbeats 8000000 in
theorem walk_AuditParts {w : World} (a b q : BitVec 64) (p : BitVec 64) (A : Option Addr) (c : Nat) (l : LE) (hlc : l.length ≤ 9223372036854775807) (hz : ∀ j, j < l.length → (nthE l j).x.size ≤ 9223372036854775807) (hX : AtE w w.heap.size A l) (at_ : Int) :
    Calls Try.prog 5 #[.agg #[.int .u64 (U a), .int .u64 (U b)], .int .u64 (U q), .agg #[.int .u64 (U p), .slice A l.length c], .int .i64 at_] w fun e w' => e = .returned (.bool true) ∧ Below w.heap.size w w' := by
  have HF_l := Lib.hid (fun W h => Few_any p A c l l.length rfl hlc hz W h)
  have hsz_l := fewE_size l
  have hle_l := fewE_length l
  obtain ⟨L_l, hL_l⟩ : ∃ L, fewE l = L := ⟨_, rfl⟩
  rw [hL_l] at HF_l hsz_l hle_l
  obtain ⟨N_l, hN_l⟩ : ∃ N, L_l.length = N := ⟨_, rfl⟩
  rw [hN_l] at HF_l hsz_l hle_l
  have HN_l := Lib.hid hN_l
  have HS_l := Lib.hid (fun j hj => Nat.le_trans (hsz_l j hj) (show 210 ≤ 60000 by decide))
  obtain ⟨n0_l, hn0_l⟩ : ∃ n, l.length = n := ⟨_, rfl⟩
  rw [hn0_l] at HF_l ⊢
  clear hsz_l hL_l hN_l hn0_l hz
  have HC := Lib.hid (fun A c W hA => Chained_any a b q A c L_l N_l HN_l.out (by omega) HS_l.out W hA)
  have HX := Lib.hid hX
  clear hX
  by_cases h1 : at_ < 0
  · have h2 : at_ ≤ (N_l : Int) := by omega
    have H2 := Lib.hid (fun A c W hA => Chained_any a b q A c [] 0 rfl (by omega) (fun j hj => absurd hj (by omega)) W hA)
    rw [chain_nil, decide_eq_true (rfl : (0 : Nat) = 0)] at H2
    have hl1 := chain_le a b q L_l
    rw [HN_l.out] at hl1
    obtain ⟨C1, hC1⟩ : ∃ C, chainE a b q L_l = C := ⟨_, rfl⟩
    rw [hC1] at HC hl1
    obtain ⟨D1, hD1⟩ : ∃ D, decide (C1 = N_l) = D := ⟨_, rfl⟩
    rw [hD1] at HC
    have hadd : IntKind.i64.wrap (C1 : Int) = (C1 : Int) := by rw [IntKind.wrap_i64]; omega
    clear hC1 hD1
    go_enter Try.func5, Try.ntmps5
    have hB : Below w.heap.size w w := Below.refl _ w
    go_wp2_with fail
    have hA : Below w.heap.size w ((w.alloc (.cells #[.int .u64 (U a), .int .u64 (U b)] 24)).alloc (.cells #[.int .u64 (U p), .slice A n0_l c] 27)) := ((Below.refl _ w).alloc (Nat.le_refl _) _).alloc (by simp) _
    have hq0 := hB.size
    replace hB := hB.trans (hA.mono hB.size)
    have k_k : ((w.alloc (.cells #[.int .u64 (U a), .int .u64 (U b)] 24)).alloc (.cells #[.int .u64 (U p), .slice A n0_l c] 27)).heap[w.heap.size]? = some (.cells #[.int .u64 (U a), .int .u64 (U b)] 24 (0, 0)) := old_at (new_at _ _ _ rfl)
    have k_l : ((w.alloc (.cells #[.int .u64 (U a), .int .u64 (U b)] 24)).alloc (.cells #[.int .u64 (U p), .slice A n0_l c] 27)).heap[w.heap.size + 1]? = some (.cells #[.int .u64 (U p), .slice A n0_l c] 27 (0, 0)) := new_at _ _ _ (by simp)
    obtain ⟨b_l, hb1⟩ : ∃ b, w.heap.size + 1 = b := ⟨_, rfl⟩
    have q_l : w.heap.size ≤ b_l := by omega
    rw [hb1] at k_l ⊢
    obtain ⟨b_k, hb0⟩ : ∃ b, w.heap.size = b := ⟨_, rfl⟩
    have q_k : w.heap.size ≤ b_k := by omega
    rw [hb0] at k_k ⊢
    have lt_k_l : b_k < b_l := by omega
    clear hA hq0 hb0 hb1
    generalize ((w.alloc (.cells #[.int .u64 (U a), .int .u64 (U b)] 24)).alloc (.cells #[.int .u64 (U p), .slice A n0_l c] 27)) = u1 at *
    refine (shown_any _).mono ?_
    rintro e u2 ⟨rfl, hC⟩
    replace k_k := keep k_k hC
    replace k_l := keep k_l hC
    replace hB := hB.trans (hC.mono hB.size)
    clear hC
    have x_l_0 := cell_at k_l 0
    have x_l_1 := cell_at k_l 1
    go_wp2_with fail
    clear x_l_0 x_l_1
    refine (HF_l.out _ ((HX.out.below hB).mono hB.size)).mono ?_
    rintro e u3 ⟨hC, A_l, c_l, rfl, n_l, a_l⟩
    replace a_l := a_l.mono (show b_l + 1 ≤ _ from (Array.getElem?_eq_some_iff.1 k_l).1)
    replace k_k := keep k_k hC
    replace k_l := keep k_l hC
    replace hB := hB.trans (hC.mono hB.size)
    clear hC
    have x_l_0 := cell_at k_l 0
    have fr_0 := free_at k_l 0
    have x_l_1 := cell_at k_l 1
    have fr_1 := free_at k_l 1
    have hP : Put u3 ((u3.setCell ⟨b_l, 0, none⟩ (.int .u64 (U p))).setCell ⟨b_l, 1, none⟩ (.slice A_l N_l c_l)) b_l (.cells #[.int .u64 (U p), .slice A_l N_l c_l] 27 (0, 0)) := ((Put.refl k_l).set 0 (.int .u64 (U p))).set 1 (.slice A_l N_l c_l)
    have HP := Lib.hid hP
    clear hP
    have x_k_0 := cell_at k_k 0
    have x_k_1 := cell_at k_k 1
    go_wp2_with fail
    clear x_k_0 x_k_1
    clear x_l_0 x_l_1 fr_0 fr_1
    have hP := HP.out
    replace hB := hB.trans (hP.below (by omega))
    replace k_k := (hP.other (by omega)).trans k_k
    replace a_l := a_l.put hP (by omega)
    replace k_l := hP.get (Array.getElem?_eq_some_iff.1 k_l).1
    clear hP HP
    generalize ((u3.setCell ⟨b_l, 0, none⟩ (.int .u64 (U p))).setCell ⟨b_l, 1, none⟩ (.slice A_l N_l c_l)) = u4 at *
    clear u3
    refine (HC.out _ _ _ a_l.at_).mono ?_
    rintro e u5 ⟨rfl, hC⟩
    replace k_k := keep k_k hC
    replace k_l := keep k_l hC
    replace a_l := a_l.later hC
    replace hB := hB.trans (hC.mono hB.size)
    clear hC
    go_wp2_with fail
    refine wp_region_later u5.heap.size (by kernel_rfl) (by kernel_rfl) ?_
    have l_k_0 : ∀ s : Later u5.heap.size u5, s.W.cell? ⟨b_k, 0, none⟩ = some _ := fun s => s.cell (cell_at k_k 0) (Array.getElem?_eq_some_iff.1 k_k).1
    have l_k_1 : ∀ s : Later u5.heap.size u5, s.W.cell? ⟨b_k, 1, none⟩ = some _ := fun s => s.cell (cell_at k_k 1) (Array.getElem?_eq_some_iff.1 k_k).1
    have l_l_0 : ∀ s : Later u5.heap.size u5, s.W.cell? ⟨b_l, 0, none⟩ = some _ := fun s => s.cell (cell_at k_l 0) (Array.getElem?_eq_some_iff.1 k_l).1
    have l_l_1 : ∀ s : Later u5.heap.size u5, s.W.cell? ⟨b_l, 1, none⟩ = some _ := fun s => s.cell (cell_at k_l 1) (Array.getElem?_eq_some_iff.1 k_l).1
    repeat (go_big_quiet_step (first | (go_at_call 18; with_reducible exact Calls.later (Nat.le_refl _) (H2.out _ _ _ AtE.nil))))
    refine wpQuiet_nil ?_
    rintro _ ⟨s, rfl⟩
    clear l_k_0 l_k_1 l_l_0 l_l_1
    have hC := s.below
    replace k_k := keep k_k hC
    replace k_l := keep k_l hC
    replace a_l := a_l.later hC
    replace hB := hB.trans (hC.mono hB.size)
    clear hC
    go_wp2_with fail
    have HAl3 := Lib.hid (fun s : Later s.W.heap.size s.W => (a_l.later s.below).at_)
    refine wp_region_later s.W.heap.size (by kernel_rfl) (by kernel_rfl) ?_
    have l_k_0 : ∀ s : Later s.W.heap.size s.W, s.W.cell? ⟨b_k, 0, none⟩ = some _ := fun s => s.cell (cell_at k_k 0) (Array.getElem?_eq_some_iff.1 k_k).1
    have l_k_1 : ∀ s : Later s.W.heap.size s.W, s.W.cell? ⟨b_k, 1, none⟩ = some _ := fun s => s.cell (cell_at k_k 1) (Array.getElem?_eq_some_iff.1 k_k).1
    have l_l_0 : ∀ s : Later s.W.heap.size s.W, s.W.cell? ⟨b_l, 0, none⟩ = some _ := fun s => s.cell (cell_at k_l 0) (Array.getElem?_eq_some_iff.1 k_l).1
    have l_l_1 : ∀ s : Later s.W.heap.size s.W, s.W.cell? ⟨b_l, 1, none⟩ = some _ := fun s => s.cell (cell_at k_l 1) (Array.getElem?_eq_some_iff.1 k_l).1
    repeat (go_big_quiet_step (first | (go_at_call 18; with_reducible exact Calls.later (Nat.le_refl _) (HC.out _ _ _ (HAl3.out _)))))
    refine wpQuiet_nil ?_
    rintro _ ⟨s, rfl⟩
    clear l_k_0 l_k_1 l_l_0 l_l_1
    have hC := s.below
    replace k_k := keep k_k hC
    replace k_l := keep k_l hC
    replace a_l := a_l.later hC
    replace hB := hB.trans (hC.mono hB.size)
    clear hC
    go_wp2_with fail
    go_ret
    exact ⟨rfl, hB⟩
  by_cases h0 : at_ = 0
  · subst h0
    have h2 : (0 : Int) ≤ (N_l : Int) := by omega
    have H2 := Lib.hid (fun A c W hA => Chained_any a b q A c [] 0 rfl (by omega) (fun j hj => absurd hj (by omega)) W hA)
    rw [chain_nil, decide_eq_true (rfl : (0 : Nat) = 0)] at H2
    have hl1 := chain_le a b q L_l
    rw [HN_l.out] at hl1
    obtain ⟨C1, hC1⟩ : ∃ C, chainE a b q L_l = C := ⟨_, rfl⟩
    rw [hC1] at HC hl1
    obtain ⟨D1, hD1⟩ : ∃ D, decide (C1 = N_l) = D := ⟨_, rfl⟩
    rw [hD1] at HC
    have hadd : IntKind.i64.wrap (C1 : Int) = (C1 : Int) := by rw [IntKind.wrap_i64]; omega
    clear hC1 hD1
    go_enter Try.func5, Try.ntmps5
    have hB : Below w.heap.size w w := Below.refl _ w
    go_wp2_with fail
    have hA : Below w.heap.size w ((w.alloc (.cells #[.int .u64 (U a), .int .u64 (U b)] 24)).alloc (.cells #[.int .u64 (U p), .slice A n0_l c] 27)) := ((Below.refl _ w).alloc (Nat.le_refl _) _).alloc (by simp) _
    have hq0 := hB.size
    replace hB := hB.trans (hA.mono hB.size)
    have k_k : ((w.alloc (.cells #[.int .u64 (U a), .int .u64 (U b)] 24)).alloc (.cells #[.int .u64 (U p), .slice A n0_l c] 27)).heap[w.heap.size]? = some (.cells #[.int .u64 (U a), .int .u64 (U b)] 24 (0, 0)) := old_at (new_at _ _ _ rfl)
    have k_l : ((w.alloc (.cells #[.int .u64 (U a), .int .u64 (U b)] 24)).alloc (.cells #[.int .u64 (U p), .slice A n0_l c] 27)).heap[w.heap.size + 1]? = some (.cells #[.int .u64 (U p), .slice A n0_l c] 27 (0, 0)) := new_at _ _ _ (by simp)
    obtain ⟨b_l, hb1⟩ : ∃ b, w.heap.size + 1 = b := ⟨_, rfl⟩
    have q_l : w.heap.size ≤ b_l := by omega
    rw [hb1] at k_l ⊢
    obtain ⟨b_k, hb0⟩ : ∃ b, w.heap.size = b := ⟨_, rfl⟩
    have q_k : w.heap.size ≤ b_k := by omega
    rw [hb0] at k_k ⊢
    have lt_k_l : b_k < b_l := by omega
    clear hA hq0 hb0 hb1
    generalize ((w.alloc (.cells #[.int .u64 (U a), .int .u64 (U b)] 24)).alloc (.cells #[.int .u64 (U p), .slice A n0_l c] 27)) = u1 at *
    refine (shown_any _).mono ?_
    rintro e u2 ⟨rfl, hC⟩
    replace k_k := keep k_k hC
    replace k_l := keep k_l hC
    replace hB := hB.trans (hC.mono hB.size)
    clear hC
    have x_l_0 := cell_at k_l 0
    have x_l_1 := cell_at k_l 1
    go_wp2_with fail
    clear x_l_0 x_l_1
    refine (HF_l.out _ ((HX.out.below hB).mono hB.size)).mono ?_
    rintro e u3 ⟨hC, A_l, c_l, rfl, n_l, a_l⟩
    replace a_l := a_l.mono (show b_l + 1 ≤ _ from (Array.getElem?_eq_some_iff.1 k_l).1)
    replace k_k := keep k_k hC
    replace k_l := keep k_l hC
    replace hB := hB.trans (hC.mono hB.size)
    clear hC
    have x_l_0 := cell_at k_l 0
    have fr_0 := free_at k_l 0
    have x_l_1 := cell_at k_l 1
    have fr_1 := free_at k_l 1
    have hP : Put u3 ((u3.setCell ⟨b_l, 0, none⟩ (.int .u64 (U p))).setCell ⟨b_l, 1, none⟩ (.slice A_l N_l c_l)) b_l (.cells #[.int .u64 (U p), .slice A_l N_l c_l] 27 (0, 0)) := ((Put.refl k_l).set 0 (.int .u64 (U p))).set 1 (.slice A_l N_l c_l)
    have HP := Lib.hid hP
    clear hP
    have x_k_0 := cell_at k_k 0
    have x_k_1 := cell_at k_k 1
    go_wp2_with fail
    clear x_k_0 x_k_1
    clear x_l_0 x_l_1 fr_0 fr_1
    have hP := HP.out
    replace hB := hB.trans (hP.below (by omega))
    replace k_k := (hP.other (by omega)).trans k_k
    replace a_l := a_l.put hP (by omega)
    replace k_l := hP.get (Array.getElem?_eq_some_iff.1 k_l).1
    clear hP HP
    generalize ((u3.setCell ⟨b_l, 0, none⟩ (.int .u64 (U p))).setCell ⟨b_l, 1, none⟩ (.slice A_l N_l c_l)) = u4 at *
    clear u3
    refine (HC.out _ _ _ a_l.at_).mono ?_
    rintro e u5 ⟨rfl, hC⟩
    replace k_k := keep k_k hC
    replace k_l := keep k_l hC
    replace a_l := a_l.later hC
    replace hB := hB.trans (hC.mono hB.size)
    clear hC
    go_wp2_with fail
    refine wp_region_later u5.heap.size (by kernel_rfl) (by kernel_rfl) ?_
    have l_k_0 : ∀ s : Later u5.heap.size u5, s.W.cell? ⟨b_k, 0, none⟩ = some _ := fun s => s.cell (cell_at k_k 0) (Array.getElem?_eq_some_iff.1 k_k).1
    have l_k_1 : ∀ s : Later u5.heap.size u5, s.W.cell? ⟨b_k, 1, none⟩ = some _ := fun s => s.cell (cell_at k_k 1) (Array.getElem?_eq_some_iff.1 k_k).1
    have l_l_0 : ∀ s : Later u5.heap.size u5, s.W.cell? ⟨b_l, 0, none⟩ = some _ := fun s => s.cell (cell_at k_l 0) (Array.getElem?_eq_some_iff.1 k_l).1
    have l_l_1 : ∀ s : Later u5.heap.size u5, s.W.cell? ⟨b_l, 1, none⟩ = some _ := fun s => s.cell (cell_at k_l 1) (Array.getElem?_eq_some_iff.1 k_l).1
    repeat (go_big_quiet_step (first | (go_at_call 18; with_reducible exact Calls.later (Nat.le_refl _) (H2.out _ _ _ AtE.nil))))
    refine wpQuiet_nil ?_
    rintro _ ⟨s, rfl⟩
    clear l_k_0 l_k_1 l_l_0 l_l_1
    have hC := s.below
    replace k_k := keep k_k hC
    replace k_l := keep k_l hC
    replace a_l := a_l.later hC
    replace hB := hB.trans (hC.mono hB.size)
    clear hC
    go_wp2_with fail
    have HAl3 := Lib.hid (fun s : Later s.W.heap.size s.W => (a_l.later s.below).at_)
    refine wp_region_later s.W.heap.size (by kernel_rfl) (by kernel_rfl) ?_
    have l_k_0 : ∀ s : Later s.W.heap.size s.W, s.W.cell? ⟨b_k, 0, none⟩ = some _ := fun s => s.cell (cell_at k_k 0) (Array.getElem?_eq_some_iff.1 k_k).1
    have l_k_1 : ∀ s : Later s.W.heap.size s.W, s.W.cell? ⟨b_k, 1, none⟩ = some _ := fun s => s.cell (cell_at k_k 1) (Array.getElem?_eq_some_iff.1 k_k).1
    have l_l_0 : ∀ s : Later s.W.heap.size s.W, s.W.cell? ⟨b_l, 0, none⟩ = some _ := fun s => s.cell (cell_at k_l 0) (Array.getElem?_eq_some_iff.1 k_l).1
    have l_l_1 : ∀ s : Later s.W.heap.size s.W, s.W.cell? ⟨b_l, 1, none⟩ = some _ := fun s => s.cell (cell_at k_l 1) (Array.getElem?_eq_some_iff.1 k_l).1
    repeat (go_big_quiet_step (first | (go_at_call 18; with_reducible exact Calls.later (Nat.le_refl _) (HC.out _ _ _ (HAl3.out _)))))
    refine wpQuiet_nil ?_
    rintro _ ⟨s, rfl⟩
    clear l_k_0 l_k_1 l_l_0 l_l_1
    have hC := s.below
    replace k_k := keep k_k hC
    replace k_l := keep k_l hC
    replace a_l := a_l.later hC
    replace hB := hB.trans (hC.mono hB.size)
    clear hC
    go_wp2_with fail
    go_ret
    exact ⟨rfl, hB⟩
  by_cases hN0 : N_l = 0
  · subst hN0
    have h2 : ¬ at_ ≤ 0 := by omega
    have h3 : ¬ at_ ≤ ((0 : Nat) : Int) := by omega
    have H2 := Lib.hid (fun A c W hA => Chained_any a b q A c [] 0 rfl (by omega) (fun j hj => absurd hj (by omega)) W hA)
    rw [chain_nil, decide_eq_true (rfl : (0 : Nat) = 0)] at H2
    have hl1 := chain_le a b q L_l
    rw [HN_l.out] at hl1
    obtain ⟨C1, hC1⟩ : ∃ C, chainE a b q L_l = C := ⟨_, rfl⟩
    rw [hC1] at HC hl1
    obtain ⟨D1, hD1⟩ : ∃ D, decide (C1 = 0) = D := ⟨_, rfl⟩
    rw [hD1] at HC
    have hadd : IntKind.i64.wrap (C1 : Int) = (C1 : Int) := by rw [IntKind.wrap_i64]; omega
    clear hC1 hD1
    go_enter Try.func5, Try.ntmps5
    have hB : Below w.heap.size w w := Below.refl _ w
    go_wp2_with fail
    have hA : Below w.heap.size w ((w.alloc (.cells #[.int .u64 (U a), .int .u64 (U b)] 24)).alloc (.cells #[.int .u64 (U p), .slice A n0_l c] 27)) := ((Below.refl _ w).alloc (Nat.le_refl _) _).alloc (by simp) _
    have hq0 := hB.size
    replace hB := hB.trans (hA.mono hB.size)
    have k_k : ((w.alloc (.cells #[.int .u64 (U a), .int .u64 (U b)] 24)).alloc (.cells #[.int .u64 (U p), .slice A n0_l c] 27)).heap[w.heap.size]? = some (.cells #[.int .u64 (U a), .int .u64 (U b)] 24 (0, 0)) := old_at (new_at _ _ _ rfl)
    have k_l : ((w.alloc (.cells #[.int .u64 (U a), .int .u64 (U b)] 24)).alloc (.cells #[.int .u64 (U p), .slice A n0_l c] 27)).heap[w.heap.size + 1]? = some (.cells #[.int .u64 (U p), .slice A n0_l c] 27 (0, 0)) := new_at _ _ _ (by simp)
    obtain ⟨b_l, hb1⟩ : ∃ b, w.heap.size + 1 = b := ⟨_, rfl⟩
    have q_l : w.heap.size ≤ b_l := by omega
    rw [hb1] at k_l ⊢
    obtain ⟨b_k, hb0⟩ : ∃ b, w.heap.size = b := ⟨_, rfl⟩
    have q_k : w.heap.size ≤ b_k := by omega
    rw [hb0] at k_k ⊢
    have lt_k_l : b_k < b_l := by omega
    clear hA hq0 hb0 hb1
    generalize ((w.alloc (.cells #[.int .u64 (U a), .int .u64 (U b)] 24)).alloc (.cells #[.int .u64 (U p), .slice A n0_l c] 27)) = u1 at *
    refine (shown_any _).mono ?_
    rintro e u2 ⟨rfl, hC⟩
    replace k_k := keep k_k hC
    replace k_l := keep k_l hC
    replace hB := hB.trans (hC.mono hB.size)
    clear hC
    have x_l_0 := cell_at k_l 0
    have x_l_1 := cell_at k_l 1
    go_wp2_with fail
    clear x_l_0 x_l_1
    refine (HF_l.out _ ((HX.out.below hB).mono hB.size)).mono ?_
    rintro e u3 ⟨hC, A_l, c_l, rfl, n_l, a_l⟩
    replace a_l := a_l.mono (show b_l + 1 ≤ _ from (Array.getElem?_eq_some_iff.1 k_l).1)
    replace k_k := keep k_k hC
    replace k_l := keep k_l hC
    replace hB := hB.trans (hC.mono hB.size)
    clear hC
    have x_l_0 := cell_at k_l 0
    have fr_0 := free_at k_l 0
    have x_l_1 := cell_at k_l 1
    have fr_1 := free_at k_l 1
    have hP : Put u3 ((u3.setCell ⟨b_l, 0, none⟩ (.int .u64 (U p))).setCell ⟨b_l, 1, none⟩ (.slice A_l 0 c_l)) b_l (.cells #[.int .u64 (U p), .slice A_l 0 c_l] 27 (0, 0)) := ((Put.refl k_l).set 0 (.int .u64 (U p))).set 1 (.slice A_l 0 c_l)
    have HP := Lib.hid hP
    clear hP
    have x_k_0 := cell_at k_k 0
    have x_k_1 := cell_at k_k 1
    go_wp2_with fail
    clear x_k_0 x_k_1
    clear x_l_0 x_l_1 fr_0 fr_1
    have hP := HP.out
    replace hB := hB.trans (hP.below (by omega))
    replace k_k := (hP.other (by omega)).trans k_k
    replace a_l := a_l.put hP (by omega)
    replace k_l := hP.get (Array.getElem?_eq_some_iff.1 k_l).1
    clear hP HP
    generalize ((u3.setCell ⟨b_l, 0, none⟩ (.int .u64 (U p))).setCell ⟨b_l, 1, none⟩ (.slice A_l 0 c_l)) = u4 at *
    clear u3
    refine (HC.out _ _ _ a_l.at_).mono ?_
    rintro e u5 ⟨rfl, hC⟩
    replace k_k := keep k_k hC
    replace k_l := keep k_l hC
    replace a_l := a_l.later hC
    replace hB := hB.trans (hC.mono hB.size)
    clear hC
    go_wp2_with fail
    refine wp_region_later u5.heap.size (by kernel_rfl) (by kernel_rfl) ?_
    have l_k_0 : ∀ s : Later u5.heap.size u5, s.W.cell? ⟨b_k, 0, none⟩ = some _ := fun s => s.cell (cell_at k_k 0) (Array.getElem?_eq_some_iff.1 k_k).1
    have l_k_1 : ∀ s : Later u5.heap.size u5, s.W.cell? ⟨b_k, 1, none⟩ = some _ := fun s => s.cell (cell_at k_k 1) (Array.getElem?_eq_some_iff.1 k_k).1
    have l_l_0 : ∀ s : Later u5.heap.size u5, s.W.cell? ⟨b_l, 0, none⟩ = some _ := fun s => s.cell (cell_at k_l 0) (Array.getElem?_eq_some_iff.1 k_l).1
    have l_l_1 : ∀ s : Later u5.heap.size u5, s.W.cell? ⟨b_l, 1, none⟩ = some _ := fun s => s.cell (cell_at k_l 1) (Array.getElem?_eq_some_iff.1 k_l).1
    repeat (go_big_quiet_step (first | (go_at_call 18; with_reducible exact Calls.later (Nat.le_refl _) (H2.out _ _ _ AtE.nil))))
    refine wpQuiet_nil ?_
    rintro _ ⟨s, rfl⟩
    clear l_k_0 l_k_1 l_l_0 l_l_1
    have hC := s.below
    replace k_k := keep k_k hC
    replace k_l := keep k_l hC
    replace a_l := a_l.later hC
    replace hB := hB.trans (hC.mono hB.size)
    clear hC
    go_wp2_with fail
    have HAl3 := Lib.hid (fun s : Later s.W.heap.size s.W => (a_l.later s.below).at_)
    refine wp_region_later s.W.heap.size (by kernel_rfl) (by kernel_rfl) ?_
    have l_k_0 : ∀ s : Later s.W.heap.size s.W, s.W.cell? ⟨b_k, 0, none⟩ = some _ := fun s => s.cell (cell_at k_k 0) (Array.getElem?_eq_some_iff.1 k_k).1
    have l_k_1 : ∀ s : Later s.W.heap.size s.W, s.W.cell? ⟨b_k, 1, none⟩ = some _ := fun s => s.cell (cell_at k_k 1) (Array.getElem?_eq_some_iff.1 k_k).1
    have l_l_0 : ∀ s : Later s.W.heap.size s.W, s.W.cell? ⟨b_l, 0, none⟩ = some _ := fun s => s.cell (cell_at k_l 0) (Array.getElem?_eq_some_iff.1 k_l).1
    have l_l_1 : ∀ s : Later s.W.heap.size s.W, s.W.cell? ⟨b_l, 1, none⟩ = some _ := fun s => s.cell (cell_at k_l 1) (Array.getElem?_eq_some_iff.1 k_l).1
    repeat (go_big_quiet_step (first | (go_at_call 18; with_reducible exact Calls.later (Nat.le_refl _) (HC.out _ _ _ (HAl3.out _)))))
    refine wpQuiet_nil ?_
    rintro _ ⟨s, rfl⟩
    clear l_k_0 l_k_1 l_l_0 l_l_1
    have hC := s.below
    replace k_k := keep k_k hC
    replace k_l := keep k_l hC
    replace a_l := a_l.later hC
    replace hB := hB.trans (hC.mono hB.size)
    clear hC
    go_wp2_with fail
    go_ret
    exact ⟨rfl, hB⟩

  by_cases h3 : at_ ≤ (N_l : Int)
  · obtain ⟨k, rfl⟩ : ∃ k : Nat, at_ = (k : Int) + 1 := ⟨(at_ - 1).toNat, by omega⟩
    have hkN9 : k + 1 ≤ N_l := by omega
    have htk : (L_l.take (k + 1)).length = k + 1 := by rw [List.length_take, HN_l.out]; omega
    have hdr : (L_l.drop (k + 1)).length = N_l - (k + 1) := by rw [List.length_drop, HN_l.out]
    have H2 := Lib.hid (fun A c W hA => Chained_any a b q A c (L_l.take (k + 1)) (k + 1) htk (by omega) (fun j hj => by rw [nthE_take _ _ _ hj]; exact HS_l.out j (by omega)) W hA)
    have H3 := Lib.hid (fun A c W hA => Chained_any a b (prevE q L_l (k + 1)) A c (L_l.drop (k + 1)) (N_l - (k + 1)) hdr (by omega) (fun j hj => by rw [nthE_drop]; exact HS_l.out _ (by omega)) W hA)
    have hp := chain_parts a b q L_l (k + 1) (by rw [HN_l.out]; exact hkN9)
    have hl2 := chain_le a b q (L_l.take (k + 1))
    have hl3 := chain_le a b (prevE q L_l (k + 1)) (L_l.drop (k + 1))
    have hq : prevE q L_l (k + 1) = (nthE L_l k).m := rfl
    rw [htk] at hl2
    rw [hdr] at hl3
    obtain ⟨q2, hq2⟩ : ∃ q2, prevE q L_l (k + 1) = q2 := ⟨_, rfl⟩
    rw [hq2] at H3 hp hl3 hq
    have HPrev : Hid ((nthE L_l k).m = q2) := Lib.hid hq.symm
    obtain ⟨C1, hC1⟩ : ∃ C, chainE a b q L_l = C := ⟨_, rfl⟩
    obtain ⟨C2, hC2⟩ : ∃ C, chainE a b q (L_l.take (k + 1)) = C := ⟨_, rfl⟩
    obtain ⟨C3, hC3⟩ : ∃ C, chainE a b q2 (L_l.drop (k + 1)) = C := ⟨_, rfl⟩
    rw [hC1] at HC
    rw [hC2] at H2
    rw [hC3] at H3
    rw [hC1, hC2, hC3] at hp
    rw [hC2] at hl2
    rw [hC3] at hl3
    obtain ⟨D1, hD1⟩ : ∃ D, decide (C1 = N_l) = D := ⟨_, rfl⟩
    obtain ⟨D2, hD2⟩ : ∃ D, decide (C2 = k + 1) = D := ⟨_, rfl⟩
    obtain ⟨D3, hD3⟩ : ∃ D, decide (C3 = N_l - (k + 1)) = D := ⟨_, rfl⟩
    rw [hD1] at HC
    rw [hD2] at H2
    rw [hD3] at H3
    have HNo := Lib.hid (fun h : D2 = false => show C1 = C2 ∧ C2 < k + 1 ∧ D1 = false from by
      rw [h] at hD2
      have h2 := of_decide_eq_false hD2
      rw [if_neg h2] at hp
      exact ⟨hp, by omega, by rw [← hD1]; exact decide_eq_false (by omega)⟩)
    have HYes := Lib.hid (fun h : D2 = true => show C2 = k + 1 ∧ C1 = k + 1 + C3 ∧ D1 = D3 from by
      rw [h] at hD2
      have h2 := of_decide_eq_true hD2
      rw [if_pos h2] at hp
      exact ⟨h2, hp, by rw [← hD1, ← hD3, decide_eq_decide]; omega⟩)
    clear htk hdr hp hl2 hq hq2 hC1 hC2 hC3 hD1 hD2 hD3
    go_enter Try.func5, Try.ntmps5
    have hB : Below w.heap.size w w := Below.refl _ w
    go_wp2_with fail
    have hA : Below w.heap.size w ((w.alloc (.cells #[.int .u64 (U a), .int .u64 (U b)] 24)).alloc (.cells #[.int .u64 (U p), .slice A n0_l c] 27)) := ((Below.refl _ w).alloc (Nat.le_refl _) _).alloc (by simp) _
    have hq0 := hB.size
    replace hB := hB.trans (hA.mono hB.size)
    have k_k : ((w.alloc (.cells #[.int .u64 (U a), .int .u64 (U b)] 24)).alloc (.cells #[.int .u64 (U p), .slice A n0_l c] 27)).heap[w.heap.size]? = some (.cells #[.int .u64 (U a), .int .u64 (U b)] 24 (0, 0)) := old_at (new_at _ _ _ rfl)
    have k_l : ((w.alloc (.cells #[.int .u64 (U a), .int .u64 (U b)] 24)).alloc (.cells #[.int .u64 (U p), .slice A n0_l c] 27)).heap[w.heap.size + 1]? = some (.cells #[.int .u64 (U p), .slice A n0_l c] 27 (0, 0)) := new_at _ _ _ (by simp)
    obtain ⟨b_l, hb1⟩ : ∃ b, w.heap.size + 1 = b := ⟨_, rfl⟩
    have q_l : w.heap.size ≤ b_l := by omega
    rw [hb1] at k_l ⊢
    obtain ⟨b_k, hb0⟩ : ∃ b, w.heap.size = b := ⟨_, rfl⟩
    have q_k : w.heap.size ≤ b_k := by omega
    rw [hb0] at k_k ⊢
    have lt_k_l : b_k < b_l := by omega
    clear hA hq0 hb0 hb1
    generalize ((w.alloc (.cells #[.int .u64 (U a), .int .u64 (U b)] 24)).alloc (.cells #[.int .u64 (U p), .slice A n0_l c] 27)) = u1 at *
    refine (shown_any _).mono ?_
    rintro e u2 ⟨rfl, hC⟩
    replace k_k := keep k_k hC
    replace k_l := keep k_l hC
    replace hB := hB.trans (hC.mono hB.size)
    clear hC
    have x_l_0 := cell_at k_l 0
    have x_l_1 := cell_at k_l 1
    go_wp2_with fail
    clear x_l_0 x_l_1
    refine (HF_l.out _ ((HX.out.below hB).mono hB.size)).mono ?_
    rintro e u3 ⟨hC, A_l, c_l, rfl, n_l, a_l⟩
    replace a_l := a_l.mono (show b_l + 1 ≤ _ from (Array.getElem?_eq_some_iff.1 k_l).1)
    replace k_k := keep k_k hC
    replace k_l := keep k_l hC
    replace hB := hB.trans (hC.mono hB.size)
    clear hC
    have x_l_0 := cell_at k_l 0
    have fr_0 := free_at k_l 0
    have x_l_1 := cell_at k_l 1
    have fr_1 := free_at k_l 1
    have hP : Put u3 ((u3.setCell ⟨b_l, 0, none⟩ (.int .u64 (U p))).setCell ⟨b_l, 1, none⟩ (.slice A_l N_l c_l)) b_l (.cells #[.int .u64 (U p), .slice A_l N_l c_l] 27 (0, 0)) := ((Put.refl k_l).set 0 (.int .u64 (U p))).set 1 (.slice A_l N_l c_l)
    have HP := Lib.hid hP
    clear hP
    have x_k_0 := cell_at k_k 0
    have x_k_1 := cell_at k_k 1
    go_wp2_with fail
    clear x_k_0 x_k_1
    clear x_l_0 x_l_1 fr_0 fr_1
    have hP := HP.out
    replace hB := hB.trans (hP.below (by omega))
    replace k_k := (hP.other (by omega)).trans k_k
    replace a_l := a_l.put hP (by omega)
    replace k_l := hP.get (Array.getElem?_eq_some_iff.1 k_l).1
    clear hP HP
    generalize ((u3.setCell ⟨b_l, 0, none⟩ (.int .u64 (U p))).setCell ⟨b_l, 1, none⟩ (.slice A_l N_l c_l)) = u4 at *
    clear u3
    refine (HC.out _ _ _ a_l.at_).mono ?_
    rintro e u5 ⟨rfl, hC⟩
    replace k_k := keep k_k hC
    replace k_l := keep k_l hC
    replace a_l := a_l.later hC
    replace hB := hB.trans (hC.mono hB.size)
    clear hC
    go_wp2_with fail
    obtain ⟨g_l, o_l, -, rfl, -, -, -⟩ := a_l (by rw [HN_l.out]; omega)
    have HAl2 := Lib.hid (fun s : Later u5.heap.size u5 => (a_l.later s.below).at_.take (k + 1))
    refine wp_region_later u5.heap.size (by kernel_rfl) (by kernel_rfl) ?_
    have l_k_0 : ∀ s : Later u5.heap.size u5, s.W.cell? ⟨b_k, 0, none⟩ = some _ := fun s => s.cell (cell_at k_k 0) (Array.getElem?_eq_some_iff.1 k_k).1
    have l_k_1 : ∀ s : Later u5.heap.size u5, s.W.cell? ⟨b_k, 1, none⟩ = some _ := fun s => s.cell (cell_at k_k 1) (Array.getElem?_eq_some_iff.1 k_k).1
    have l_l_0 : ∀ s : Later u5.heap.size u5, s.W.cell? ⟨b_l, 0, none⟩ = some _ := fun s => s.cell (cell_at k_l 0) (Array.getElem?_eq_some_iff.1 k_l).1
    have l_l_1 : ∀ s : Later u5.heap.size u5, s.W.cell? ⟨b_l, 1, none⟩ = some _ := fun s => s.cell (cell_at k_l 1) (Array.getElem?_eq_some_iff.1 k_l).1
    repeat (go_big_quiet_step (first | (go_at_call 18; with_reducible exact Calls.later (Nat.le_refl _) (H2.out _ _ _ (HAl2.out _)))))
    refine wpQuiet_nil ?_
    rintro _ ⟨s, rfl⟩
    clear l_k_0 l_k_1 l_l_0 l_l_1
    have hC := s.below
    replace k_k := keep k_k hC
    replace k_l := keep k_l hC
    replace a_l := a_l.later hC
    replace hB := hB.trans (hC.mono hB.size)
    clear hC
    cases D2 with
    | false =>
      have hlaw := HNo.out rfl
      obtain ⟨rfl, h9, h10⟩ := hlaw
      have h11 : decide ((C1 : Int) < (k : Int) + 1) = true := decide_eq_true (by omega)
      subst h10
      have hBk := Lib.hid hB
      go_wp2_with fail
      go_ret
      exact ⟨rfl, hBk.out⟩
    | true =>
      have hlaw := HYes.out rfl
      obtain ⟨rfl, rfl, rfl⟩ := hlaw
      obtain ⟨b9, o9, cs9, e9, -, hh9, hf9⟩ := a_l (by rw [HN_l.out]; omega)
      injection e9 with e9
      injection e9 with e8 e7 e6
      subst e8
      subst e7
      obtain ⟨-, -, -, y3⟩ := hf9 k (by rw [HN_l.out]; omega)
      rw [HPrev.out] at y3
      clear hf9 e6 hh9
      have hk0 : (0 : Int) ≤ (k : Int) := by omega
      have hkN : (k : Int) < (N_l : Int) := by omega
      have hk1 : (k : Int) + 1 ≤ (N_l : Int) := by omega
      by_cases hcap : c_l = k + 1
      · have hNk : N_l = k + 1 := by omega
        subst hNk
        subst hcap
        rw [Nat.sub_self] at H3
        have HAl3 := Lib.hid (fun (s : Later s.W.heap.size s.W) A9 => show AtE s.W s.W.heap.size A9 (L_l.drop (k + 1)) from fun h => absurd h (by rw [List.length_drop, HN_l.out]; omega))
        have x_l_0 := cell_at k_l 0
        have x_l_1 := cell_at k_l 1
        go_wp2_with fail
        clear x_l_0 x_l_1
        trace_state
        refine wp_region_later s.W.heap.size (by kernel_rfl) (by kernel_rfl) ?_
        have l_k_0 : ∀ s : Later s.W.heap.size s.W, s.W.cell? ⟨b_k, 0, none⟩ = some _ := fun s => s.cell (cell_at k_k 0) (Array.getElem?_eq_some_iff.1 k_k).1
        have l_k_1 : ∀ s : Later s.W.heap.size s.W, s.W.cell? ⟨b_k, 1, none⟩ = some _ := fun s => s.cell (cell_at k_k 1) (Array.getElem?_eq_some_iff.1 k_k).1
        have l_l_0 : ∀ s : Later s.W.heap.size s.W, s.W.cell? ⟨b_l, 0, none⟩ = some _ := fun s => s.cell (cell_at k_l 0) (Array.getElem?_eq_some_iff.1 k_l).1
        have l_l_1 : ∀ s : Later s.W.heap.size s.W, s.W.cell? ⟨b_l, 1, none⟩ = some _ := fun s => s.cell (cell_at k_l 1) (Array.getElem?_eq_some_iff.1 k_l).1
        repeat (go_big_quiet_step (first | (go_at_call 18; with_reducible exact Calls.later (Nat.le_refl _) (H3.out _ _ _ (HAl3.out _ _)))))
        refine wpQuiet_nil ?_
        rintro _ ⟨s, rfl⟩
        clear l_k_0 l_k_1 l_l_0 l_l_1
        have hC := s.below
        replace k_k := keep k_k hC
        replace k_l := keep k_l hC
        replace a_l := a_l.later hC
        replace hB := hB.trans (hC.mono hB.size)
        clear hC
        have hadd : IntKind.i64.wrap ((k : Int) + 1 + (C3 : Int)) = (k : Int) + 1 + (C3 : Int) := by rw [IntKind.wrap_i64]; omega
        go_wp2_with fail
        go_ret
        exact ⟨rfl, hB⟩
      · have HAl3 := Lib.hid (fun (s : Later s.W.heap.size s.W) => (a_l.later s.below).at_.drop (k + 1))
        have x_l_0 := cell_at k_l 0
        have x_l_1 := cell_at k_l 1
        go_wp2_with fail
        clear x_l_0 x_l_1
        trace_state
        refine wp_region_later s.W.heap.size (by kernel_rfl) (by kernel_rfl) ?_
        have l_k_0 : ∀ s : Later s.W.heap.size s.W, s.W.cell? ⟨b_k, 0, none⟩ = some _ := fun s => s.cell (cell_at k_k 0) (Array.getElem?_eq_some_iff.1 k_k).1
        have l_k_1 : ∀ s : Later s.W.heap.size s.W, s.W.cell? ⟨b_k, 1, none⟩ = some _ := fun s => s.cell (cell_at k_k 1) (Array.getElem?_eq_some_iff.1 k_k).1
        have l_l_0 : ∀ s : Later s.W.heap.size s.W, s.W.cell? ⟨b_l, 0, none⟩ = some _ := fun s => s.cell (cell_at k_l 0) (Array.getElem?_eq_some_iff.1 k_l).1
        have l_l_1 : ∀ s : Later s.W.heap.size s.W, s.W.cell? ⟨b_l, 1, none⟩ = some _ := fun s => s.cell (cell_at k_l 1) (Array.getElem?_eq_some_iff.1 k_l).1
        repeat (go_big_quiet_step (first | (go_at_call 18; with_reducible exact Calls.later (Nat.le_refl _) (H3.out _ _ _ (HAl3.out _)))))
        refine wpQuiet_nil ?_
        rintro _ ⟨s, rfl⟩
        clear l_k_0 l_k_1 l_l_0 l_l_1
        have hC := s.below
        replace k_k := keep k_k hC
        replace k_l := keep k_l hC
        replace a_l := a_l.later hC
        replace hB := hB.trans (hC.mono hB.size)
        clear hC
        have hadd : IntKind.i64.wrap ((k : Int) + 1 + (C3 : Int)) = (k : Int) + 1 + (C3 : Int) := by rw [IntKind.wrap_i64]; omega
        go_wp2_with fail
        go_ret
        exact ⟨rfl, hB⟩
  · obtain ⟨k, hk⟩ : ∃ k : Nat, N_l = k + 1 := ⟨N_l - 1, by omega⟩
    have hkN9 : k + 1 ≤ N_l := by omega
    subst hk
    have h4 : ¬ at_ ≤ (k : Int) + 1 := by omega
    have htk : (L_l.take (k + 1)).length = k + 1 := by rw [List.length_take, HN_l.out]; omega
    have hdr : (L_l.drop (k + 1)).length = (k + 1) - (k + 1) := by rw [List.length_drop, HN_l.out]
    have H2 := Lib.hid (fun A c W hA => Chained_any a b q A c (L_l.take (k + 1)) (k + 1) htk (by omega) (fun j hj => by rw [nthE_take _ _ _ hj]; exact HS_l.out j (by omega)) W hA)
    have H3 := Lib.hid (fun A c W hA => Chained_any a b (prevE q L_l (k + 1)) A c (L_l.drop (k + 1)) ((k + 1) - (k + 1)) hdr (by omega) (fun j hj => by rw [nthE_drop]; exact HS_l.out _ (by omega)) W hA)
    have hp := chain_parts a b q L_l (k + 1) (by rw [HN_l.out]; exact hkN9)
    have hl2 := chain_le a b q (L_l.take (k + 1))
    have hl3 := chain_le a b (prevE q L_l (k + 1)) (L_l.drop (k + 1))
    have hq : prevE q L_l (k + 1) = (nthE L_l k).m := rfl
    rw [htk] at hl2
    rw [hdr] at hl3
    obtain ⟨q2, hq2⟩ : ∃ q2, prevE q L_l (k + 1) = q2 := ⟨_, rfl⟩
    rw [hq2] at H3 hp hl3 hq
    have HPrev : Hid ((nthE L_l k).m = q2) := Lib.hid hq.symm
    obtain ⟨C1, hC1⟩ : ∃ C, chainE a b q L_l = C := ⟨_, rfl⟩
    obtain ⟨C2, hC2⟩ : ∃ C, chainE a b q (L_l.take (k + 1)) = C := ⟨_, rfl⟩
    obtain ⟨C3, hC3⟩ : ∃ C, chainE a b q2 (L_l.drop (k + 1)) = C := ⟨_, rfl⟩
    rw [hC1] at HC
    rw [hC2] at H2
    rw [hC3] at H3
    rw [hC1, hC2, hC3] at hp
    rw [hC2] at hl2
    rw [hC3] at hl3
    obtain ⟨D1, hD1⟩ : ∃ D, decide (C1 = (k + 1)) = D := ⟨_, rfl⟩
    obtain ⟨D2, hD2⟩ : ∃ D, decide (C2 = k + 1) = D := ⟨_, rfl⟩
    obtain ⟨D3, hD3⟩ : ∃ D, decide (C3 = (k + 1) - (k + 1)) = D := ⟨_, rfl⟩
    rw [hD1] at HC
    rw [hD2] at H2
    rw [hD3] at H3
    have HNo := Lib.hid (fun h : D2 = false => show C1 = C2 ∧ C2 < k + 1 ∧ D1 = false from by
      rw [h] at hD2
      have h2 := of_decide_eq_false hD2
      rw [if_neg h2] at hp
      exact ⟨hp, by omega, by rw [← hD1]; exact decide_eq_false (by omega)⟩)
    have HYes := Lib.hid (fun h : D2 = true => show C2 = k + 1 ∧ C1 = k + 1 + C3 ∧ D1 = D3 from by
      rw [h] at hD2
      have h2 := of_decide_eq_true hD2
      rw [if_pos h2] at hp
      exact ⟨h2, hp, by rw [← hD1, ← hD3, decide_eq_decide]; omega⟩)
    clear htk hdr hp hl2 hq hq2 hC1 hC2 hC3 hD1 hD2 hD3
    rw [Nat.sub_self] at H3
    go_enter Try.func5, Try.ntmps5
    have hB : Below w.heap.size w w := Below.refl _ w
    go_wp2_with fail
    have hA : Below w.heap.size w ((w.alloc (.cells #[.int .u64 (U a), .int .u64 (U b)] 24)).alloc (.cells #[.int .u64 (U p), .slice A n0_l c] 27)) := ((Below.refl _ w).alloc (Nat.le_refl _) _).alloc (by simp) _
    have hq0 := hB.size
    replace hB := hB.trans (hA.mono hB.size)
    have k_k : ((w.alloc (.cells #[.int .u64 (U a), .int .u64 (U b)] 24)).alloc (.cells #[.int .u64 (U p), .slice A n0_l c] 27)).heap[w.heap.size]? = some (.cells #[.int .u64 (U a), .int .u64 (U b)] 24 (0, 0)) := old_at (new_at _ _ _ rfl)
    have k_l : ((w.alloc (.cells #[.int .u64 (U a), .int .u64 (U b)] 24)).alloc (.cells #[.int .u64 (U p), .slice A n0_l c] 27)).heap[w.heap.size + 1]? = some (.cells #[.int .u64 (U p), .slice A n0_l c] 27 (0, 0)) := new_at _ _ _ (by simp)
    obtain ⟨b_l, hb1⟩ : ∃ b, w.heap.size + 1 = b := ⟨_, rfl⟩
    have q_l : w.heap.size ≤ b_l := by omega
    rw [hb1] at k_l ⊢
    obtain ⟨b_k, hb0⟩ : ∃ b, w.heap.size = b := ⟨_, rfl⟩
    have q_k : w.heap.size ≤ b_k := by omega
    rw [hb0] at k_k ⊢
    have lt_k_l : b_k < b_l := by omega
    clear hA hq0 hb0 hb1
    generalize ((w.alloc (.cells #[.int .u64 (U a), .int .u64 (U b)] 24)).alloc (.cells #[.int .u64 (U p), .slice A n0_l c] 27)) = u1 at *
    refine (shown_any _).mono ?_
    rintro e u2 ⟨rfl, hC⟩
    replace k_k := keep k_k hC
    replace k_l := keep k_l hC
    replace hB := hB.trans (hC.mono hB.size)
    clear hC
    have x_l_0 := cell_at k_l 0
    have x_l_1 := cell_at k_l 1
    go_wp2_with fail
    clear x_l_0 x_l_1
    refine (HF_l.out _ ((HX.out.below hB).mono hB.size)).mono ?_
    rintro e u3 ⟨hC, A_l, c_l, rfl, n_l, a_l⟩
    replace a_l := a_l.mono (show b_l + 1 ≤ _ from (Array.getElem?_eq_some_iff.1 k_l).1)
    replace k_k := keep k_k hC
    replace k_l := keep k_l hC
    replace hB := hB.trans (hC.mono hB.size)
    clear hC
    have x_l_0 := cell_at k_l 0
    have fr_0 := free_at k_l 0
    have x_l_1 := cell_at k_l 1
    have fr_1 := free_at k_l 1
    have hP : Put u3 ((u3.setCell ⟨b_l, 0, none⟩ (.int .u64 (U p))).setCell ⟨b_l, 1, none⟩ (.slice A_l (k + 1) c_l)) b_l (.cells #[.int .u64 (U p), .slice A_l (k + 1) c_l] 27 (0, 0)) := ((Put.refl k_l).set 0 (.int .u64 (U p))).set 1 (.slice A_l (k + 1) c_l)
    have HP := Lib.hid hP
    clear hP
    have x_k_0 := cell_at k_k 0
    have x_k_1 := cell_at k_k 1
    go_wp2_with fail
    clear x_k_0 x_k_1
    clear x_l_0 x_l_1 fr_0 fr_1
    have hP := HP.out
    replace hB := hB.trans (hP.below (by omega))
    replace k_k := (hP.other (by omega)).trans k_k
    replace a_l := a_l.put hP (by omega)
    replace k_l := hP.get (Array.getElem?_eq_some_iff.1 k_l).1
    clear hP HP
    generalize ((u3.setCell ⟨b_l, 0, none⟩ (.int .u64 (U p))).setCell ⟨b_l, 1, none⟩ (.slice A_l (k + 1) c_l)) = u4 at *
    clear u3
    refine (HC.out _ _ _ a_l.at_).mono ?_
    rintro e u5 ⟨rfl, hC⟩
    replace k_k := keep k_k hC
    replace k_l := keep k_l hC
    replace a_l := a_l.later hC
    replace hB := hB.trans (hC.mono hB.size)
    clear hC
    go_wp2_with fail
    obtain ⟨g_l, o_l, -, rfl, -, -, -⟩ := a_l (by rw [HN_l.out]; omega)
    have HAl2 := Lib.hid (fun s : Later u5.heap.size u5 => (a_l.later s.below).at_.take (k + 1))
    refine wp_region_later u5.heap.size (by kernel_rfl) (by kernel_rfl) ?_
    have l_k_0 : ∀ s : Later u5.heap.size u5, s.W.cell? ⟨b_k, 0, none⟩ = some _ := fun s => s.cell (cell_at k_k 0) (Array.getElem?_eq_some_iff.1 k_k).1
    have l_k_1 : ∀ s : Later u5.heap.size u5, s.W.cell? ⟨b_k, 1, none⟩ = some _ := fun s => s.cell (cell_at k_k 1) (Array.getElem?_eq_some_iff.1 k_k).1
    have l_l_0 : ∀ s : Later u5.heap.size u5, s.W.cell? ⟨b_l, 0, none⟩ = some _ := fun s => s.cell (cell_at k_l 0) (Array.getElem?_eq_some_iff.1 k_l).1
    have l_l_1 : ∀ s : Later u5.heap.size u5, s.W.cell? ⟨b_l, 1, none⟩ = some _ := fun s => s.cell (cell_at k_l 1) (Array.getElem?_eq_some_iff.1 k_l).1
    repeat (go_big_quiet_step (first | (go_at_call 18; with_reducible exact Calls.later (Nat.le_refl _) (H2.out _ _ _ (HAl2.out _)))))
    refine wpQuiet_nil ?_
    rintro _ ⟨s, rfl⟩
    clear l_k_0 l_k_1 l_l_0 l_l_1
    have hC := s.below
    replace k_k := keep k_k hC
    replace k_l := keep k_l hC
    replace a_l := a_l.later hC
    replace hB := hB.trans (hC.mono hB.size)
    clear hC
    cases D2 with
    | false =>
      have hlaw := HNo.out rfl
      obtain ⟨rfl, h9, h10⟩ := hlaw
      have h11 : decide ((C1 : Int) < (k : Int) + 1) = true := decide_eq_true (by omega)
      subst h10
      have hBk := Lib.hid hB
      go_wp2_with fail
      go_ret
      exact ⟨rfl, hBk.out⟩
    | true =>
      have hlaw := HYes.out rfl
      obtain ⟨rfl, rfl, rfl⟩ := hlaw
      obtain ⟨b9, o9, cs9, e9, -, hh9, hf9⟩ := a_l (by rw [HN_l.out]; omega)
      injection e9 with e9
      injection e9 with e8 e7 e6
      subst e8
      subst e7
      obtain ⟨-, -, -, y3⟩ := hf9 k (by rw [HN_l.out]; omega)
      rw [HPrev.out] at y3
      clear hf9 e6 hh9
      have hk0 : (0 : Int) ≤ (k : Int) := by omega
      have hkN : (k : Int) < ((k + 1) : Int) := by omega
      have hk1 : (k : Int) + 1 ≤ ((k + 1) : Int) := by omega
      by_cases hcap : c_l = k + 1
      · subst hcap
        have HAl3 := Lib.hid (fun (s : Later s.W.heap.size s.W) A9 => show AtE s.W s.W.heap.size A9 (L_l.drop (k + 1)) from fun h => absurd h (by rw [List.length_drop, HN_l.out]; omega))
        have x_l_0 := cell_at k_l 0
        have x_l_1 := cell_at k_l 1
        go_wp2_with fail
        clear x_l_0 x_l_1
        trace_state
        refine wp_region_later s.W.heap.size (by kernel_rfl) (by kernel_rfl) ?_
        have l_k_0 : ∀ s : Later s.W.heap.size s.W, s.W.cell? ⟨b_k, 0, none⟩ = some _ := fun s => s.cell (cell_at k_k 0) (Array.getElem?_eq_some_iff.1 k_k).1
        have l_k_1 : ∀ s : Later s.W.heap.size s.W, s.W.cell? ⟨b_k, 1, none⟩ = some _ := fun s => s.cell (cell_at k_k 1) (Array.getElem?_eq_some_iff.1 k_k).1
        have l_l_0 : ∀ s : Later s.W.heap.size s.W, s.W.cell? ⟨b_l, 0, none⟩ = some _ := fun s => s.cell (cell_at k_l 0) (Array.getElem?_eq_some_iff.1 k_l).1
        have l_l_1 : ∀ s : Later s.W.heap.size s.W, s.W.cell? ⟨b_l, 1, none⟩ = some _ := fun s => s.cell (cell_at k_l 1) (Array.getElem?_eq_some_iff.1 k_l).1
        repeat (go_big_quiet_step (first | (go_at_call 18; with_reducible exact Calls.later (Nat.le_refl _) (H3.out _ _ _ (HAl3.out _ _)))))
        refine wpQuiet_nil ?_
        rintro _ ⟨s, rfl⟩
        clear l_k_0 l_k_1 l_l_0 l_l_1
        have hC := s.below
        replace k_k := keep k_k hC
        replace k_l := keep k_l hC
        replace a_l := a_l.later hC
        replace hB := hB.trans (hC.mono hB.size)
        clear hC
        have hadd : IntKind.i64.wrap ((k : Int) + 1 + (C3 : Int)) = (k : Int) + 1 + (C3 : Int) := by rw [IntKind.wrap_i64]; omega
        go_wp2_with fail
        go_ret
        exact ⟨rfl, hB⟩
      · have HAl3 := Lib.hid (fun (s : Later s.W.heap.size s.W) => (a_l.later s.below).at_.drop (k + 1))
        have x_l_0 := cell_at k_l 0
        have x_l_1 := cell_at k_l 1
        go_wp2_with fail
        clear x_l_0 x_l_1
        trace_state
        refine wp_region_later s.W.heap.size (by kernel_rfl) (by kernel_rfl) ?_
        have l_k_0 : ∀ s : Later s.W.heap.size s.W, s.W.cell? ⟨b_k, 0, none⟩ = some _ := fun s => s.cell (cell_at k_k 0) (Array.getElem?_eq_some_iff.1 k_k).1
        have l_k_1 : ∀ s : Later s.W.heap.size s.W, s.W.cell? ⟨b_k, 1, none⟩ = some _ := fun s => s.cell (cell_at k_k 1) (Array.getElem?_eq_some_iff.1 k_k).1
        have l_l_0 : ∀ s : Later s.W.heap.size s.W, s.W.cell? ⟨b_l, 0, none⟩ = some _ := fun s => s.cell (cell_at k_l 0) (Array.getElem?_eq_some_iff.1 k_l).1
        have l_l_1 : ∀ s : Later s.W.heap.size s.W, s.W.cell? ⟨b_l, 1, none⟩ = some _ := fun s => s.cell (cell_at k_l 1) (Array.getElem?_eq_some_iff.1 k_l).1
        repeat (go_big_quiet_step (first | (go_at_call 18; with_reducible exact Calls.later (Nat.le_refl _) (H3.out _ _ _ (HAl3.out _)))))
        refine wpQuiet_nil ?_
        rintro _ ⟨s, rfl⟩
        clear l_k_0 l_k_1 l_l_0 l_l_1
        have hC := s.below
        replace k_k := keep k_k hC
        replace k_l := keep k_l hC
        replace a_l := a_l.later hC
        replace hB := hB.trans (hC.mono hB.size)
        clear hC
        have hadd : IntKind.i64.wrap ((k : Int) + 1 + (C3 : Int)) = (k : Int) + 1 + (C3 : Int) := by rw [IntKind.wrap_i64]; omega
        go_wp2_with fail
        go_ret
        exact ⟨rfl, hB⟩

end Go.Proofs.Ytdhbomipffidlaa
