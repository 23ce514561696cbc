/-
  The walk of the statement on what is made.
-/
import Derived.Test.YtlehjbfhhikpiaaCmsJ
namespace Go.Proofs.Ytlehjbfhhikpiaa
open Go.RowKit

theorem take_len (l : List (BitVec 64)) : (l.take 200).length = min l.length 200 := by rw [List.length_take]; omega
theorem sameF_self (R C : Int) (l : List (BitVec 64)) : sameF R C R C l l = true := by simp [sameF]

theorem at_later {w : World} {A : Option Addr} {l : List (BitVec 64)} (h : At w w.heap.size A l) (s : Later w.heap.size w) : At s.W s.W.heap.size A l := (h.below s.below).mono s.below.size
theorem Count_later (R C : Int) (A : Option Addr) (c : Nat) (l : List (BitVec 64)) (x : BitVec 64) (w : World) (hA : At w w.heap.size A l) : Calls Try.prog 21 #[.agg #[.int .i64 R, .int .i64 C, .slice A l.length c], .int .u64 (U x)] w fun e w' =>
    e = .returned (.int .u64 (U (countAt R C x l))) ∧ Below w.heap.size w w' := (Count_any R C A c l x w hA).mono fun _ _ h => ⟨h.2, h.1⟩
theorem refCount_later (R C : Int) (A : Option Addr) (c : Nat) (l : List (BitVec 64)) (x : BitVec 64) (w : World) (hA : At w w.heap.size A l) : Calls Try.prog 22 #[.agg #[.int .i64 R, .int .i64 C, .slice A l.length c], .int .u64 (U x)] w fun e w' =>
    e = .returned (.int .u64 (U (countAt R C x l))) ∧ Below w.heap.size w w' := (refCount_any R C A c l x w hA).mono fun _ _ h => ⟨h.2, h.1⟩
theorem same_later (R C : Int) (A A' : Option Addr) (c c' : Nat) (l : List (BitVec 64)) (hl : l.length ≤ 65536) (w : World) (hA : At w w.heap.size A l) (hA' : At w w.heap.size A' l) :
    Calls Try.prog 18 #[.agg #[.int .i64 R, .int .i64 C, .slice A l.length c], .agg #[.int .i64 R, .int .i64 C, .slice A' l.length c']] w fun e w' => e = .returned (.bool true) ∧ Below w.heap.size w w' := by
  have h := refSame_any R C R C A A' c c' l l hl w hA hA'
  rw [sameF_self] at h
  exact h

set_option maxRecDepth 100000 in
set_option maxHeartbeats 4000000 in
theorem walk_CmsMakes {w : World} (R C : Int) (A : Option Addr) (c : Nat) (l : List (BitVec 64)) (hlc : l.length ≤ c) (hA : At w w.heap.size A l) (rows cols : Int) (x m : BitVec 64) :
    Calls Try.prog 3 #[.agg #[.int .i64 R, .int .i64 C, .slice A l.length c], .int .i64 rows, .int .i64 cols, .int .u64 (U x), .int .u64 (U m)] w fun e w' => e = .returned (.bool true) ∧ Below w.heap.size w w' := by
  have hfew := fun w => few_any R C A l.length c hlc w
  have htl := take_len l
  have hAt := hA.take 200
  have ht2 : (l.take 200).length ≤ 65536 := by omega
  obtain ⟨L, hL⟩ : ∃ L, l.take 200 = L := ⟨_, rfl⟩
  rw [hL] at htl hAt ht2
  simp only [← htl] at hfew
  clear hL htl hA hlc
  have HFew := Lib.hid hfew
  clear hfew
  go_enter Try.func3, Try.ntmps3
  go_wp2_with fail
  refine (shown_any _).mono ?_
  rintro e w1 ⟨rfl, hB1⟩
  obtain ⟨k0, k1, k2, hBw1⟩ := box3 hB1
  have kx : w1.heap[w.heap.size]? = some (.cells #[.int .i64 R, .int .i64 C, .slice A l.length c] 24) := (hB1.block _ (by simp)).trans (new_at _ _ _ rfl)
  have hs1 : w.heap.size + 1 ≤ w1.heap.size := by have := hB1.size; simp at this; omega
  clear hB1
  go_wp2_with fail
  refine (HFew.out _).mono ?_
  rintro e w2 ⟨rfl, hB2⟩
  have kx2 := (hB2.block w.heap.size (by omega)).trans kx
  have hBw2 := hBw1.trans (hB2.mono (by omega))
  have hs2 : w.heap.size + 1 ≤ w2.heap.size := by have := hB2.size; omega
  clear k0 k1 k2 kx hB2 hBw1 hs1
  have c0 := cell_at kx2 0
  have c1 := cell_at kx2 1
  have c2 := cell_at kx2 2
  have f0 := free_at kx2 0
  have f1 := free_at kx2 1
  have f2 := free_at kx2 2
  have hP := (((Put.refl kx2).set 0 (.int .i64 R)).set 1 (.int .i64 C)).set 2 (.slice A L.length c)
  have HP := Lib.hid hP
  clear hP
  go_wp2_with fail
  refine abs_call (fun u => Below w.heap.size w u ∧ w.heap.size + 1 ≤ u.heap.size ∧ u.heap[w.heap.size]? = some (.cells #[.int .i64 R, .int .i64 C, .slice A L.length c] 24)) ⟨hBw2.trans (HP.out.below (Nat.le_refl _)), by rw [HP.out.size]; exact hs2, HP.out.get (by omega)⟩ ?_
  rintro w3 ⟨hB3, hs3, kx3⟩
  clear c0 c1 c2 f0 f1 f2 HP kx2 hBw2 hs2
  refine (New_gives rows cols _).mono ?_
  rintro e w4 ⟨hB4, A4, c4, rfl, h4⟩
  have hN := newF_length rows cols
  obtain ⟨N, hNe⟩ : ∃ N, newF rows cols = N := ⟨_, rfl⟩
  rw [hNe] at h4 hN ⊢
  have HNe := Lib.hid hNe
  clear hNe
  have kx4 := (hB4.block w.heap.size (by omega)).trans kx3
  have hBw4 := hB3.trans (hB4.mono (by omega))
  have hs4 : w.heap.size + 1 ≤ w4.heap.size := by have := hB4.size; omega
  clear kx3 hB3 hB4
  go_wp2_with fail
  refine (refNew_gives rows cols _).mono ?_
  rintro e w5 ⟨hB5, A5, c5, rfl, h5⟩
  rw [HNe.out] at h5 ⊢
  have kx5 := (hB5.block w.heap.size (by simp; omega)).trans (old_at kx4)
  have ka5 := (hB5.block w4.heap.size (by simp)).trans (new_at w4 _ _ rfl)
  have h45 := (h4.below ((Below.refl w4.heap.size w4).alloc (Nat.le_refl _) (.cells #[.int .i64 N.R, .int .i64 N.C, .slice A4 N.l.length c4] 24))).below (hB5.mono (by simp))
  have hBw5 : Below w.heap.size w w5 := (hBw4.alloc hBw4.size _).trans (hB5.mono (by simp; omega))
  have hs5 : w4.heap.size + 1 ≤ w5.heap.size := by have := hB5.size; simp at this; omega
  clear kx4 h4 hB5 hBw4 HNe
  obtain ⟨B4, hB4⟩ : ∃ b, w4.heap.size = b := ⟨_, rfl⟩
  rw [hB4] at ka5 h45 hs5 hs4 ⊢
  clear hB4
  have cx0 := old_cell (cell_at kx5 0)
  have cx1 := old_cell (cell_at kx5 1)
  have cx2 := old_cell (cell_at kx5 2)
  go_wp2_with fail
  have hL6 := (hAt.below hBw5).mono (B' := w5.heap.size) (by omega)
  refine (Add_gives R C A c L x m _ ((hL6.below ((Below.refl _ w5).alloc (Nat.le_refl _) (.cells #[.int .i64 N.R, .int .i64 N.C, .slice A5 N.l.length c5] 24))).mono (by simp))).mono ?_
  rintro e w6 ⟨hB6, A6, c6, rfl, h6⟩
  have hM := addR_length R C x m L ht2
  obtain ⟨M, hMe⟩ : ∃ M, addR R C x m L = M := ⟨_, rfl⟩
  rw [hMe] at h6 hM ⊢
  have HMe := Lib.hid hMe
  have kx6 := (hB6.block w.heap.size (by simp; omega)).trans (old_at kx5)
  have ka6 := (hB6.block B4 (by simp; omega)).trans (old_at ka5)
  have kb6 := (hB6.block w5.heap.size (by simp)).trans (new_at w5 _ _ rfl)
  have hBn : Below w5.heap.size w5 w6 := ((Below.refl w5.heap.size w5).alloc (Nat.le_refl _) _).trans (hB6.mono (by simp))
  have h46 := h45.below (hBn.mono (by omega))
  have h56 := h5.below hBn
  have hBw6 := hBw5.trans (hBn.mono (by omega))
  have hs6 : w5.heap.size + 1 ≤ w6.heap.size := by have := hB6.size; simp at this; omega
  clear hMe cx0 cx1 cx2 kx5 ka5 h45 h5 hBw5 hB6 hBn hL6
  obtain ⟨B5, hB5⟩ : ∃ b, w5.heap.size = b := ⟨_, rfl⟩
  rw [hB5] at kb6 h56 hs6 hs5 ⊢
  clear hB5
  have cx0 := old_cell (cell_at kx6 0)
  have cx1 := old_cell (cell_at kx6 1)
  have cx2 := old_cell (cell_at kx6 2)
  go_wp2_with fail
  have hL7 := (hAt.below hBw6).mono (B' := w6.heap.size) (by omega)
  refine (refAdd_gives R C A c L x m _ ((hL7.below ((Below.refl _ w6).alloc (Nat.le_refl _) (.cells #[.int .i64 M.R, .int .i64 M.C, .slice A6 M.l.length c6] 24))).mono (by simp))).mono ?_
  rintro e w7 ⟨hB7, A7, c7, rfl, h7⟩
  rw [HMe.out] at h7 ⊢
  have kx7 := (hB7.block w.heap.size (by simp; omega)).trans (old_at kx6)
  have ka7 := (hB7.block B4 (by simp; omega)).trans (old_at ka6)
  have kb7 := (hB7.block B5 (by simp; omega)).trans (old_at kb6)
  have kc7 := (hB7.block w6.heap.size (by simp)).trans (new_at w6 _ _ rfl)
  have hBn : Below w6.heap.size w6 w7 := ((Below.refl w6.heap.size w6).alloc (Nat.le_refl _) _).trans (hB7.mono (by simp))
  have h47 := h46.below (hBn.mono (by omega))
  have h57 := h56.below (hBn.mono (by omega))
  have h67 := h6.below hBn
  have hBw7 := hBw6.trans (hBn.mono (by omega))
  have hs7 : w6.heap.size + 1 ≤ w7.heap.size := by have := hB7.size; simp at this; omega
  clear HMe cx0 cx1 cx2 kx6 ka6 kb6 h46 h56 h6 hBw6 hB7 hBn hL7
  obtain ⟨B6, hB6⟩ : ∃ b, w6.heap.size = b := ⟨_, rfl⟩
  rw [hB6] at kc7 h67 hs7 hs6 ⊢
  clear hB6
  go_wp2_with fail
  have hkx := old_at (o := .cells #[.int .i64 M.R, .int .i64 M.C, .slice A7 M.l.length c7] 24) kx7
  have hka := old_at (o := .cells #[.int .i64 M.R, .int .i64 M.C, .slice A7 M.l.length c7] 24) ka7
  have hkb := old_at (o := .cells #[.int .i64 M.R, .int .i64 M.C, .slice A7 M.l.length c7] 24) kb7
  have hkc := old_at (o := .cells #[.int .i64 M.R, .int .i64 M.C, .slice A7 M.l.length c7] 24) kc7
  have hkd := new_at w7 (.cells #[.int .i64 M.R, .int .i64 M.C, .slice A7 M.l.length c7] 24) _ rfl
  have hBe : Below w7.heap.size w7 (w7.alloc (.cells #[.int .i64 M.R, .int .i64 M.C, .slice A7 M.l.length c7] 24)) := (Below.refl _ w7).alloc (Nat.le_refl _) _
  obtain ⟨B7, hB7⟩ : ∃ b, w7.heap.size = b := ⟨_, rfl⟩
  have hz : (w7.alloc (.cells #[.int .i64 M.R, .int .i64 M.C, .slice A7 M.l.length c7] 24)).heap.size = B7 + 1 := by rw [← hB7]; simp
  have h4z := (h47.below (hBe.mono (by omega))).mono (B' := B7 + 1) (by omega)
  have h5z := (h57.below (hBe.mono (by omega))).mono (B' := B7 + 1) (by omega)
  have h6z := (h67.below (hBe.mono (by omega))).mono (B' := B7 + 1) (by omega)
  have h7z := (h7.below hBe).mono (B' := B7 + 1) (by omega)
  have hLz := ((hAt.below hBw7).below (hBe.mono (by omega))).mono (B' := B7 + 1) (by omega)
  have hBwz := hBw7.trans (hBe.mono (by omega))
  rw [hB7] at hkd hs7 ⊢
  clear hB7 kx7 ka7 kb7 kc7 h47 h57 h67 h7 hBw7 hBe hAt
  generalize w7.alloc (.cells #[.int .i64 M.R, .int .i64 M.C, .slice A7 M.l.length c7] 24) = W at *
  rw [← hz] at h4z h5z h6z h7z hLz
  have qx : w.heap.size < W.heap.size := by omega
  have qa : B4 < W.heap.size := by omega
  have qb : B5 < W.heap.size := by omega
  have qc : B6 < W.heap.size := by omega
  have qd : B7 < W.heap.size := by omega
  refine wp_region_later W.heap.size (by kernel_rfl) (by kernel_rfl) ?_
  have lx0 : ∀ s : Later W.heap.size W, s.W.cell? ⟨w.heap.size, 0, none⟩ = some _ := fun s => s.cell (cell_at hkx 0) qx
  have lx1 : ∀ s : Later W.heap.size W, s.W.cell? ⟨w.heap.size, 1, none⟩ = some _ := fun s => s.cell (cell_at hkx 1) qx
  have lx2 : ∀ s : Later W.heap.size W, s.W.cell? ⟨w.heap.size, 2, none⟩ = some _ := fun s => s.cell (cell_at hkx 2) qx
  have la0 : ∀ s : Later W.heap.size W, s.W.cell? ⟨B4, 0, none⟩ = some _ := fun s => s.cell (cell_at hka 0) qa
  have la1 : ∀ s : Later W.heap.size W, s.W.cell? ⟨B4, 1, none⟩ = some _ := fun s => s.cell (cell_at hka 1) qa
  have la2 : ∀ s : Later W.heap.size W, s.W.cell? ⟨B4, 2, none⟩ = some _ := fun s => s.cell (cell_at hka 2) qa
  have lb0 : ∀ s : Later W.heap.size W, s.W.cell? ⟨B5, 0, none⟩ = some _ := fun s => s.cell (cell_at hkb 0) qb
  have lb1 : ∀ s : Later W.heap.size W, s.W.cell? ⟨B5, 1, none⟩ = some _ := fun s => s.cell (cell_at hkb 1) qb
  have lb2 : ∀ s : Later W.heap.size W, s.W.cell? ⟨B5, 2, none⟩ = some _ := fun s => s.cell (cell_at hkb 2) qb
  have lc0 : ∀ s : Later W.heap.size W, s.W.cell? ⟨B6, 0, none⟩ = some _ := fun s => s.cell (cell_at hkc 0) qc
  have lc1 : ∀ s : Later W.heap.size W, s.W.cell? ⟨B6, 1, none⟩ = some _ := fun s => s.cell (cell_at hkc 1) qc
  have lc2 : ∀ s : Later W.heap.size W, s.W.cell? ⟨B6, 2, none⟩ = some _ := fun s => s.cell (cell_at hkc 2) qc
  have ld0 : ∀ s : Later W.heap.size W, s.W.cell? ⟨B7, 0, none⟩ = some _ := fun s => s.cell (cell_at hkd 0) qd
  have ld1 : ∀ s : Later W.heap.size W, s.W.cell? ⟨B7, 1, none⟩ = some _ := fun s => s.cell (cell_at hkd 1) qd
  have ld2 : ∀ s : Later W.heap.size W, s.W.cell? ⟨B7, 2, none⟩ = some _ := fun s => s.cell (cell_at hkd 2) qd
  clear hkx hka hkb hkc hkd hz HFew
  repeat (go_big_quiet_step (first | (go_at_call 16; with_reducible exact Calls.later (Nat.le_refl _) (right_any R C A L.length c _)) | (go_at_call 17; with_reducible exact Calls.later (Nat.le_refl _) (refRight_any R C A L.length c _)) | (go_at_call 18; with_reducible exact Calls.later (Nat.le_refl _) (same_later N.R N.C A4 A5 c4 c5 N.l hN _ (at_later h4z _) (at_later h5z _))) | (go_at_call 18; with_reducible exact Calls.later (Nat.le_refl _) (same_later M.R M.C A6 A7 c6 c7 M.l hM _ (at_later h6z _) (at_later h7z _))) | (go_at_call 19; with_reducible exact Calls.later (Nat.le_refl _) (Col_any R C A L.length c rows x _)) | (go_at_call 20; with_reducible exact Calls.later (Nat.le_refl _) (refCol_any R C A L.length c rows x _)) | (go_at_call 21; with_reducible exact Calls.later (Nat.le_refl _) (Count_later R C A c L x _ (at_later hLz _))) | (go_at_call 22; with_reducible exact Calls.later (Nat.le_refl _) (refCount_later R C A c L x _ (at_later hLz _)))))
  refine wpQuiet_nil ?_
  rintro _ ⟨u, rfl⟩
  clear lx0 lx1 lx2 la0 la1 la2 lb0 lb1 lb2 lc0 lc1 lc2 ld0 ld1 ld2
  go_wp2_with fail
  go_ret
  exact ⟨rfl, hBwz.trans (u.below.mono (by omega))⟩
end Go.Proofs.Ytlehjbfhhikpiaa
