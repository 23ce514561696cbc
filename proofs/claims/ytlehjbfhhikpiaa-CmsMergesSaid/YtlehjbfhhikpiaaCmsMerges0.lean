/-
  The walk of the statement on what is merged and lowered.
-/
import Derived.Test.YtlehjbfhhikpiaaCmsQ
import Derived.Test.YtlehjbfhhikpiaaCmsMakes0
namespace Go.Proofs.Ytlehjbfhhikpiaa
open Go.RowKit

theorem pickCt_length (b : Bool) (t : Ct) (h : t.l.length ≤ 65536) : (pickCt b t).l.length ≤ 65536 := by
  unfold pickCt
  split
  · exact h
  · simp
theorem mergeR_length (R C : Int) (l : List (BitVec 64)) (R' C' : Int) (l' : List (BitVec 64)) : (mergeR R C l R' C' l').l.length ≤ 65536 := by
  unfold mergeR
  cases hok : mergeOk R C l R' C' l' with
  | false => simp [pickCt]
  | true =>
    refine pickCt_length _ _ ?_
    unfold mergeOk at hok
    simp only [Bool.and_eq_true] at hok
    obtain ⟨r, k, rfl, rfl, hr, hr4, hk, hn⟩ := isRight_out hok.1.1.1
    show (joinTo _ _ _).length ≤ 65536
    rw [joinTo_length, Int.toNat_natCast, Int.toNat_natCast]
    exact Nat.le_trans (Nat.mul_le_mul hr4 (show k ≤ 32 by omega)) (by omega)
theorem lowerR_length (R C : Int) (l : List (BitVec 64)) : (lowerR R C l).l.length ≤ 65536 := by
  unfold lowerR
  cases hok : (isRight R C l.length && !(C == 4)) with
  | false => simp [pickCt]
  | true =>
    refine pickCt_length _ _ ?_
    simp only [Bool.and_eq_true] at hok
    obtain ⟨r, k, rfl, rfl, hr, hr4, hk, hn⟩ := isRight_out hok.1
    show (joinTo _ _ _).length ≤ 65536
    rw [joinTo_length, Int.toNat_natCast, Int.toNat_natCast]
    exact Nat.le_trans (Nat.mul_le_mul hr4 (show k / 2 ≤ 32 by omega)) (by omega)
theorem psame_self (R C : Int) (A A' : Option Addr) (c c' : Nat) (l : List (BitVec 64)) (hl : l.length ≤ 65536) (w : World) (hA : At w w.heap.size A l) (hA' : At w w.heap.size A' l) :
    Calls Try.prog 27 #[.agg #[.int .i64 R, .int .i64 C, .slice A l.length c], .agg #[.int .i64 R, .int .i64 C, .slice A' l.length c']] w fun e w' => e = .returned (.bool true) ∧ Below w.heap.size w w' := by
  have h := Same_any R C R C A A' c c' l l hl w hA hA'
  rw [sameF_self] at h
  exact h

set_option maxRecDepth 100000 in
set_option maxHeartbeats 4000000 in
theorem walk_CmsMerges {w : World} (R C : Int) (A : Option Addr) (c : Nat) (l : List (BitVec 64)) (hlc : l.length ≤ c) (hA : At w w.heap.size A l) (R' C' : Int) (A' : Option Addr) (c' : Nat) (l' : List (BitVec 64)) (hlc' : l'.length ≤ c') (hA' : At w w.heap.size A' l') :
    Calls Try.prog 8 #[.agg #[.int .i64 R, .int .i64 C, .slice A l.length c], .agg #[.int .i64 R', .int .i64 C', .slice A' l'.length c']] w fun e w' => e = .returned (.bool true) ∧ Below w.heap.size w w' := by
  have hfew := fun w => few_any R C A l.length c hlc w
  have hfew' := fun w => few_any R' C' A' l'.length c' hlc' w
  have htl := take_len l
  have htl' := take_len l'
  have hAt := hA.take 200
  have hAt' := hA'.take 200
  have ht2 : (l.take 200).length ≤ 65536 := by omega
  have ht2' : (l'.take 200).length ≤ 65536 := by omega
  obtain ⟨L, hL⟩ : ∃ L, l.take 200 = L := ⟨_, rfl⟩
  obtain ⟨L', hL'⟩ : ∃ L', l'.take 200 = L' := ⟨_, rfl⟩
  rw [hL] at htl hAt ht2
  rw [hL'] at htl' hAt' ht2'
  simp only [← htl] at hfew
  simp only [← htl'] at hfew'
  clear hL hL' htl htl' hA hA' hlc hlc'
  have HFew := Lib.hid hfew
  have HFew' := Lib.hid hfew'
  clear hfew hfew'
  go_enter Try.func8, Try.ntmps8
  go_wp2_with fail
  refine (shown_any _).mono ?_
  rintro e w1 ⟨rfl, hB1⟩
  obtain ⟨kx, ky, hBw1, hs1⟩ := four3 hB1
  clear hB1
  have c0 := cell_at kx 0
  have c1 := cell_at kx 1
  have c2 := cell_at kx 2
  go_wp2_with fail
  refine (HFew.out _).mono ?_
  rintro e w2 ⟨rfl, hB2⟩
  have kx2 := (hB2.block w.heap.size (by omega)).trans kx
  have ky2 := (hB2.block (w.heap.size + 1) (by omega)).trans ky
  have hBw2 := hBw1.trans (hB2.mono (by omega))
  have hs2 : w.heap.size + 2 ≤ w2.heap.size := by have := hB2.size; omega
  clear c0 c1 c2 kx ky hB2 hBw1 hs1
  have c0 := cell_at kx2 0
  have c1 := cell_at kx2 1
  have c2 := cell_at kx2 2
  have f0 := free_at kx2 0
  have f1 := free_at kx2 1
  have f2 := free_at kx2 2
  have hP := (((Put.refl kx2).set 0 (.int .i64 R)).set 1 (.int .i64 C)).set 2 (.slice A L.length c)
  have HP := Lib.hid hP
  clear hP
  have y0 := cell_at ky2 0
  have y1 := cell_at ky2 1
  have y2 := cell_at ky2 2
  go_wp2_with fail
  have hQ := HP.out
  refine abs_call (fun u => Below w.heap.size w u ∧ w.heap.size + 2 ≤ u.heap.size ∧ u.heap[w.heap.size]? = some (.cells #[.int .i64 R, .int .i64 C, .slice A L.length c] 24) ∧ u.heap[w.heap.size + 1]? = some (.cells #[.int .i64 R', .int .i64 C', .slice A' l'.length c'] 24)) ⟨hBw2.trans (hQ.below (Nat.le_refl _)), by rw [hQ.size]; exact hs2, hQ.get (by omega), (hQ.other (by omega)).trans ky2⟩ ?_
  rintro w3 ⟨hB3, hs3, kx3, ky3⟩
  clear c0 c1 c2 f0 f1 f2 y0 y1 y2 HP hQ kx2 ky2 hBw2 hs2
  refine (HFew'.out _).mono ?_
  rintro e w4 ⟨rfl, hB4⟩
  have kx4 := (hB4.block w.heap.size (by omega)).trans kx3
  have ky4 := (hB4.block (w.heap.size + 1) (by omega)).trans ky3
  have hBw4 := hB3.trans (hB4.mono (by omega))
  have hs4 : w.heap.size + 2 ≤ w4.heap.size := by have := hB4.size; omega
  clear kx3 ky3 hB3 hB4 hs3
  have c0 := cell_at ky4 0
  have c1 := cell_at ky4 1
  have c2 := cell_at ky4 2
  have f0 := free_at ky4 0
  have f1 := free_at ky4 1
  have f2 := free_at ky4 2
  have x0 := cell_at kx4 0
  have x1 := cell_at kx4 1
  have x2 := cell_at kx4 2
  have hP := (((Put.refl ky4).set 0 (.int .i64 R')).set 1 (.int .i64 C')).set 2 (.slice A' L'.length c')
  have HP := Lib.hid hP
  clear hP
  go_wp2_with fail
  have hQ := HP.out
  refine abs_call (fun u => Below w.heap.size w u ∧ w.heap.size + 2 ≤ u.heap.size ∧ u.heap[w.heap.size]? = some (.cells #[.int .i64 R, .int .i64 C, .slice A L.length c] 24) ∧ u.heap[w.heap.size + 1]? = some (.cells #[.int .i64 R', .int .i64 C', .slice A' L'.length c'] 24)) ⟨hBw4.trans (hQ.below (by omega)), by rw [hQ.size]; exact hs4, (hQ.other (by omega)).trans kx4, hQ.get (by omega)⟩ ?_
  rintro w5 ⟨hB5, hs5, kx5, ky5⟩
  clear c0 c1 c2 f0 f1 f2 x0 x1 x2 HP hQ kx4 ky4 hBw4 hs4 HFew HFew'
  refine (Merge_gives R C A c L R' C' A' c' L' w5 ((hAt.below hB5).mono (by omega)) ((hAt'.below hB5).mono (by omega))).mono ?_
  rintro e w6 ⟨hC6, A6, c6, rfl, h6⟩
  have kx6 := (hC6.block w.heap.size (by omega)).trans kx5
  have ky6 := (hC6.block (w.heap.size + 1) (by omega)).trans ky5
  have hB6 := hB5.trans (hC6.mono (by omega))
  have hs6 : w.heap.size + 2 ≤ w6.heap.size := by have := hC6.size; omega
  clear kx5 ky5 hB5 hs5 hC6
  have hMl := mergeR_length R C L R' C' L'
  obtain ⟨M, hMe⟩ : ∃ M, mergeR R C L R' C' L' = M := ⟨_, rfl⟩
  rw [hMe] at h6 hMl ⊢
  have HMe := Lib.hid hMe
  clear hMe
  have x0 := old_cell (cell_at kx6 0)
  have x1 := old_cell (cell_at kx6 1)
  have x2 := old_cell (cell_at kx6 2)
  have y0 := old_cell (cell_at ky6 0)
  have y1 := old_cell (cell_at ky6 1)
  have y2 := old_cell (cell_at ky6 2)
  go_wp2_with fail
  have hBb : Below w.heap.size w (w6.alloc (.cells #[.int .i64 M.R, .int .i64 M.C, .slice A6 M.l.length c6] 24)) := hB6.alloc hB6.size _
  have hbs : (w6.alloc (.cells #[.int .i64 M.R, .int .i64 M.C, .slice A6 M.l.length c6] 24)).heap.size = w6.heap.size + 1 := by simp
  refine (refMerge_gives R C A c L R' C' A' c' L' _ ((hAt.below hBb).mono (by rw [hbs]; omega)) ((hAt'.below hBb).mono (by rw [hbs]; omega))).mono ?_
  rintro e w7 ⟨hC7, A7, c7, rfl, h7⟩
  rw [hbs] at hC7
  have hD7 : Below w6.heap.size w6 w7 := ((Below.refl w6.heap.size w6).alloc (Nat.le_refl _) (.cells #[.int .i64 M.R, .int .i64 M.C, .slice A6 M.l.length c6] 24)).trans (hC7.mono (by omega))
  have kx7 := (hD7.block w.heap.size (by omega)).trans kx6
  have ky7 := (hD7.block (w.heap.size + 1) (by omega)).trans ky6
  have ka7 := (hC7.block w6.heap.size (by omega)).trans (new_at w6 (.cells #[.int .i64 M.R, .int .i64 M.C, .slice A6 M.l.length c6] 24) _ rfl)
  have h6 := h6.below hD7
  have hB7 := hB6.trans (hD7.mono (by omega))
  have hs7 : w6.heap.size + 1 ≤ w7.heap.size := by have := hC7.size; omega
  clear kx6 ky6 hB6 hC7 hD7 hBb hbs  x0 x1 x2 y0 y1 y2
  obtain ⟨B6, hBe⟩ : ∃ b, w6.heap.size = b := ⟨_, rfl⟩
  rw [hBe] at ka7 h6 hs6 hs7 ⊢
  clear hBe
  rw [HMe.out] at h7 ⊢
  clear HMe
  have x0 := old_cell (cell_at kx7 0)
  have x1 := old_cell (cell_at kx7 1)
  have x2 := old_cell (cell_at kx7 2)
  have y0 := old_cell (cell_at ky7 0)
  have y1 := old_cell (cell_at ky7 1)
  have y2 := old_cell (cell_at ky7 2)
  go_wp2_with fail
  have hBb : Below w.heap.size w (w7.alloc (.cells #[.int .i64 M.R, .int .i64 M.C, .slice A7 M.l.length c7] 24)) := hB7.alloc hB7.size _
  have hbs : (w7.alloc (.cells #[.int .i64 M.R, .int .i64 M.C, .slice A7 M.l.length c7] 24)).heap.size = w7.heap.size + 1 := by simp
  refine (Lower_gives R C A c L _ ((hAt.below hBb).mono (by rw [hbs]; omega))).mono ?_
  rintro e w8 ⟨hC8, A8, c8, rfl, h8⟩
  rw [hbs] at hC8
  have hD8 : Below w7.heap.size w7 w8 := ((Below.refl w7.heap.size w7).alloc (Nat.le_refl _) (.cells #[.int .i64 M.R, .int .i64 M.C, .slice A7 M.l.length c7] 24)).trans (hC8.mono (by omega))
  have kx8 := (hD8.block w.heap.size (by omega)).trans kx7
  have ky8 := (hD8.block (w.heap.size + 1) (by omega)).trans ky7
  have ka8 := (hD8.block B6 (by omega)).trans ka7
  have h6 := h6.below (hD8.mono (by omega))
  have kb8 := (hC8.block w7.heap.size (by omega)).trans (new_at w7 (.cells #[.int .i64 M.R, .int .i64 M.C, .slice A7 M.l.length c7] 24) _ rfl)
  have h7 := h7.below hD8
  have hB8 := hB7.trans (hD8.mono (by omega))
  have hs8 : w7.heap.size + 1 ≤ w8.heap.size := by have := hC8.size; omega
  clear kx7 ky7 hB7 hC8 hD8 hBb hbs ka7 x0 x1 x2 y0 y1 y2
  obtain ⟨B7, hBe⟩ : ∃ b, w7.heap.size = b := ⟨_, rfl⟩
  rw [hBe] at kb8 h7 hs7 hs8 ⊢
  clear hBe
  have hNl := lowerR_length R C L
  obtain ⟨N, hNe⟩ : ∃ N, lowerR R C L = N := ⟨_, rfl⟩
  rw [hNe] at h8 hNl ⊢
  have HNe := Lib.hid hNe
  clear hNe
  have x0 := old_cell (cell_at kx8 0)
  have x1 := old_cell (cell_at kx8 1)
  have x2 := old_cell (cell_at kx8 2)
  have y0 := old_cell (cell_at ky8 0)
  have y1 := old_cell (cell_at ky8 1)
  have y2 := old_cell (cell_at ky8 2)
  go_wp2_with fail
  have hBb : Below w.heap.size w (w8.alloc (.cells #[.int .i64 N.R, .int .i64 N.C, .slice A8 N.l.length c8] 24)) := hB8.alloc hB8.size _
  have hbs : (w8.alloc (.cells #[.int .i64 N.R, .int .i64 N.C, .slice A8 N.l.length c8] 24)).heap.size = w8.heap.size + 1 := by simp
  refine (refLower_gives R C A c L _ ((hAt.below hBb).mono (by rw [hbs]; omega))).mono ?_
  rintro e w9 ⟨hC9, A9, c9, rfl, h9⟩
  rw [hbs] at hC9
  have hD9 : Below w8.heap.size w8 w9 := ((Below.refl w8.heap.size w8).alloc (Nat.le_refl _) (.cells #[.int .i64 N.R, .int .i64 N.C, .slice A8 N.l.length c8] 24)).trans (hC9.mono (by omega))
  have kx9 := (hD9.block w.heap.size (by omega)).trans kx8
  have ky9 := (hD9.block (w.heap.size + 1) (by omega)).trans ky8
  have ka9 := (hD9.block B6 (by omega)).trans ka8
  have h6 := h6.below (hD9.mono (by omega))
  have kb9 := (hD9.block B7 (by omega)).trans kb8
  have h7 := h7.below (hD9.mono (by omega))
  have kc9 := (hC9.block w8.heap.size (by omega)).trans (new_at w8 (.cells #[.int .i64 N.R, .int .i64 N.C, .slice A8 N.l.length c8] 24) _ rfl)
  have h8 := h8.below hD9
  have hB9 := hB8.trans (hD9.mono (by omega))
  have hs9 : w8.heap.size + 1 ≤ w9.heap.size := by have := hC9.size; omega
  clear kx8 ky8 hB8 hC9 hD9 hBb hbs ka8 kb8 x0 x1 x2 
  obtain ⟨B8, hBe⟩ : ∃ b, w8.heap.size = b := ⟨_, rfl⟩
  rw [hBe] at kc9 h8 hs8 hs9 ⊢
  clear hBe
  rw [HNe.out] at h9 ⊢
  clear HNe
  go_wp2_with fail
  have hkx := old_at (o := (.cells #[.int .i64 N.R, .int .i64 N.C, .slice A9 N.l.length c9] 24)) kx9
  have hky := old_at (o := (.cells #[.int .i64 N.R, .int .i64 N.C, .slice A9 N.l.length c9] 24)) ky9
  have hka := old_at (o := (.cells #[.int .i64 N.R, .int .i64 N.C, .slice A9 N.l.length c9] 24)) ka9
  have hkb := old_at (o := (.cells #[.int .i64 N.R, .int .i64 N.C, .slice A9 N.l.length c9] 24)) kb9
  have hkc := old_at (o := (.cells #[.int .i64 N.R, .int .i64 N.C, .slice A9 N.l.length c9] 24)) kc9
  have hkd := new_at w9 (.cells #[.int .i64 N.R, .int .i64 N.C, .slice A9 N.l.length c9] 24) _ rfl
  have hBe : Below w9.heap.size w9 (w9.alloc (.cells #[.int .i64 N.R, .int .i64 N.C, .slice A9 N.l.length c9] 24)) := (Below.refl _ w9).alloc (Nat.le_refl _) _
  have hz : (w9.alloc (.cells #[.int .i64 N.R, .int .i64 N.C, .slice A9 N.l.length c9] 24)).heap.size = w9.heap.size + 1 := by simp
  have h6z := (h6.below (hBe.mono (by omega))).mono (B' := (w9.alloc (.cells #[.int .i64 N.R, .int .i64 N.C, .slice A9 N.l.length c9] 24)).heap.size) (by omega)
  have h7z := (h7.below (hBe.mono (by omega))).mono (B' := (w9.alloc (.cells #[.int .i64 N.R, .int .i64 N.C, .slice A9 N.l.length c9] 24)).heap.size) (by omega)
  have h8z := (h8.below (hBe.mono (by omega))).mono (B' := (w9.alloc (.cells #[.int .i64 N.R, .int .i64 N.C, .slice A9 N.l.length c9] 24)).heap.size) (by omega)
  have h9z := (h9.below hBe).mono (B' := (w9.alloc (.cells #[.int .i64 N.R, .int .i64 N.C, .slice A9 N.l.length c9] 24)).heap.size) (by omega)
  have hLz := ((hAt.below hB9).below (hBe.mono (by omega))).mono (B' := (w9.alloc (.cells #[.int .i64 N.R, .int .i64 N.C, .slice A9 N.l.length c9] 24)).heap.size) (by omega)
  have hLz' := ((hAt'.below hB9).below (hBe.mono (by omega))).mono (B' := (w9.alloc (.cells #[.int .i64 N.R, .int .i64 N.C, .slice A9 N.l.length c9] 24)).heap.size) (by omega)
  have hBz := hB9.trans (hBe.mono (by omega))
  obtain ⟨B9, hBe9⟩ : ∃ b, w9.heap.size = b := ⟨_, rfl⟩
  rw [hBe9] at hkd hs9 hz ⊢
  clear kx9 ky9 ka9 kb9 kc9 h6 h7 h8 h9 hB9 hAt hAt' hBe9 hBe
  generalize w9.alloc (.cells #[.int .i64 N.R, .int .i64 N.C, .slice A9 N.l.length c9] 24) = W at *
  have qx : w.heap.size < W.heap.size := by omega
  have qy : w.heap.size + 1 < W.heap.size := by omega
  have qa : B6 < W.heap.size := by omega
  have qb : B7 < W.heap.size := by omega
  have qc : B8 < W.heap.size := by omega
  have qd : B9 < W.heap.size := by omega
  refine wp_region_later W.heap.size (by kernel_rfl) (by kernel_rfl) ?_
  have lx0 : ∀ s : Later W.heap.size W, s.W.cell? ⟨w.heap.size, 0, none⟩ = some _ := fun s => s.cell (cell_at hkx 0) qx
  have lx1 : ∀ s : Later W.heap.size W, s.W.cell? ⟨w.heap.size, 1, none⟩ = some _ := fun s => s.cell (cell_at hkx 1) qx
  have lx2 : ∀ s : Later W.heap.size W, s.W.cell? ⟨w.heap.size, 2, none⟩ = some _ := fun s => s.cell (cell_at hkx 2) qx
  have ly0 : ∀ s : Later W.heap.size W, s.W.cell? ⟨w.heap.size + 1, 0, none⟩ = some _ := fun s => s.cell (cell_at hky 0) qy
  have ly1 : ∀ s : Later W.heap.size W, s.W.cell? ⟨w.heap.size + 1, 1, none⟩ = some _ := fun s => s.cell (cell_at hky 1) qy
  have ly2 : ∀ s : Later W.heap.size W, s.W.cell? ⟨w.heap.size + 1, 2, none⟩ = some _ := fun s => s.cell (cell_at hky 2) qy
  have la0 : ∀ s : Later W.heap.size W, s.W.cell? ⟨B6, 0, none⟩ = some _ := fun s => s.cell (cell_at hka 0) qa
  have la1 : ∀ s : Later W.heap.size W, s.W.cell? ⟨B6, 1, none⟩ = some _ := fun s => s.cell (cell_at hka 1) qa
  have la2 : ∀ s : Later W.heap.size W, s.W.cell? ⟨B6, 2, none⟩ = some _ := fun s => s.cell (cell_at hka 2) qa
  have lb0 : ∀ s : Later W.heap.size W, s.W.cell? ⟨B7, 0, none⟩ = some _ := fun s => s.cell (cell_at hkb 0) qb
  have lb1 : ∀ s : Later W.heap.size W, s.W.cell? ⟨B7, 1, none⟩ = some _ := fun s => s.cell (cell_at hkb 1) qb
  have lb2 : ∀ s : Later W.heap.size W, s.W.cell? ⟨B7, 2, none⟩ = some _ := fun s => s.cell (cell_at hkb 2) qb
  have lc0 : ∀ s : Later W.heap.size W, s.W.cell? ⟨B8, 0, none⟩ = some _ := fun s => s.cell (cell_at hkc 0) qc
  have lc1 : ∀ s : Later W.heap.size W, s.W.cell? ⟨B8, 1, none⟩ = some _ := fun s => s.cell (cell_at hkc 1) qc
  have lc2 : ∀ s : Later W.heap.size W, s.W.cell? ⟨B8, 2, none⟩ = some _ := fun s => s.cell (cell_at hkc 2) qc
  have ld0 : ∀ s : Later W.heap.size W, s.W.cell? ⟨B9, 0, none⟩ = some _ := fun s => s.cell (cell_at hkd 0) qd
  have ld1 : ∀ s : Later W.heap.size W, s.W.cell? ⟨B9, 1, none⟩ = some _ := fun s => s.cell (cell_at hkd 1) qd
  have ld2 : ∀ s : Later W.heap.size W, s.W.cell? ⟨B9, 2, none⟩ = some _ := fun s => s.cell (cell_at hkd 2) qd
  clear hkx hky hka hkb hkc hkd hz ht2'
  repeat (go_big_quiet_step (first | (go_at_call 18; with_reducible exact Calls.later (Nat.le_refl _) (same_later M.R M.C A6 A7 c6 c7 M.l hMl _ (at_later h6z _) (at_later h7z _))) | (go_at_call 18; with_reducible exact Calls.later (Nat.le_refl _) (same_later N.R N.C A8 A9 c8 c9 N.l hNl _ (at_later h8z _) (at_later h9z _))) | (go_at_call 27; with_reducible exact Calls.later (Nat.le_refl _) (Same_any R C R' C' A A' c c' L L' ht2 _ (at_later hLz _) (at_later hLz' _))) | (go_at_call 18; with_reducible exact Calls.later (Nat.le_refl _) (refSame_any R C R' C' A A' c c' L L' ht2 _ (at_later hLz _) (at_later hLz' _))) | (go_at_call 27; with_reducible exact Calls.later (Nat.le_refl _) (psame_self R C A A c c L ht2 _ (at_later hLz _) (at_later hLz _)))))
  refine wpQuiet_nil ?_
  rintro _ ⟨u, rfl⟩
  clear lx0 lx1 lx2 ly0 ly1 ly2 la0 la1 la2 lb0 lb1 lb2 lc0 lc1 lc2 ld0 ld1 ld2
  go_wp2_with fail
  go_ret
  exact ⟨rfl, hBz.trans (u.below.mono (by omega))⟩
end Go.Proofs.Ytlehjbfhhikpiaa
