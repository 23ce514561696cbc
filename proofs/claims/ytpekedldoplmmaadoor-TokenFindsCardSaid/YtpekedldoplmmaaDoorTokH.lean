/-
  The check of a token: checked, Check of package token. Printed by gen_tok2.py.
-/
import Derived.Test.YtpekedldoplmmaaDoorTokF
namespace Go.Proofs.YtpekedldoplmmaaDoor
open Go.RowKit Go.Shelf
attribute [local go_sem] Oper.semAt_some calmOp calmUpon effOp effUpon

/-- Are the last eight bytes the sum of what is ahead of them? -/
def sumB (a b : BitVec 64) (s : ByteArray) : Bool := decide (sumT a b (s.extract 0 (s.size - 8)) = takeN (clE s) 8)
theorem clB_size {s : ByteArray} (h : clB s = true) : 8 ≤ s.size := by
  obtain ⟨-, -, -, -, -, h5⟩ := clB_true h
  have h1 := getR_size s
  have h2 := getR_size (getR s)
  have h3 := getR_size (getR (getR s))
  have h4 : (getR (getR (getR s))).size = 8 := h5
  omega
theorem same_yes {x y : BitVec 64} (h : x = y) (w : World) : Calls Tryd.prog 39 #[.int .u64 (U x), .int .u64 (U y)] w fun e w' => e = .returned (.bool true) ∧ w' = w := by
  have h2 := same_any x y w
  have e : (U x == U y) = true := by rw [h]; simp
  rw [e] at h2
  exact h2
theorem same_no {x y : BitVec 64} (h : x ≠ y) (w : World) : Calls Tryd.prog 39 #[.int .u64 (U x), .int .u64 (U y)] w fun e w' => e = .returned (.bool false) ∧ w' = w := by
  have h2 := same_any x y w
  have e : (U x == U y) = false := by rw [beq_eq_false_iff_ne]; exact fun h3 => h (U_inj h3)
  rw [e] at h2
  exact h2

set_option maxRecDepth 100000 in
set_option maxHeartbeats 8000000 in
theorem checked_no (a0 b0 : Addr) (a b : BitVec 64) (s : ByteArray) (hs : s.size ≤ 9223372036854775807) (now : BitVec 64) (h : clB s = false) (B : Nat) (w : World) (hS : Sent a0 b0 B w) :
    Calls Tryd.prog 26 #[.agg #[.int .u64 (U a), .int .u64 (U b)], .string s, .int .u64 (U now)] w fun e w' => e = .returned (.tuple #[.agg #[.int .u64 0, .int .i64 0, .int .u64 0], wrongV 170]) ∧ Below w.heap.size w w' := by
  have e0 : (((w.alloc (.cells #[.int .u64 (U a), .int .u64 (U b)] 24)).alloc (.cells #[.int .u64 0, .int .i64 0, .int .u64 0] 26)).alloc (.cells #[.string s] 66)).heap[w.heap.size]? = some (.cells #[.int .u64 (U a), .int .u64 (U b)] 24 (0, 0)) := old_at (old_at (new_at _ _ _ rfl))
  have q0 : (((w.alloc (.cells #[.int .u64 (U a), .int .u64 (U b)] 24)).alloc (.cells #[.int .u64 0, .int .i64 0, .int .u64 0] 26)).alloc (.cells #[.string s] 66)).heap[w.heap.size + 1]? = some (.cells #[.int .u64 0, .int .i64 0, .int .u64 0] 26 (0, 0)) := old_at (new_at _ _ _ (by simp))
  have k0 : (((w.alloc (.cells #[.int .u64 (U a), .int .u64 (U b)] 24)).alloc (.cells #[.int .u64 0, .int .i64 0, .int .u64 0] 26)).alloc (.cells #[.string s] 66)).heap[w.heap.size + 1 + 1]? = some (.cells #[.string s] 66 (0, 0)) := new_at _ _ _ (by simp)
  have hB0 : Below w.heap.size w (((w.alloc (.cells #[.int .u64 (U a), .int .u64 (U b)] 24)).alloc (.cells #[.int .u64 0, .int .i64 0, .int .u64 0] 26)).alloc (.cells #[.string s] 66)) := (((Below.refl _ w).alloc (Nat.le_refl _) _).alloc (by simp) _).alloc (by simp; omega) _
  have hS0 := sent_to ((sent_up hS).later hB0) (show w.heap.size ≤ w.heap.size + 2 by omega) (show w.heap.size + 2 ≤ _ by simp)
  have E0 := Lib.hid e0
  have Q0 := Lib.hid q0
  have K0 := Lib.hid k0
  have S0 := Lib.hid hS0
  have B0 := Lib.hid hB0
  clear e0 q0 k0 hB0 hS0 hS
  have HC := Lib.hid (claim_no a0 b0 (w.heap.size + 2) (w.heap.size + 1 + 1) s hs _ S0.out (Nat.le_refl _) K0.out h)
  clear h
  go_enter Tryd.func26, Tryd.ntmps26
  go_wp2_with fail
  refine HC.out.mono ?_
  rintro e w1 ⟨rfl, hB1⟩
  have kq1 := (hB1.block _ (Nat.lt_succ_self _)).trans Q0.out
  have HB1 := Lib.hid (B0.out.trans (hB1.mono (show w.heap.size ≤ w.heap.size + 2 by omega)))
  clear hB1
  have kq := old_at (o := .cells #[.int .u64 0, .int .i64 0, .int .u64 0] 26) kq1
  have hBa : Below w.heap.size w (w1.alloc (.cells #[.int .u64 0, .int .i64 0, .int .u64 0] 26)) := HB1.out.alloc HB1.out.size _
  have g0 := cell_at kq 0
  have g1 := cell_at kq 1
  have g2 := cell_at kq 2
  have f0 := frz_at kq 0
  have f1 := frz_at kq 1
  have f2 := frz_at kq 2
  have HBa := Lib.hid hBa
  clear hBa kq kq1
  go_wp2_with fail
  refine bodyPost_ret (v := .tuple #[.agg #[.int .u64 0, .int .i64 0, .int .u64 0], wrongV 170]) (by simp [results, Tryd.results26, go_sem, g0, g1, g2]) rfl ⟨rfl, ?_⟩
  exact ((HBa.out.setCell (by show w.heap.size ≤ w.heap.size + 1; omega) _).setCell (by show w.heap.size ≤ w.heap.size + 1; omega) _).setCell (by show w.heap.size ≤ w.heap.size + 1; omega) _

set_option maxRecDepth 100000 in
set_option maxHeartbeats 8000000 in
theorem Check_no (a0 b0 : Addr) (a b : BitVec 64) (s : ByteArray) (hs : s.size ≤ 9223372036854775807) (now : BitVec 64) (h : clB s = false) (B : Nat) (w : World) (hS : Sent a0 b0 B w) :
    Calls Tryd.prog 11 #[.agg #[.int .u64 (U a), .int .u64 (U b)], .string s, .int .u64 (U now)] w fun e w' => e = .returned (.tuple #[.agg #[.int .u64 0, .int .i64 0, .int .u64 0], .int .i64 170]) ∧ Below w.heap.size w w' := by
  have q0 : ((w.alloc (.cells #[.int .u64 (U a), .int .u64 (U b)] 24)).alloc (.cells #[.int .u64 0, .int .i64 0, .int .u64 0] 26)).heap[w.heap.size + 1]? = some (.cells #[.int .u64 0, .int .i64 0, .int .u64 0] 26 (0, 0)) := new_at _ _ _ (by simp)
  have hB0 : Below w.heap.size w ((w.alloc (.cells #[.int .u64 (U a), .int .u64 (U b)] 24)).alloc (.cells #[.int .u64 0, .int .i64 0, .int .u64 0] 26)) := ((Below.refl _ w).alloc (Nat.le_refl _) _).alloc (by simp) _
  have HC := Lib.hid (checked_no a0 b0 a b s hs now h w.heap.size _ ((sent_up hS).later hB0))
  have Q0 := Lib.hid q0
  have B0 := Lib.hid hB0
  have HTold := Lib.hid (fun W => ttold_wrong 170 W)
  clear q0 hB0 hS h
  go_enter Tryd.func11, Tryd.ntmps11
  go_wp2_with fail
  refine HC.out.mono ?_
  rintro e w1 ⟨rfl, hB1⟩
  have kq1 := (hB1.block _ (Array.getElem?_eq_some_iff.1 Q0.out).1).trans Q0.out
  have HB1 := Lib.hid (B0.out.trans (hB1.mono B0.out.size))
  clear hB1
  go_wp2_with fail
  have kq := old_at (o := .cells #[.int .u64 0, .int .i64 0, .int .u64 0] 26) kq1
  have kc : (w1.alloc (.cells #[.int .u64 0, .int .i64 0, .int .u64 0] 26)).heap[w1.heap.size]? = some (.cells #[.int .u64 0, .int .i64 0, .int .u64 0] 26 (0, 0)) := new_at w1 _ _ rfl
  have HBa : Hid (Below w.heap.size w (w1.alloc (.cells #[.int .u64 0, .int .i64 0, .int .u64 0] 26))) := Lib.hid (HB1.out.alloc HB1.out.size _)
  generalize w1.alloc (.cells #[.int .u64 0, .int .i64 0, .int .u64 0] 26) = W at *
  refine region_mix_last_plain (C := fun W' => ∃ s : Later W.heap.size W, W' = s.W) [0, 3, 1, 2, 3] (by kernel_rfl) (by kernel_rfl) (by kernel_rfl) (by kernel_rfl) (by kernel_rfl) ⟨⟨W.drew, (Below.refl _ W).drew⟩, rfl⟩ ?_
  have l0 : ∀ s : Later W.heap.size W, s.W.cell? ⟨w1.heap.size, 0, none⟩ = some _ := fun s => s.cell (cell_at kc 0) (Array.getElem?_eq_some_iff.1 kc).1
  have l1 : ∀ s : Later W.heap.size W, s.W.cell? ⟨w1.heap.size, 1, none⟩ = some _ := fun s => s.cell (cell_at kc 1) (Array.getElem?_eq_some_iff.1 kc).1
  have l2 : ∀ s : Later W.heap.size W, s.W.cell? ⟨w1.heap.size, 2, none⟩ = some _ := fun s => s.cell (cell_at kc 2) (Array.getElem?_eq_some_iff.1 kc).1
  refine wpL_calm (fun K hK => ?_); go_simp; refine hK _ ?_; clear hK K
  refine wpL_plain (fun K hK => ?_); go_simp; refine hK _ ?_; clear hK K
  clear l0 l1 l2 kc kq1
  refine wpL_eff rfl (fun K hK => ?_)
  go_simp
  refine ⟨trivial, (callsIn_wide.2 (HTold.out W.drew)).mono ?_⟩
  rintro e w3 ⟨rfl, hB3⟩
  have hD3 : Below W.heap.size W w3 := (Below.refl W.heap.size W).drew.trans hB3
  refine ⟨_, rfl, hK _ _ ⟨⟨_, hD3⟩, rfl⟩ ?_⟩
  clear hK K
  have kq3 := (hD3.block _ (Array.getElem?_eq_some_iff.1 kq).1).trans kq
  have HBb := Lib.hid (HBa.out.trans (hD3.mono HBa.out.size))
  have g0 := cell_at kq3 0
  have g1 := cell_at kq3 1
  have g2 := cell_at kq3 2
  have f0 := frz_at kq3 0
  have f1 := frz_at kq3 1
  have f2 := frz_at kq3 2
  refine wpL_last rfl (fun K hK => ?_)
  go_simp
  refine hK _ _ ?_
  clear hK K
  refine wpL_plain (fun K hK => ?_)
  go_simp
  refine hK _ ?_
  clear hK K
  refine wpL_nil ?_
  go_wp2_with fail
  refine bodyPost_ret (v := .tuple #[.agg #[.int .u64 0, .int .i64 0, .int .u64 0], .int .i64 170]) (by simp [results, Tryd.results11, go_sem, g0, g1, g2]) rfl ⟨rfl, ?_⟩
  exact ((HBb.out.setCell (by show w.heap.size ≤ w.heap.size + 1; omega) _).setCell (by show w.heap.size ≤ w.heap.size + 1; omega) _).setCell (by show w.heap.size ≤ w.heap.size + 1; omega) _

set_option maxRecDepth 100000 in
set_option maxHeartbeats 8000000 in
theorem checked_sum (a0 b0 : Addr) (a b : BitVec 64) (s : ByteArray) (hs : s.size ≤ 9223372036854775807) (now : BitVec 64) (h : clB s = true) (h2 : sumB a b s = false) (B : Nat) (w : World) (hS : Sent a0 b0 B w) :
    Calls Tryd.prog 26 #[.agg #[.int .u64 (U a), .int .u64 (U b)], .string s, .int .u64 (U now)] w fun e w' => e = .returned (.tuple #[.agg #[.int .u64 0, .int .i64 0, .int .u64 0], wrongV 170]) ∧ Below w.heap.size w w' := by
  have e0 : (((w.alloc (.cells #[.int .u64 (U a), .int .u64 (U b)] 24)).alloc (.cells #[.int .u64 0, .int .i64 0, .int .u64 0] 26)).alloc (.cells #[.string s] 66)).heap[w.heap.size]? = some (.cells #[.int .u64 (U a), .int .u64 (U b)] 24 (0, 0)) := old_at (old_at (new_at _ _ _ rfl))
  have q0 : (((w.alloc (.cells #[.int .u64 (U a), .int .u64 (U b)] 24)).alloc (.cells #[.int .u64 0, .int .i64 0, .int .u64 0] 26)).alloc (.cells #[.string s] 66)).heap[w.heap.size + 1]? = some (.cells #[.int .u64 0, .int .i64 0, .int .u64 0] 26 (0, 0)) := old_at (new_at _ _ _ (by simp))
  have k0 : (((w.alloc (.cells #[.int .u64 (U a), .int .u64 (U b)] 24)).alloc (.cells #[.int .u64 0, .int .i64 0, .int .u64 0] 26)).alloc (.cells #[.string s] 66)).heap[w.heap.size + 1 + 1]? = some (.cells #[.string s] 66 (0, 0)) := new_at _ _ _ (by simp)
  have hB0 : Below w.heap.size w (((w.alloc (.cells #[.int .u64 (U a), .int .u64 (U b)] 24)).alloc (.cells #[.int .u64 0, .int .i64 0, .int .u64 0] 26)).alloc (.cells #[.string s] 66)) := (((Below.refl _ w).alloc (Nat.le_refl _) _).alloc (by simp) _).alloc (by simp; omega) _
  have hS0 := sent_to ((sent_up hS).later hB0) (show w.heap.size ≤ w.heap.size + 2 by omega) (show w.heap.size + 2 ≤ _ by simp)
  have E0 := Lib.hid e0
  have Q0 := Lib.hid q0
  have K0 := Lib.hid k0
  have S0 := Lib.hid hS0
  have B0 := Lib.hid hB0
  clear e0 q0 k0 hB0 hS0 hS
  have HC := Lib.hid (claim_yes a0 b0 (w.heap.size + 2) (w.heap.size + 1 + 1) s hs _ S0.out (Nat.le_refl _) K0.out h)
  have hsz := clB_size h
  obtain ⟨-, -, -, r1, r3, r8⟩ := clB_true h
  have HS8 := Lib.hid r8
  have HCh := Lib.hid (fun W => tchild_any a b W)
  have HSi := Lib.hid (fun W => tsip_any a b (s.extract 0 (s.size - 8)) (by rw [ByteArray.size_extract]; omega) W)
  have HSu := Lib.hid (fun W => tsum_any (clE s) (by omega) W)
  have HSa := Lib.hid (fun W => same_no (of_decide_eq_false h2) W)
  have hU : U (clR s) = ((clR s).toNat : Int) := rfl
  have hr0 : (U (clR s) == 0) = false := by rw [beq_eq_false_iff_ne]; omega
  have hsI : (8 : Int) ≤ ((s.size : Nat) : Int) := by omega
  clear hU r1 r3 r8 h h2
  go_enter Tryd.func26, Tryd.ntmps26
  go_wp2_with fail
  refine HC.out.mono ?_
  rintro e w1 ⟨rfl, hP⟩
  have hB1 := hP.below (Nat.le_refl _) S0.out.bs
  have ke1 := hP.other (show w.heap.size ≠ w.heap.size + 1 + 1 by omega) E0.out
  have kq1 := hP.other (show w.heap.size + 1 ≠ w.heap.size + 1 + 1 by omega) Q0.out
  have kk1 := hP.get (Array.getElem?_eq_some_iff.1 K0.out).1
  have HB1 := Lib.hid (B0.out.trans (hB1.mono (show w.heap.size ≤ w.heap.size + 2 by omega)))
  clear hB1 hP
  go_wp2_with fail
  have ke := old_at (o := .cells #[.int .u64 (U (clT s)), .int .i64 (U (clR s)), .int .u64 (U (clU s))] 26) ke1
  have kq := old_at (o := .cells #[.int .u64 (U (clT s)), .int .i64 (U (clR s)), .int .u64 (U (clU s))] 26) kq1
  have kk := old_at (o := .cells #[.int .u64 (U (clT s)), .int .i64 (U (clR s)), .int .u64 (U (clU s))] 26) kk1
  have kc : (w1.alloc (.cells #[.int .u64 (U (clT s)), .int .i64 (U (clR s)), .int .u64 (U (clU s))] 26)).heap[w1.heap.size]? = some (.cells #[.int .u64 (U (clT s)), .int .i64 (U (clR s)), .int .u64 (U (clU s))] 26 (0, 0)) := new_at w1 _ _ rfl
  have HBa : Hid (Below w.heap.size w (w1.alloc (.cells #[.int .u64 (U (clT s)), .int .i64 (U (clR s)), .int .u64 (U (clU s))] 26))) := Lib.hid (HB1.out.alloc HB1.out.size _)
  generalize w1.alloc (.cells #[.int .u64 (U (clT s)), .int .i64 (U (clR s)), .int .u64 (U (clU s))] 26) = W at *
  refine wp_region_later W.heap.size (by kernel_rfl) (by kernel_rfl) ?_
  have l0 : ∀ s' : Later W.heap.size W, s'.W.cell? ⟨w.heap.size, 0, none⟩ = some _ := fun s' => s'.cell (cell_at ke 0) (Array.getElem?_eq_some_iff.1 ke).1
  have l1 : ∀ s' : Later W.heap.size W, s'.W.cell? ⟨w.heap.size, 1, none⟩ = some _ := fun s' => s'.cell (cell_at ke 1) (Array.getElem?_eq_some_iff.1 ke).1
  have l2 : ∀ s' : Later W.heap.size W, s'.W.cell? ⟨w.heap.size + 1 + 1, 0, none⟩ = some _ := fun s' => s'.cell (cell_at kk 0) (Array.getElem?_eq_some_iff.1 kk).1
  have l3 : ∀ s' : Later W.heap.size W, s'.W.cell? ⟨w1.heap.size, 0, none⟩ = some _ := fun s' => s'.cell (cell_at kc 0) (Array.getElem?_eq_some_iff.1 kc).1
  have l4 : ∀ s' : Later W.heap.size W, s'.W.cell? ⟨w1.heap.size, 1, none⟩ = some _ := fun s' => s'.cell (cell_at kc 1) (Array.getElem?_eq_some_iff.1 kc).1
  have l5 : ∀ s' : Later W.heap.size W, s'.W.cell? ⟨w1.heap.size, 2, none⟩ = some _ := fun s' => s'.cell (cell_at kc 2) (Array.getElem?_eq_some_iff.1 kc).1
  repeat (go_big_quiet_step (first | (go_at_call 25; with_reducible exact Calls.later (Nat.le_refl _) (HCh.out _)) | (go_at_call 24; with_reducible exact Calls.later (Nat.le_refl _) (HSi.out _)) | (go_at_call 40; with_reducible exact Calls.later_same (HSu.out _)) | (go_at_call 39; with_reducible exact Calls.later_same (HSa.out _))))
  refine wpQuiet_nil ?_
  rintro _ ⟨s', rfl⟩
  clear l0 l1 l2 l3 l4 l5
  have kq' := (s'.below.block _ (Array.getElem?_eq_some_iff.1 kq).1).trans kq
  have kc' := (s'.below.block _ (Array.getElem?_eq_some_iff.1 kc).1).trans kc
  have HB := Lib.hid (HBa.out.trans (s'.below.mono HBa.out.size))
  have g0 := cell_at kq' 0
  have g1 := cell_at kq' 1
  have g2 := cell_at kq' 2
  have f0 := frz_at kq' 0
  have f1 := frz_at kq' 1
  have f2 := frz_at kq' 2
  have d0 := cell_at kc' 0
  have d1 := cell_at kc' 1
  have d2 := cell_at kc' 2
  clear ke kq kk kc kq' kc' ke1 kq1 kk1
  go_wp2_with fail
  refine bodyPost_ret (v := .tuple #[.agg #[.int .u64 0, .int .i64 0, .int .u64 0], wrongV 170]) (by simp [results, Tryd.results26, go_sem, g0, g1, g2]) rfl ⟨rfl, ?_⟩
  exact ((HB.out.setCell (by show w.heap.size ≤ w.heap.size + 1; omega) _).setCell (by show w.heap.size ≤ w.heap.size + 1; omega) _).setCell (by show w.heap.size ≤ w.heap.size + 1; omega) _

set_option maxRecDepth 100000 in
set_option maxHeartbeats 8000000 in
theorem Check_sum (a0 b0 : Addr) (a b : BitVec 64) (s : ByteArray) (hs : s.size ≤ 9223372036854775807) (now : BitVec 64) (h : clB s = true) (h2 : sumB a b s = false) (B : Nat) (w : World) (hS : Sent a0 b0 B w) :
    Calls Tryd.prog 11 #[.agg #[.int .u64 (U a), .int .u64 (U b)], .string s, .int .u64 (U now)] w fun e w' => e = .returned (.tuple #[.agg #[.int .u64 0, .int .i64 0, .int .u64 0], .int .i64 170]) ∧ Below w.heap.size w w' := by
  have q0 : ((w.alloc (.cells #[.int .u64 (U a), .int .u64 (U b)] 24)).alloc (.cells #[.int .u64 0, .int .i64 0, .int .u64 0] 26)).heap[w.heap.size + 1]? = some (.cells #[.int .u64 0, .int .i64 0, .int .u64 0] 26 (0, 0)) := new_at _ _ _ (by simp)
  have hB0 : Below w.heap.size w ((w.alloc (.cells #[.int .u64 (U a), .int .u64 (U b)] 24)).alloc (.cells #[.int .u64 0, .int .i64 0, .int .u64 0] 26)) := ((Below.refl _ w).alloc (Nat.le_refl _) _).alloc (by simp) _
  have HC := Lib.hid (checked_sum a0 b0 a b s hs now h h2 w.heap.size _ ((sent_up hS).later hB0))
  have Q0 := Lib.hid q0
  have B0 := Lib.hid hB0
  have HTold := Lib.hid (fun W => ttold_wrong 170 W)
  clear q0 hB0 hS h h2
  go_enter Tryd.func11, Tryd.ntmps11
  go_wp2_with fail
  refine HC.out.mono ?_
  rintro e w1 ⟨rfl, hB1⟩
  have kq1 := (hB1.block _ (Array.getElem?_eq_some_iff.1 Q0.out).1).trans Q0.out
  have HB1 := Lib.hid (B0.out.trans (hB1.mono B0.out.size))
  clear hB1
  go_wp2_with fail
  have kq := old_at (o := .cells #[.int .u64 0, .int .i64 0, .int .u64 0] 26) kq1
  have kc : (w1.alloc (.cells #[.int .u64 0, .int .i64 0, .int .u64 0] 26)).heap[w1.heap.size]? = some (.cells #[.int .u64 0, .int .i64 0, .int .u64 0] 26 (0, 0)) := new_at w1 _ _ rfl
  have HBa : Hid (Below w.heap.size w (w1.alloc (.cells #[.int .u64 0, .int .i64 0, .int .u64 0] 26))) := Lib.hid (HB1.out.alloc HB1.out.size _)
  generalize w1.alloc (.cells #[.int .u64 0, .int .i64 0, .int .u64 0] 26) = W at *
  refine region_mix_last_plain (C := fun W' => ∃ s : Later W.heap.size W, W' = s.W) [0, 3, 1, 2, 3] (by kernel_rfl) (by kernel_rfl) (by kernel_rfl) (by kernel_rfl) (by kernel_rfl) ⟨⟨W.drew, (Below.refl _ W).drew⟩, rfl⟩ ?_
  have l0 : ∀ s : Later W.heap.size W, s.W.cell? ⟨w1.heap.size, 0, none⟩ = some _ := fun s => s.cell (cell_at kc 0) (Array.getElem?_eq_some_iff.1 kc).1
  have l1 : ∀ s : Later W.heap.size W, s.W.cell? ⟨w1.heap.size, 1, none⟩ = some _ := fun s => s.cell (cell_at kc 1) (Array.getElem?_eq_some_iff.1 kc).1
  have l2 : ∀ s : Later W.heap.size W, s.W.cell? ⟨w1.heap.size, 2, none⟩ = some _ := fun s => s.cell (cell_at kc 2) (Array.getElem?_eq_some_iff.1 kc).1
  refine wpL_calm (fun K hK => ?_); go_simp; refine hK _ ?_; clear hK K
  refine wpL_plain (fun K hK => ?_); go_simp; refine hK _ ?_; clear hK K
  clear l0 l1 l2 kc kq1
  refine wpL_eff rfl (fun K hK => ?_)
  go_simp
  refine ⟨trivial, (callsIn_wide.2 (HTold.out W.drew)).mono ?_⟩
  rintro e w3 ⟨rfl, hB3⟩
  have hD3 : Below W.heap.size W w3 := (Below.refl W.heap.size W).drew.trans hB3
  refine ⟨_, rfl, hK _ _ ⟨⟨_, hD3⟩, rfl⟩ ?_⟩
  clear hK K
  have kq3 := (hD3.block _ (Array.getElem?_eq_some_iff.1 kq).1).trans kq
  have HBb := Lib.hid (HBa.out.trans (hD3.mono HBa.out.size))
  have g0 := cell_at kq3 0
  have g1 := cell_at kq3 1
  have g2 := cell_at kq3 2
  have f0 := frz_at kq3 0
  have f1 := frz_at kq3 1
  have f2 := frz_at kq3 2
  refine wpL_last rfl (fun K hK => ?_)
  go_simp
  refine hK _ _ ?_
  clear hK K
  refine wpL_plain (fun K hK => ?_)
  go_simp
  refine hK _ ?_
  clear hK K
  refine wpL_nil ?_
  go_wp2_with fail
  refine bodyPost_ret (v := .tuple #[.agg #[.int .u64 0, .int .i64 0, .int .u64 0], .int .i64 170]) (by simp [results, Tryd.results11, go_sem, g0, g1, g2]) rfl ⟨rfl, ?_⟩
  exact ((HBb.out.setCell (by show w.heap.size ≤ w.heap.size + 1; omega) _).setCell (by show w.heap.size ≤ w.heap.size + 1; omega) _).setCell (by show w.heap.size ≤ w.heap.size + 1; omega) _

set_option maxRecDepth 100000 in
set_option maxHeartbeats 8000000 in
theorem checked_stale (a0 b0 : Addr) (a b : BitVec 64) (s : ByteArray) (hs : s.size ≤ 9223372036854775807) (now : BitVec 64) (h : clB s = true) (h2 : sumB a b s = true) (h3 : (clU s).toNat < now.toNat) (B : Nat) (w : World) (hS : Sent a0 b0 B w) :
    Calls Tryd.prog 26 #[.agg #[.int .u64 (U a), .int .u64 (U b)], .string s, .int .u64 (U now)] w fun e w' => e = .returned (.tuple #[.agg #[.int .u64 0, .int .i64 0, .int .u64 0], wrongV 171]) ∧ Below w.heap.size w w' := by
  have e0 : (((w.alloc (.cells #[.int .u64 (U a), .int .u64 (U b)] 24)).alloc (.cells #[.int .u64 0, .int .i64 0, .int .u64 0] 26)).alloc (.cells #[.string s] 66)).heap[w.heap.size]? = some (.cells #[.int .u64 (U a), .int .u64 (U b)] 24 (0, 0)) := old_at (old_at (new_at _ _ _ rfl))
  have q0 : (((w.alloc (.cells #[.int .u64 (U a), .int .u64 (U b)] 24)).alloc (.cells #[.int .u64 0, .int .i64 0, .int .u64 0] 26)).alloc (.cells #[.string s] 66)).heap[w.heap.size + 1]? = some (.cells #[.int .u64 0, .int .i64 0, .int .u64 0] 26 (0, 0)) := old_at (new_at _ _ _ (by simp))
  have k0 : (((w.alloc (.cells #[.int .u64 (U a), .int .u64 (U b)] 24)).alloc (.cells #[.int .u64 0, .int .i64 0, .int .u64 0] 26)).alloc (.cells #[.string s] 66)).heap[w.heap.size + 1 + 1]? = some (.cells #[.string s] 66 (0, 0)) := new_at _ _ _ (by simp)
  have hB0 : Below w.heap.size w (((w.alloc (.cells #[.int .u64 (U a), .int .u64 (U b)] 24)).alloc (.cells #[.int .u64 0, .int .i64 0, .int .u64 0] 26)).alloc (.cells #[.string s] 66)) := (((Below.refl _ w).alloc (Nat.le_refl _) _).alloc (by simp) _).alloc (by simp; omega) _
  have hS0 := sent_to ((sent_up hS).later hB0) (show w.heap.size ≤ w.heap.size + 2 by omega) (show w.heap.size + 2 ≤ _ by simp)
  have E0 := Lib.hid e0
  have Q0 := Lib.hid q0
  have K0 := Lib.hid k0
  have S0 := Lib.hid hS0
  have B0 := Lib.hid hB0
  clear e0 q0 k0 hB0 hS0 hS
  have HC := Lib.hid (claim_yes a0 b0 (w.heap.size + 2) (w.heap.size + 1 + 1) s hs _ S0.out (Nat.le_refl _) K0.out h)
  have hsz := clB_size h
  obtain ⟨-, -, -, r1, r3, r8⟩ := clB_true h
  have HS8 := Lib.hid r8
  have HCh := Lib.hid (fun W => tchild_any a b W)
  have HSi := Lib.hid (fun W => tsip_any a b (s.extract 0 (s.size - 8)) (by rw [ByteArray.size_extract]; omega) W)
  have HSu := Lib.hid (fun W => tsum_any (clE s) (by omega) W)
  have HSa := Lib.hid (fun W => same_yes (of_decide_eq_true h2) W)
  have hU : U (clR s) = ((clR s).toNat : Int) := rfl
  have hr0 : (U (clR s) == 0) = false := by rw [beq_eq_false_iff_ne]; omega
  have hsI : (8 : Int) ≤ ((s.size : Nat) : Int) := by omega
  have m1 : U (clU s) < U now := by unfold U; omega
  clear hU r1 r3 r8 h h2 h3
  go_enter Tryd.func26, Tryd.ntmps26
  go_wp2_with fail
  refine HC.out.mono ?_
  rintro e w1 ⟨rfl, hP⟩
  have hB1 := hP.below (Nat.le_refl _) S0.out.bs
  have ke1 := hP.other (show w.heap.size ≠ w.heap.size + 1 + 1 by omega) E0.out
  have kq1 := hP.other (show w.heap.size + 1 ≠ w.heap.size + 1 + 1 by omega) Q0.out
  have kk1 := hP.get (Array.getElem?_eq_some_iff.1 K0.out).1
  have HB1 := Lib.hid (B0.out.trans (hB1.mono (show w.heap.size ≤ w.heap.size + 2 by omega)))
  clear hB1 hP
  go_wp2_with fail
  have ke := old_at (o := .cells #[.int .u64 (U (clT s)), .int .i64 (U (clR s)), .int .u64 (U (clU s))] 26) ke1
  have kq := old_at (o := .cells #[.int .u64 (U (clT s)), .int .i64 (U (clR s)), .int .u64 (U (clU s))] 26) kq1
  have kk := old_at (o := .cells #[.int .u64 (U (clT s)), .int .i64 (U (clR s)), .int .u64 (U (clU s))] 26) kk1
  have kc : (w1.alloc (.cells #[.int .u64 (U (clT s)), .int .i64 (U (clR s)), .int .u64 (U (clU s))] 26)).heap[w1.heap.size]? = some (.cells #[.int .u64 (U (clT s)), .int .i64 (U (clR s)), .int .u64 (U (clU s))] 26 (0, 0)) := new_at w1 _ _ rfl
  have HBa : Hid (Below w.heap.size w (w1.alloc (.cells #[.int .u64 (U (clT s)), .int .i64 (U (clR s)), .int .u64 (U (clU s))] 26))) := Lib.hid (HB1.out.alloc HB1.out.size _)
  generalize w1.alloc (.cells #[.int .u64 (U (clT s)), .int .i64 (U (clR s)), .int .u64 (U (clU s))] 26) = W at *
  refine wp_region_later W.heap.size (by kernel_rfl) (by kernel_rfl) ?_
  have l0 : ∀ s' : Later W.heap.size W, s'.W.cell? ⟨w.heap.size, 0, none⟩ = some _ := fun s' => s'.cell (cell_at ke 0) (Array.getElem?_eq_some_iff.1 ke).1
  have l1 : ∀ s' : Later W.heap.size W, s'.W.cell? ⟨w.heap.size, 1, none⟩ = some _ := fun s' => s'.cell (cell_at ke 1) (Array.getElem?_eq_some_iff.1 ke).1
  have l2 : ∀ s' : Later W.heap.size W, s'.W.cell? ⟨w.heap.size + 1 + 1, 0, none⟩ = some _ := fun s' => s'.cell (cell_at kk 0) (Array.getElem?_eq_some_iff.1 kk).1
  have l3 : ∀ s' : Later W.heap.size W, s'.W.cell? ⟨w1.heap.size, 0, none⟩ = some _ := fun s' => s'.cell (cell_at kc 0) (Array.getElem?_eq_some_iff.1 kc).1
  have l4 : ∀ s' : Later W.heap.size W, s'.W.cell? ⟨w1.heap.size, 1, none⟩ = some _ := fun s' => s'.cell (cell_at kc 1) (Array.getElem?_eq_some_iff.1 kc).1
  have l5 : ∀ s' : Later W.heap.size W, s'.W.cell? ⟨w1.heap.size, 2, none⟩ = some _ := fun s' => s'.cell (cell_at kc 2) (Array.getElem?_eq_some_iff.1 kc).1
  repeat (go_big_quiet_step (first | (go_at_call 25; with_reducible exact Calls.later (Nat.le_refl _) (HCh.out _)) | (go_at_call 24; with_reducible exact Calls.later (Nat.le_refl _) (HSi.out _)) | (go_at_call 40; with_reducible exact Calls.later_same (HSu.out _)) | (go_at_call 39; with_reducible exact Calls.later_same (HSa.out _))))
  refine wpQuiet_nil ?_
  rintro _ ⟨s', rfl⟩
  clear l0 l1 l2 l3 l4 l5
  have kq' := (s'.below.block _ (Array.getElem?_eq_some_iff.1 kq).1).trans kq
  have kc' := (s'.below.block _ (Array.getElem?_eq_some_iff.1 kc).1).trans kc
  have HB := Lib.hid (HBa.out.trans (s'.below.mono HBa.out.size))
  have g0 := cell_at kq' 0
  have g1 := cell_at kq' 1
  have g2 := cell_at kq' 2
  have f0 := frz_at kq' 0
  have f1 := frz_at kq' 1
  have f2 := frz_at kq' 2
  have d0 := cell_at kc' 0
  have d1 := cell_at kc' 1
  have d2 := cell_at kc' 2
  clear ke kq kk kc kq' kc' ke1 kq1 kk1
  go_wp2_with fail
  refine bodyPost_ret (v := .tuple #[.agg #[.int .u64 0, .int .i64 0, .int .u64 0], wrongV 171]) (by simp [results, Tryd.results26, go_sem, g0, g1, g2]) rfl ⟨rfl, ?_⟩
  exact ((HB.out.setCell (by show w.heap.size ≤ w.heap.size + 1; omega) _).setCell (by show w.heap.size ≤ w.heap.size + 1; omega) _).setCell (by show w.heap.size ≤ w.heap.size + 1; omega) _

set_option maxRecDepth 100000 in
set_option maxHeartbeats 8000000 in
theorem Check_stale (a0 b0 : Addr) (a b : BitVec 64) (s : ByteArray) (hs : s.size ≤ 9223372036854775807) (now : BitVec 64) (h : clB s = true) (h2 : sumB a b s = true) (h3 : (clU s).toNat < now.toNat) (B : Nat) (w : World) (hS : Sent a0 b0 B w) :
    Calls Tryd.prog 11 #[.agg #[.int .u64 (U a), .int .u64 (U b)], .string s, .int .u64 (U now)] w fun e w' => e = .returned (.tuple #[.agg #[.int .u64 0, .int .i64 0, .int .u64 0], .int .i64 171]) ∧ Below w.heap.size w w' := by
  have q0 : ((w.alloc (.cells #[.int .u64 (U a), .int .u64 (U b)] 24)).alloc (.cells #[.int .u64 0, .int .i64 0, .int .u64 0] 26)).heap[w.heap.size + 1]? = some (.cells #[.int .u64 0, .int .i64 0, .int .u64 0] 26 (0, 0)) := new_at _ _ _ (by simp)
  have hB0 : Below w.heap.size w ((w.alloc (.cells #[.int .u64 (U a), .int .u64 (U b)] 24)).alloc (.cells #[.int .u64 0, .int .i64 0, .int .u64 0] 26)) := ((Below.refl _ w).alloc (Nat.le_refl _) _).alloc (by simp) _
  have HC := Lib.hid (checked_stale a0 b0 a b s hs now h h2 h3 w.heap.size _ ((sent_up hS).later hB0))
  have Q0 := Lib.hid q0
  have B0 := Lib.hid hB0
  have HTold := Lib.hid (fun W => ttold_wrong 171 W)
  clear q0 hB0 hS h h2 h3
  go_enter Tryd.func11, Tryd.ntmps11
  go_wp2_with fail
  refine HC.out.mono ?_
  rintro e w1 ⟨rfl, hB1⟩
  have kq1 := (hB1.block _ (Array.getElem?_eq_some_iff.1 Q0.out).1).trans Q0.out
  have HB1 := Lib.hid (B0.out.trans (hB1.mono B0.out.size))
  clear hB1
  go_wp2_with fail
  have kq := old_at (o := .cells #[.int .u64 0, .int .i64 0, .int .u64 0] 26) kq1
  have kc : (w1.alloc (.cells #[.int .u64 0, .int .i64 0, .int .u64 0] 26)).heap[w1.heap.size]? = some (.cells #[.int .u64 0, .int .i64 0, .int .u64 0] 26 (0, 0)) := new_at w1 _ _ rfl
  have HBa : Hid (Below w.heap.size w (w1.alloc (.cells #[.int .u64 0, .int .i64 0, .int .u64 0] 26))) := Lib.hid (HB1.out.alloc HB1.out.size _)
  generalize w1.alloc (.cells #[.int .u64 0, .int .i64 0, .int .u64 0] 26) = W at *
  refine region_mix_last_plain (C := fun W' => ∃ s : Later W.heap.size W, W' = s.W) [0, 3, 1, 2, 3] (by kernel_rfl) (by kernel_rfl) (by kernel_rfl) (by kernel_rfl) (by kernel_rfl) ⟨⟨W.drew, (Below.refl _ W).drew⟩, rfl⟩ ?_
  have l0 : ∀ s : Later W.heap.size W, s.W.cell? ⟨w1.heap.size, 0, none⟩ = some _ := fun s => s.cell (cell_at kc 0) (Array.getElem?_eq_some_iff.1 kc).1
  have l1 : ∀ s : Later W.heap.size W, s.W.cell? ⟨w1.heap.size, 1, none⟩ = some _ := fun s => s.cell (cell_at kc 1) (Array.getElem?_eq_some_iff.1 kc).1
  have l2 : ∀ s : Later W.heap.size W, s.W.cell? ⟨w1.heap.size, 2, none⟩ = some _ := fun s => s.cell (cell_at kc 2) (Array.getElem?_eq_some_iff.1 kc).1
  refine wpL_calm (fun K hK => ?_); go_simp; refine hK _ ?_; clear hK K
  refine wpL_plain (fun K hK => ?_); go_simp; refine hK _ ?_; clear hK K
  clear l0 l1 l2 kc kq1
  refine wpL_eff rfl (fun K hK => ?_)
  go_simp
  refine ⟨trivial, (callsIn_wide.2 (HTold.out W.drew)).mono ?_⟩
  rintro e w3 ⟨rfl, hB3⟩
  have hD3 : Below W.heap.size W w3 := (Below.refl W.heap.size W).drew.trans hB3
  refine ⟨_, rfl, hK _ _ ⟨⟨_, hD3⟩, rfl⟩ ?_⟩
  clear hK K
  have kq3 := (hD3.block _ (Array.getElem?_eq_some_iff.1 kq).1).trans kq
  have HBb := Lib.hid (HBa.out.trans (hD3.mono HBa.out.size))
  have g0 := cell_at kq3 0
  have g1 := cell_at kq3 1
  have g2 := cell_at kq3 2
  have f0 := frz_at kq3 0
  have f1 := frz_at kq3 1
  have f2 := frz_at kq3 2
  refine wpL_last rfl (fun K hK => ?_)
  go_simp
  refine hK _ _ ?_
  clear hK K
  refine wpL_plain (fun K hK => ?_)
  go_simp
  refine hK _ ?_
  clear hK K
  refine wpL_nil ?_
  go_wp2_with fail
  refine bodyPost_ret (v := .tuple #[.agg #[.int .u64 0, .int .i64 0, .int .u64 0], .int .i64 171]) (by simp [results, Tryd.results11, go_sem, g0, g1, g2]) rfl ⟨rfl, ?_⟩
  exact ((HBb.out.setCell (by show w.heap.size ≤ w.heap.size + 1; omega) _).setCell (by show w.heap.size ≤ w.heap.size + 1; omega) _).setCell (by show w.heap.size ≤ w.heap.size + 1; omega) _

set_option maxRecDepth 100000 in
set_option maxHeartbeats 8000000 in
theorem checked_ok (a0 b0 : Addr) (a b : BitVec 64) (s : ByteArray) (hs : s.size ≤ 9223372036854775807) (now : BitVec 64) (h : clB s = true) (h2 : sumB a b s = true) (h3 : now.toNat ≤ (clU s).toNat) (B : Nat) (w : World) (hS : Sent a0 b0 B w) :
    Calls Tryd.prog 26 #[.agg #[.int .u64 (U a), .int .u64 (U b)], .string s, .int .u64 (U now)] w fun e w' => e = .returned (.tuple #[.agg #[.int .u64 (U (clT s)), .int .i64 (U (clR s)), .int .u64 (U (clU s))], .nilIface]) ∧ Below w.heap.size w w' := by
  have e0 : (((w.alloc (.cells #[.int .u64 (U a), .int .u64 (U b)] 24)).alloc (.cells #[.int .u64 0, .int .i64 0, .int .u64 0] 26)).alloc (.cells #[.string s] 66)).heap[w.heap.size]? = some (.cells #[.int .u64 (U a), .int .u64 (U b)] 24 (0, 0)) := old_at (old_at (new_at _ _ _ rfl))
  have q0 : (((w.alloc (.cells #[.int .u64 (U a), .int .u64 (U b)] 24)).alloc (.cells #[.int .u64 0, .int .i64 0, .int .u64 0] 26)).alloc (.cells #[.string s] 66)).heap[w.heap.size + 1]? = some (.cells #[.int .u64 0, .int .i64 0, .int .u64 0] 26 (0, 0)) := old_at (new_at _ _ _ (by simp))
  have k0 : (((w.alloc (.cells #[.int .u64 (U a), .int .u64 (U b)] 24)).alloc (.cells #[.int .u64 0, .int .i64 0, .int .u64 0] 26)).alloc (.cells #[.string s] 66)).heap[w.heap.size + 1 + 1]? = some (.cells #[.string s] 66 (0, 0)) := new_at _ _ _ (by simp)
  have hB0 : Below w.heap.size w (((w.alloc (.cells #[.int .u64 (U a), .int .u64 (U b)] 24)).alloc (.cells #[.int .u64 0, .int .i64 0, .int .u64 0] 26)).alloc (.cells #[.string s] 66)) := (((Below.refl _ w).alloc (Nat.le_refl _) _).alloc (by simp) _).alloc (by simp; omega) _
  have hS0 := sent_to ((sent_up hS).later hB0) (show w.heap.size ≤ w.heap.size + 2 by omega) (show w.heap.size + 2 ≤ _ by simp)
  have E0 := Lib.hid e0
  have Q0 := Lib.hid q0
  have K0 := Lib.hid k0
  have S0 := Lib.hid hS0
  have B0 := Lib.hid hB0
  clear e0 q0 k0 hB0 hS0 hS
  have HC := Lib.hid (claim_yes a0 b0 (w.heap.size + 2) (w.heap.size + 1 + 1) s hs _ S0.out (Nat.le_refl _) K0.out h)
  have hsz := clB_size h
  obtain ⟨-, -, -, r1, r3, r8⟩ := clB_true h
  have HS8 := Lib.hid r8
  have HCh := Lib.hid (fun W => tchild_any a b W)
  have HSi := Lib.hid (fun W => tsip_any a b (s.extract 0 (s.size - 8)) (by rw [ByteArray.size_extract]; omega) W)
  have HSu := Lib.hid (fun W => tsum_any (clE s) (by omega) W)
  have HSa := Lib.hid (fun W => same_yes (of_decide_eq_true h2) W)
  have hU : U (clR s) = ((clR s).toNat : Int) := rfl
  have hr0 : (U (clR s) == 0) = false := by rw [beq_eq_false_iff_ne]; omega
  have hsI : (8 : Int) ≤ ((s.size : Nat) : Int) := by omega
  have m1 : ¬ U (clU s) < U now := by unfold U; omega
  clear hU r1 r3 r8 h h2 h3
  go_enter Tryd.func26, Tryd.ntmps26
  go_wp2_with fail
  refine HC.out.mono ?_
  rintro e w1 ⟨rfl, hP⟩
  have hB1 := hP.below (Nat.le_refl _) S0.out.bs
  have ke1 := hP.other (show w.heap.size ≠ w.heap.size + 1 + 1 by omega) E0.out
  have kq1 := hP.other (show w.heap.size + 1 ≠ w.heap.size + 1 + 1 by omega) Q0.out
  have kk1 := hP.get (Array.getElem?_eq_some_iff.1 K0.out).1
  have HB1 := Lib.hid (B0.out.trans (hB1.mono (show w.heap.size ≤ w.heap.size + 2 by omega)))
  clear hB1 hP
  go_wp2_with fail
  have ke := old_at (o := .cells #[.int .u64 (U (clT s)), .int .i64 (U (clR s)), .int .u64 (U (clU s))] 26) ke1
  have kq := old_at (o := .cells #[.int .u64 (U (clT s)), .int .i64 (U (clR s)), .int .u64 (U (clU s))] 26) kq1
  have kk := old_at (o := .cells #[.int .u64 (U (clT s)), .int .i64 (U (clR s)), .int .u64 (U (clU s))] 26) kk1
  have kc : (w1.alloc (.cells #[.int .u64 (U (clT s)), .int .i64 (U (clR s)), .int .u64 (U (clU s))] 26)).heap[w1.heap.size]? = some (.cells #[.int .u64 (U (clT s)), .int .i64 (U (clR s)), .int .u64 (U (clU s))] 26 (0, 0)) := new_at w1 _ _ rfl
  have HBa : Hid (Below w.heap.size w (w1.alloc (.cells #[.int .u64 (U (clT s)), .int .i64 (U (clR s)), .int .u64 (U (clU s))] 26))) := Lib.hid (HB1.out.alloc HB1.out.size _)
  generalize w1.alloc (.cells #[.int .u64 (U (clT s)), .int .i64 (U (clR s)), .int .u64 (U (clU s))] 26) = W at *
  refine wp_region_later W.heap.size (by kernel_rfl) (by kernel_rfl) ?_
  have l0 : ∀ s' : Later W.heap.size W, s'.W.cell? ⟨w.heap.size, 0, none⟩ = some _ := fun s' => s'.cell (cell_at ke 0) (Array.getElem?_eq_some_iff.1 ke).1
  have l1 : ∀ s' : Later W.heap.size W, s'.W.cell? ⟨w.heap.size, 1, none⟩ = some _ := fun s' => s'.cell (cell_at ke 1) (Array.getElem?_eq_some_iff.1 ke).1
  have l2 : ∀ s' : Later W.heap.size W, s'.W.cell? ⟨w.heap.size + 1 + 1, 0, none⟩ = some _ := fun s' => s'.cell (cell_at kk 0) (Array.getElem?_eq_some_iff.1 kk).1
  have l3 : ∀ s' : Later W.heap.size W, s'.W.cell? ⟨w1.heap.size, 0, none⟩ = some _ := fun s' => s'.cell (cell_at kc 0) (Array.getElem?_eq_some_iff.1 kc).1
  have l4 : ∀ s' : Later W.heap.size W, s'.W.cell? ⟨w1.heap.size, 1, none⟩ = some _ := fun s' => s'.cell (cell_at kc 1) (Array.getElem?_eq_some_iff.1 kc).1
  have l5 : ∀ s' : Later W.heap.size W, s'.W.cell? ⟨w1.heap.size, 2, none⟩ = some _ := fun s' => s'.cell (cell_at kc 2) (Array.getElem?_eq_some_iff.1 kc).1
  repeat (go_big_quiet_step (first | (go_at_call 25; with_reducible exact Calls.later (Nat.le_refl _) (HCh.out _)) | (go_at_call 24; with_reducible exact Calls.later (Nat.le_refl _) (HSi.out _)) | (go_at_call 40; with_reducible exact Calls.later_same (HSu.out _)) | (go_at_call 39; with_reducible exact Calls.later_same (HSa.out _))))
  refine wpQuiet_nil ?_
  rintro _ ⟨s', rfl⟩
  clear l0 l1 l2 l3 l4 l5
  have kq' := (s'.below.block _ (Array.getElem?_eq_some_iff.1 kq).1).trans kq
  have kc' := (s'.below.block _ (Array.getElem?_eq_some_iff.1 kc).1).trans kc
  have HB := Lib.hid (HBa.out.trans (s'.below.mono HBa.out.size))
  have g0 := cell_at kq' 0
  have g1 := cell_at kq' 1
  have g2 := cell_at kq' 2
  have f0 := frz_at kq' 0
  have f1 := frz_at kq' 1
  have f2 := frz_at kq' 2
  have d0 := cell_at kc' 0
  have d1 := cell_at kc' 1
  have d2 := cell_at kc' 2
  clear ke kq kk kc kq' kc' ke1 kq1 kk1
  go_wp2_with fail
  refine bodyPost_ret (v := .tuple #[.agg #[.int .u64 (U (clT s)), .int .i64 (U (clR s)), .int .u64 (U (clU s))], .nilIface]) (by simp [results, Tryd.results26, go_sem, g0, g1, g2]) rfl ⟨rfl, ?_⟩
  exact ((HB.out.setCell (by show w.heap.size ≤ w.heap.size + 1; omega) _).setCell (by show w.heap.size ≤ w.heap.size + 1; omega) _).setCell (by show w.heap.size ≤ w.heap.size + 1; omega) _

set_option maxRecDepth 100000 in
set_option maxHeartbeats 8000000 in
theorem Check_ok (a0 b0 : Addr) (a b : BitVec 64) (s : ByteArray) (hs : s.size ≤ 9223372036854775807) (now : BitVec 64) (h : clB s = true) (h2 : sumB a b s = true) (h3 : now.toNat ≤ (clU s).toNat) (B : Nat) (w : World) (hS : Sent a0 b0 B w) :
    Calls Tryd.prog 11 #[.agg #[.int .u64 (U a), .int .u64 (U b)], .string s, .int .u64 (U now)] w fun e w' => e = .returned (.tuple #[.agg #[.int .u64 (U (clT s)), .int .i64 (U (clR s)), .int .u64 (U (clU s))], .int .i64 0]) ∧ Below w.heap.size w w' := by
  have q0 : ((w.alloc (.cells #[.int .u64 (U a), .int .u64 (U b)] 24)).alloc (.cells #[.int .u64 0, .int .i64 0, .int .u64 0] 26)).heap[w.heap.size + 1]? = some (.cells #[.int .u64 0, .int .i64 0, .int .u64 0] 26 (0, 0)) := new_at _ _ _ (by simp)
  have hB0 : Below w.heap.size w ((w.alloc (.cells #[.int .u64 (U a), .int .u64 (U b)] 24)).alloc (.cells #[.int .u64 0, .int .i64 0, .int .u64 0] 26)) := ((Below.refl _ w).alloc (Nat.le_refl _) _).alloc (by simp) _
  have HC := Lib.hid (checked_ok a0 b0 a b s hs now h h2 h3 w.heap.size _ ((sent_up hS).later hB0))
  have Q0 := Lib.hid q0
  have B0 := Lib.hid hB0
  have HTold := Lib.hid (fun W => ttold_nil W)
  clear q0 hB0 hS h h2 h3
  go_enter Tryd.func11, Tryd.ntmps11
  go_wp2_with fail
  refine HC.out.mono ?_
  rintro e w1 ⟨rfl, hB1⟩
  have kq1 := (hB1.block _ (Array.getElem?_eq_some_iff.1 Q0.out).1).trans Q0.out
  have HB1 := Lib.hid (B0.out.trans (hB1.mono B0.out.size))
  clear hB1
  go_wp2_with fail
  have kq := old_at (o := .cells #[.int .u64 (U (clT s)), .int .i64 (U (clR s)), .int .u64 (U (clU s))] 26) kq1
  have kc : (w1.alloc (.cells #[.int .u64 (U (clT s)), .int .i64 (U (clR s)), .int .u64 (U (clU s))] 26)).heap[w1.heap.size]? = some (.cells #[.int .u64 (U (clT s)), .int .i64 (U (clR s)), .int .u64 (U (clU s))] 26 (0, 0)) := new_at w1 _ _ rfl
  have HBa : Hid (Below w.heap.size w (w1.alloc (.cells #[.int .u64 (U (clT s)), .int .i64 (U (clR s)), .int .u64 (U (clU s))] 26))) := Lib.hid (HB1.out.alloc HB1.out.size _)
  generalize w1.alloc (.cells #[.int .u64 (U (clT s)), .int .i64 (U (clR s)), .int .u64 (U (clU s))] 26) = W at *
  refine region_mix_last_plain (C := fun W' => ∃ s : Later W.heap.size W, W' = s.W) [0, 3, 1, 2, 3] (by kernel_rfl) (by kernel_rfl) (by kernel_rfl) (by kernel_rfl) (by kernel_rfl) ⟨⟨W.drew, (Below.refl _ W).drew⟩, rfl⟩ ?_
  have l0 : ∀ s : Later W.heap.size W, s.W.cell? ⟨w1.heap.size, 0, none⟩ = some _ := fun s => s.cell (cell_at kc 0) (Array.getElem?_eq_some_iff.1 kc).1
  have l1 : ∀ s : Later W.heap.size W, s.W.cell? ⟨w1.heap.size, 1, none⟩ = some _ := fun s => s.cell (cell_at kc 1) (Array.getElem?_eq_some_iff.1 kc).1
  have l2 : ∀ s : Later W.heap.size W, s.W.cell? ⟨w1.heap.size, 2, none⟩ = some _ := fun s => s.cell (cell_at kc 2) (Array.getElem?_eq_some_iff.1 kc).1
  refine wpL_calm (fun K hK => ?_); go_simp; refine hK _ ?_; clear hK K
  refine wpL_plain (fun K hK => ?_); go_simp; refine hK _ ?_; clear hK K
  clear l0 l1 l2 kc kq1
  refine wpL_eff rfl (fun K hK => ?_)
  go_simp
  refine ⟨trivial, (callsIn_wide.2 (HTold.out W.drew)).mono ?_⟩
  rintro e w3 ⟨rfl, hB3⟩
  have hD3 : Below W.heap.size W w3 := (Below.refl W.heap.size W).drew.trans hB3
  refine ⟨_, rfl, hK _ _ ⟨⟨_, hD3⟩, rfl⟩ ?_⟩
  clear hK K
  have kq3 := (hD3.block _ (Array.getElem?_eq_some_iff.1 kq).1).trans kq
  have HBb := Lib.hid (HBa.out.trans (hD3.mono HBa.out.size))
  have g0 := cell_at kq3 0
  have g1 := cell_at kq3 1
  have g2 := cell_at kq3 2
  have f0 := frz_at kq3 0
  have f1 := frz_at kq3 1
  have f2 := frz_at kq3 2
  refine wpL_last rfl (fun K hK => ?_)
  go_simp
  refine hK _ _ ?_
  clear hK K
  refine wpL_plain (fun K hK => ?_)
  go_simp
  refine hK _ ?_
  clear hK K
  refine wpL_nil ?_
  go_wp2_with fail
  refine bodyPost_ret (v := .tuple #[.agg #[.int .u64 (U (clT s)), .int .i64 (U (clR s)), .int .u64 (U (clU s))], .int .i64 0]) (by simp [results, Tryd.results11, go_sem, g0, g1, g2]) rfl ⟨rfl, ?_⟩
  exact ((HBb.out.setCell (by show w.heap.size ≤ w.heap.size + 1; omega) _).setCell (by show w.heap.size ≤ w.heap.size + 1; omega) _).setCell (by show w.heap.size ≤ w.heap.size + 1; omega) _
end Go.Proofs.YtpekedldoplmmaaDoor
