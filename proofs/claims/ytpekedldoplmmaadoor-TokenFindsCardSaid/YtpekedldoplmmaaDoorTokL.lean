/-
  What TOKEN's statements show first. Printed by gen_tokl.py.
-/
import Derived.Test.YtpekedldoplmmaaDoorTokK
namespace Go.Proofs.YtpekedldoplmmaaDoor
open Go.RowKit Go.Shelf

theorem keep {w w' : World} {b : Nat} {o : Obj} (h : w.heap[b]? = some o) (hB : Below w.heap.size w w') : w'.heap[b]? = some o := (hB.block b (Array.getElem?_eq_some_iff.1 h).1).trans h
theorem free_at {w : World} {b : Nat} {cs : Array Value} {T : TypeId} (h : w.heap[b]? = some (.cells cs T (0, 0))) (i : Nat) : w.frozen? ⟨b, i, none⟩ = false := by simp [World.frozen?, h]
theorem shown_text : (tokT 1#64 2#64 300#64 2#64 5#64).size = 12 ∧ (tokT 1#64 2#64 300#64 2#64 5#64).extract 0 4 = ⟨#[241, 60, 2, 5]⟩ := by
  have hb : bodyT 300#64 2#64 5#64 = ⟨#[241, 60, 2, 5]⟩ := by decide +kernel
  unfold tokT
  rw [hb]
  have he := eight_size (sumT 1#64 2#64 ⟨#[241, 60, 2, 5]⟩)
  generalize eight (sumT 1#64 2#64 ⟨#[241, 60, 2, 5]⟩) = E at *
  constructor
  · rw [ByteArray.size_append, he]; rfl
  · exact extract_left _ _
theorem shown_none : ckE 1#64 2#64 ⟨#[120]⟩ 5#64 = 170 := ck_none (by decide +kernel)
theorem may23 : mayB 2 3 = true := by decide +kernel
set_option maxRecDepth 100000 in
set_option maxHeartbeats 4000000 in
theorem shown_any (a0 b0 : Addr) (B : Nat) (w : World) (hS : Sent a0 b0 B w) : Calls Tryd.prog 9 #[] w fun e w' => e = .returned (.bool true) ∧ Below w.heap.size w w' := by
  have u1 : U 1#64 = 1 := by decide +kernel
  have u2 : U 2#64 = 2 := by decide +kernel
  have u3 : U 300#64 = 300 := by decide +kernel
  have u5 : U 5#64 = 5 := by decide +kernel
  have u6 : U 6#64 = 6 := by decide +kernel
  have HM := Lib.hid (fun W => by
    have h := Mint_any 1#64 2#64 300#64 5#64 2 W
    rw [minB_ok _ _ _ _ (by omega) (by omega), show roleU 2 = 2#64 by decide, show minE 2 = 0 by decide, u1, u2, u3, u5] at h
    exact h)
  obtain ⟨hsz, hx⟩ := shown_text
  have t5 := tok_check 1#64 2#64 300#64 2#64 5#64 5#64 (by decide) (by decide)
  rw [if_pos (by decide)] at t5
  have t6 := tok_check 1#64 2#64 300#64 2#64 5#64 6#64 (by decide) (by decide)
  rw [if_neg (by decide)] at t6
  have tx := shown_none
  generalize tokT 1#64 2#64 300#64 2#64 5#64 = T at *
  have H5 := Lib.hid (fun W hS => by
    have h := Check_any a0 b0 1#64 2#64 T (by omega) 5#64 w.heap.size W hS
    rw [t5.1, t5.2.1, t5.2.2.1, t5.2.2.2, u1, u2, u3, u5] at h
    exact h)
  have H6 := Lib.hid (fun W hS => by
    have h := Check_any a0 b0 1#64 2#64 T (by omega) 6#64 w.heap.size W hS
    rw [t6.1, t6.2.1, t6.2.2.1, t6.2.2.2, u1, u2, u6, U_0] at h
    exact h)
  have HX := Lib.hid (fun W hS => by
    have h := Check_any a0 b0 1#64 2#64 ⟨#[120]⟩ (by decide) 5#64 w.heap.size W hS
    obtain ⟨x1, x2, x3⟩ := ck_bad (a := 1#64) (b := 2#64) (s := ⟨#[120]⟩) (now := 5#64) (by omega)
    rw [tx, x1, x2, x3, u1, u2, u5, U_0] at h
    exact h)
  have HMay := Lib.hid (fun W => by have h := May_any 2 3 W; rw [may23] at h; exact h)
  have HS := Lib.hid (sent_up hS)
  clear hS u1 u2 u3 u5 u6 t5 t6 tx
  go_enter Tryd.func9, Tryd.ntmps9
  have hB : Below w.heap.size w w := Below.refl _ w
  go_wp2_with fail
  have hA : Below w.heap.size w ((w.alloc (.cells #[.int .u64 1, .int .u64 2] 24)).alloc (.cells #[.int .u64 300, .int .i64 2, .int .u64 5] 26)) := ((Below.refl _ w).alloc (Nat.le_refl _) _).alloc (by simp) _
  have hq0 := hB.size
  replace hB := hB.trans (hA.mono hB.size)
  have k_k : ((w.alloc (.cells #[.int .u64 1, .int .u64 2] 24)).alloc (.cells #[.int .u64 300, .int .i64 2, .int .u64 5] 26)).heap[w.heap.size]? = some (.cells #[.int .u64 1, .int .u64 2] 24 (0, 0)) := old_at (new_at _ _ _ rfl)
  have k_c : ((w.alloc (.cells #[.int .u64 1, .int .u64 2] 24)).alloc (.cells #[.int .u64 300, .int .i64 2, .int .u64 5] 26)).heap[w.heap.size + 1]? = some (.cells #[.int .u64 300, .int .i64 2, .int .u64 5] 26 (0, 0)) := new_at _ _ _ (by simp)
  obtain ⟨b_c, hb1⟩ : ∃ b, w.heap.size + 1 = b := ⟨_, rfl⟩
  have q_c : w.heap.size ≤ b_c := by omega
  rw [hb1] at k_c ⊢
  obtain ⟨b_k, hb0⟩ : ∃ b, w.heap.size = b := ⟨_, rfl⟩
  have q_k : w.heap.size ≤ b_k := by omega
  rw [hb0] at k_k ⊢
  have lt_k_c : b_k < b_c := by omega
  clear hA hq0 hb0 hb1
  generalize ((w.alloc (.cells #[.int .u64 1, .int .u64 2] 24)).alloc (.cells #[.int .u64 300, .int .i64 2, .int .u64 5] 26)) = u1 at *
  refine (HM.out _).mono ?_
  rintro e u2 ⟨rfl, hC⟩
  replace k_k := keep k_k hC
  replace k_c := keep k_c hC
  replace hB := hB.trans (hC.mono hB.size)
  clear hC
  have x_k_0 := cell_at k_k 0
  have x_k_1 := cell_at k_k 1
  go_wp2_with fail
  clear x_k_0 x_k_1
  refine (H5.out _ (HS.out.later hB)).mono ?_
  rintro e u3 ⟨rfl, hC⟩
  replace k_k := keep k_k hC
  replace k_c := keep k_c hC
  replace hB := hB.trans (hC.mono hB.size)
  clear hC
  have x_k_0 := old_cell (cell_at k_k 0)
  have x_k_1 := old_cell (cell_at k_k 1)
  go_wp2_with fail
  clear x_k_0 x_k_1
  have hA : Below u3.heap.size u3 (u3.alloc (.cells #[.int .u64 300, .int .i64 2, .int .u64 5] 26)) := (Below.refl _ u3).alloc (Nat.le_refl _) _
  replace k_k := keep k_k hA
  replace k_c := keep k_c hA
  replace hB := hB.trans (hA.mono hB.size)
  have k_d := new_at u3 (.cells #[.int .u64 300, .int .i64 2, .int .u64 5] 26) _ rfl
  obtain ⟨b_d, hb⟩ : ∃ b, u3.heap.size = b := ⟨_, rfl⟩
  rw [hb] at k_d ⊢
  clear hA hb
  generalize u3.alloc (.cells #[.int .u64 300, .int .i64 2, .int .u64 5] 26) = u4 at *
  clear u3
  refine (H6.out _ (HS.out.later hB)).mono ?_
  rintro e u5 ⟨rfl, hC⟩
  replace k_k := keep k_k hC
  replace k_c := keep k_c hC
  replace k_d := keep k_d hC
  replace hB := hB.trans (hC.mono hB.size)
  clear hC
  have x_k_0 := old_cell (cell_at k_k 0)
  have x_k_1 := old_cell (cell_at k_k 1)
  go_wp2_with fail
  clear x_k_0 x_k_1
  have hA : Below u5.heap.size u5 (u5.alloc (.cells #[.int .u64 0, .int .i64 0, .int .u64 0] 26)) := (Below.refl _ u5).alloc (Nat.le_refl _) _
  replace k_k := keep k_k hA
  replace k_c := keep k_c hA
  replace k_d := keep k_d hA
  replace hB := hB.trans (hA.mono hB.size)
  have k_x := new_at u5 (.cells #[.int .u64 0, .int .i64 0, .int .u64 0] 26) _ rfl
  obtain ⟨b_x, hb⟩ : ∃ b, u5.heap.size = b := ⟨_, rfl⟩
  rw [hb] at k_x ⊢
  clear hA hb
  generalize u5.alloc (.cells #[.int .u64 0, .int .i64 0, .int .u64 0] 26) = u6 at *
  clear u5
  refine (HX.out _ (HS.out.later hB)).mono ?_
  rintro e u7 ⟨rfl, hC⟩
  replace k_k := keep k_k hC
  replace k_c := keep k_c hC
  replace k_d := keep k_d hC
  replace k_x := keep k_x hC
  replace hB := hB.trans (hC.mono hB.size)
  clear hC
  have x_c_0 := old_cell (cell_at k_c 0)
  have x_c_1 := old_cell (cell_at k_c 1)
  have x_c_2 := old_cell (cell_at k_c 2)
  have x_d_0 := old_cell (cell_at k_d 0)
  have x_d_1 := old_cell (cell_at k_d 1)
  have x_d_2 := old_cell (cell_at k_d 2)
  go_wp2_with fail
  clear x_c_0 x_c_1 x_c_2 x_d_0 x_d_1 x_d_2
  have hA : Below u7.heap.size u7 (u7.alloc (.cells #[.int .u64 0, .int .i64 0, .int .u64 0] 26)) := (Below.refl _ u7).alloc (Nat.le_refl _) _
  replace k_k := keep k_k hA
  replace k_c := keep k_c hA
  replace k_d := keep k_d hA
  replace k_x := keep k_x hA
  replace hB := hB.trans (hA.mono hB.size)
  have k_y := new_at u7 (.cells #[.int .u64 0, .int .i64 0, .int .u64 0] 26) _ rfl
  obtain ⟨b_y, hb⟩ : ∃ b, u7.heap.size = b := ⟨_, rfl⟩
  rw [hb] at k_y ⊢
  clear hA hb
  generalize u7.alloc (.cells #[.int .u64 0, .int .i64 0, .int .u64 0] 26) = u8 at *
  clear u7
  refine (HMay.out _).mono ?_
  rintro e u9 ⟨rfl, hC⟩
  replace k_k := keep k_k hC
  replace k_c := keep k_c hC
  replace k_d := keep k_d hC
  replace k_x := keep k_x hC
  replace k_y := keep k_y hC
  replace hB := hB.trans (hC.mono hB.size)
  clear hC
  go_wp2_with fail
  go_ret
  exact ⟨rfl, hB⟩
end Go.Proofs.YtpekedldoplmmaaDoor
