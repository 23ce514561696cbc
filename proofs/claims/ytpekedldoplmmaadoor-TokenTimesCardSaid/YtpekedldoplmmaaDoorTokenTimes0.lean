/-
  The walk of TokenTimes. Printed by gen_tokl.py.
-/
import Derived.Test.YtpekedldoplmmaaDoorTokL
namespace Go.Proofs.YtpekedldoplmmaaDoor
open Go.RowKit Go.Shelf

theorem times_law (a b t r u x y : BitVec 64) (h1 : 1 ≤ r.toNat) (h2 : r.toNat ≤ 3) (hxy : y.toNat ≤ x.toNat) : (ckE a b (tokT a b t r u) x = 0 ∧ ckE a b (tokT a b t r u) y = 0) ∨ (ckE a b (tokT a b t r u) x = 171 ∧ ckE a b (tokT a b t r u) y = 0) ∨ (ckE a b (tokT a b t r u) x = 171 ∧ ckE a b (tokT a b t r u) y = 171) := by
  have kx := tok_check a b t r u x h1 h2
  have ky := tok_check a b t r u y h1 h2
  by_cases hx : x.toNat ≤ u.toNat
  · rw [if_pos hx] at kx
    rw [if_pos (by omega)] at ky
    exact .inl ⟨kx.1, ky.1⟩
  · rw [if_neg hx] at kx
    by_cases hy : y.toNat ≤ u.toNat
    · rw [if_pos hy] at ky
      exact .inr (.inl ⟨kx.1, ky.1⟩)
    · rw [if_neg hy] at ky
      exact .inr (.inr ⟨kx.1, ky.1⟩)
set_option maxRecDepth 100000 in
set_option maxHeartbeats 4000000 in
theorem walk_TokenTimes (a0 b0 : Addr) (a b t : BitVec 64) (role : Int) (u : BitVec 64) (now next : BitVec 64) (w : World) (hS : Sent a0 b0 w.heap.size w) :
    Calls Tryd.prog 5 #[.agg #[.int .u64 (U a), .int .u64 (U b)], .agg #[.int .u64 (U t), .int .i64 role, .int .u64 (U u)], .int .u64 (U now), .int .u64 (U next)] w fun e w' => e = .returned (.bool true) ∧ Below w.heap.size w w' := by
  have HS := Lib.hid hS
  have HM := Lib.hid (fun W => Mint_any a b t u role W)
  clear hS
  rcases minE_cases role with ⟨r1, r3, e⟩ | ⟨hn, e⟩
  · rw [e, minB_ok a b t u r1 r3] at HM
    obtain ⟨n1, n3⟩ := roleU_nat r1 r3
    have hsz := tokT_size a b t (roleU role) u
    rcases Nat.lt_trichotomy now.toNat next.toNat with hm | hm | hm
    · have hl := times_law a b t (roleU role) u next now n1 n3 (by omega)
      have m1 : U now < U next := by unfold U; omega
      have m2 : ¬ U next < U now := by unfold U; omega
      have HX := Lib.hid (fun W hS => Check_any a0 b0 a b (tokT a b t (roleU role) u) (by omega) next w.heap.size W hS)
      have HY := Lib.hid (fun W hS => Check_any a0 b0 a b (tokT a b t (roleU role) u) (by omega) now w.heap.size W hS)
      clear n1 n3 e r1 r3 hm hsz
      generalize tokT a b t (roleU role) u = T at *
      generalize kT a b T next = Tx at *
      generalize kR a b T next = Rx at *
      generalize kU a b T next = Vx at *
      generalize ckE a b T next = Ex at *
      generalize kT a b T now = Ty at *
      generalize kR a b T now = Ry at *
      generalize kU a b T now = Vy at *
      generalize ckE a b T now = Ey at *
      rcases hl with ⟨rfl, rfl⟩ | ⟨rfl, rfl⟩ | ⟨rfl, rfl⟩
      · go_enter Tryd.func5, Tryd.ntmps5
        have hB : Below w.heap.size w w := Below.refl _ w
        go_wp2_with fail
        have hA : Below w.heap.size w ((w.alloc (.cells #[.int .u64 (U a), .int .u64 (U b)] 24)).alloc (.cells #[.int .u64 (U t), .int .i64 role, .int .u64 (U u)] 26)) := ((Below.refl _ w).alloc (Nat.le_refl _) _).alloc (by simp) _
        have hq0 := hB.size
        replace hB := hB.trans (hA.mono hB.size)
        have k_k : ((w.alloc (.cells #[.int .u64 (U a), .int .u64 (U b)] 24)).alloc (.cells #[.int .u64 (U t), .int .i64 role, .int .u64 (U u)] 26)).heap[w.heap.size]? = some (.cells #[.int .u64 (U a), .int .u64 (U b)] 24 (0, 0)) := old_at (new_at _ _ _ rfl)
        have k_c : ((w.alloc (.cells #[.int .u64 (U a), .int .u64 (U b)] 24)).alloc (.cells #[.int .u64 (U t), .int .i64 role, .int .u64 (U u)] 26)).heap[w.heap.size + 1]? = some (.cells #[.int .u64 (U t), .int .i64 role, .int .u64 (U u)] 26 (0, 0)) := new_at _ _ _ (by simp)
        obtain ⟨b_c, hb1⟩ : ∃ b, w.heap.size + 1 = b := ⟨_, rfl⟩
        have q_c : w.heap.size ≤ b_c := by omega
        rw [hb1] at k_c ⊢
        obtain ⟨b_k, hb0⟩ : ∃ b, w.heap.size = b := ⟨_, rfl⟩
        have q_k : w.heap.size ≤ b_k := by omega
        rw [hb0] at k_k ⊢
        have lt_k_c : b_k < b_c := by omega
        clear hA hq0 hb0 hb1
        generalize ((w.alloc (.cells #[.int .u64 (U a), .int .u64 (U b)] 24)).alloc (.cells #[.int .u64 (U t), .int .i64 role, .int .u64 (U u)] 26)) = u1 at *
        refine (shown_any a0 b0 w.heap.size _ (HS.out.later hB)).mono ?_
        rintro e u2 ⟨rfl, hC⟩
        replace k_k := keep k_k hC
        replace k_c := keep k_c hC
        replace hB := hB.trans (hC.mono hB.size)
        clear hC
        have x_k_0 := cell_at k_k 0
        have x_k_1 := cell_at k_k 1
        have x_c_0 := cell_at k_c 0
        have x_c_1 := cell_at k_c 1
        have x_c_2 := cell_at k_c 2
        go_wp2_with fail
        clear x_k_0 x_k_1 x_c_0 x_c_1 x_c_2
        refine (HM.out _).mono ?_
        rintro e u3 ⟨rfl, hC⟩
        replace k_k := keep k_k hC
        replace k_c := keep k_c hC
        replace hB := hB.trans (hC.mono hB.size)
        clear hC
        have x_k_0 := cell_at k_k 0
        have x_k_1 := cell_at k_k 1
        go_wp2_with fail
        clear x_k_0 x_k_1
        refine (HX.out _ (HS.out.later hB)).mono ?_
        rintro e u4 ⟨rfl, hC⟩
        replace k_k := keep k_k hC
        replace k_c := keep k_c hC
        replace hB := hB.trans (hC.mono hB.size)
        clear hC
        have x_k_0 := old_cell (cell_at k_k 0)
        have x_k_1 := old_cell (cell_at k_k 1)
        go_wp2_with fail
        clear x_k_0 x_k_1
        have hA : Below u4.heap.size u4 (u4.alloc (.cells #[.int .u64 (U Tx), .int .i64 (U Rx), .int .u64 (U Vx)] 26)) := (Below.refl _ u4).alloc (Nat.le_refl _) _
        replace k_k := keep k_k hA
        replace k_c := keep k_c hA
        replace hB := hB.trans (hA.mono hB.size)
        have k_x := new_at u4 (.cells #[.int .u64 (U Tx), .int .i64 (U Rx), .int .u64 (U Vx)] 26) _ rfl
        obtain ⟨b_x, hb⟩ : ∃ b, u4.heap.size = b := ⟨_, rfl⟩
        rw [hb] at k_x ⊢
        clear hA hb
        generalize u4.alloc (.cells #[.int .u64 (U Tx), .int .i64 (U Rx), .int .u64 (U Vx)] 26) = u5 at *
        clear u4
        refine (HY.out _ (HS.out.later hB)).mono ?_
        rintro e u6 ⟨rfl, hC⟩
        replace k_k := keep k_k hC
        replace k_c := keep k_c hC
        replace k_x := keep k_x hC
        replace hB := hB.trans (hC.mono hB.size)
        clear hC
        go_wp2_with fail
        go_ret
        exact ⟨rfl, hB.alloc hB.size _⟩
      · go_enter Tryd.func5, Tryd.ntmps5
        have hB : Below w.heap.size w w := Below.refl _ w
        go_wp2_with fail
        have hA : Below w.heap.size w ((w.alloc (.cells #[.int .u64 (U a), .int .u64 (U b)] 24)).alloc (.cells #[.int .u64 (U t), .int .i64 role, .int .u64 (U u)] 26)) := ((Below.refl _ w).alloc (Nat.le_refl _) _).alloc (by simp) _
        have hq0 := hB.size
        replace hB := hB.trans (hA.mono hB.size)
        have k_k : ((w.alloc (.cells #[.int .u64 (U a), .int .u64 (U b)] 24)).alloc (.cells #[.int .u64 (U t), .int .i64 role, .int .u64 (U u)] 26)).heap[w.heap.size]? = some (.cells #[.int .u64 (U a), .int .u64 (U b)] 24 (0, 0)) := old_at (new_at _ _ _ rfl)
        have k_c : ((w.alloc (.cells #[.int .u64 (U a), .int .u64 (U b)] 24)).alloc (.cells #[.int .u64 (U t), .int .i64 role, .int .u64 (U u)] 26)).heap[w.heap.size + 1]? = some (.cells #[.int .u64 (U t), .int .i64 role, .int .u64 (U u)] 26 (0, 0)) := new_at _ _ _ (by simp)
        obtain ⟨b_c, hb1⟩ : ∃ b, w.heap.size + 1 = b := ⟨_, rfl⟩
        have q_c : w.heap.size ≤ b_c := by omega
        rw [hb1] at k_c ⊢
        obtain ⟨b_k, hb0⟩ : ∃ b, w.heap.size = b := ⟨_, rfl⟩
        have q_k : w.heap.size ≤ b_k := by omega
        rw [hb0] at k_k ⊢
        have lt_k_c : b_k < b_c := by omega
        clear hA hq0 hb0 hb1
        generalize ((w.alloc (.cells #[.int .u64 (U a), .int .u64 (U b)] 24)).alloc (.cells #[.int .u64 (U t), .int .i64 role, .int .u64 (U u)] 26)) = u1 at *
        refine (shown_any a0 b0 w.heap.size _ (HS.out.later hB)).mono ?_
        rintro e u2 ⟨rfl, hC⟩
        replace k_k := keep k_k hC
        replace k_c := keep k_c hC
        replace hB := hB.trans (hC.mono hB.size)
        clear hC
        have x_k_0 := cell_at k_k 0
        have x_k_1 := cell_at k_k 1
        have x_c_0 := cell_at k_c 0
        have x_c_1 := cell_at k_c 1
        have x_c_2 := cell_at k_c 2
        go_wp2_with fail
        clear x_k_0 x_k_1 x_c_0 x_c_1 x_c_2
        refine (HM.out _).mono ?_
        rintro e u3 ⟨rfl, hC⟩
        replace k_k := keep k_k hC
        replace k_c := keep k_c hC
        replace hB := hB.trans (hC.mono hB.size)
        clear hC
        have x_k_0 := cell_at k_k 0
        have x_k_1 := cell_at k_k 1
        go_wp2_with fail
        clear x_k_0 x_k_1
        refine (HX.out _ (HS.out.later hB)).mono ?_
        rintro e u4 ⟨rfl, hC⟩
        replace k_k := keep k_k hC
        replace k_c := keep k_c hC
        replace hB := hB.trans (hC.mono hB.size)
        clear hC
        have x_k_0 := old_cell (cell_at k_k 0)
        have x_k_1 := old_cell (cell_at k_k 1)
        go_wp2_with fail
        clear x_k_0 x_k_1
        have hA : Below u4.heap.size u4 (u4.alloc (.cells #[.int .u64 (U Tx), .int .i64 (U Rx), .int .u64 (U Vx)] 26)) := (Below.refl _ u4).alloc (Nat.le_refl _) _
        replace k_k := keep k_k hA
        replace k_c := keep k_c hA
        replace hB := hB.trans (hA.mono hB.size)
        have k_x := new_at u4 (.cells #[.int .u64 (U Tx), .int .i64 (U Rx), .int .u64 (U Vx)] 26) _ rfl
        obtain ⟨b_x, hb⟩ : ∃ b, u4.heap.size = b := ⟨_, rfl⟩
        rw [hb] at k_x ⊢
        clear hA hb
        generalize u4.alloc (.cells #[.int .u64 (U Tx), .int .i64 (U Rx), .int .u64 (U Vx)] 26) = u5 at *
        clear u4
        refine (HY.out _ (HS.out.later hB)).mono ?_
        rintro e u6 ⟨rfl, hC⟩
        replace k_k := keep k_k hC
        replace k_c := keep k_c hC
        replace k_x := keep k_x hC
        replace hB := hB.trans (hC.mono hB.size)
        clear hC
        go_wp2_with fail
        go_ret
        exact ⟨rfl, hB.alloc hB.size _⟩
      · go_enter Tryd.func5, Tryd.ntmps5
        have hB : Below w.heap.size w w := Below.refl _ w
        go_wp2_with fail
        have hA : Below w.heap.size w ((w.alloc (.cells #[.int .u64 (U a), .int .u64 (U b)] 24)).alloc (.cells #[.int .u64 (U t), .int .i64 role, .int .u64 (U u)] 26)) := ((Below.refl _ w).alloc (Nat.le_refl _) _).alloc (by simp) _
        have hq0 := hB.size
        replace hB := hB.trans (hA.mono hB.size)
        have k_k : ((w.alloc (.cells #[.int .u64 (U a), .int .u64 (U b)] 24)).alloc (.cells #[.int .u64 (U t), .int .i64 role, .int .u64 (U u)] 26)).heap[w.heap.size]? = some (.cells #[.int .u64 (U a), .int .u64 (U b)] 24 (0, 0)) := old_at (new_at _ _ _ rfl)
        have k_c : ((w.alloc (.cells #[.int .u64 (U a), .int .u64 (U b)] 24)).alloc (.cells #[.int .u64 (U t), .int .i64 role, .int .u64 (U u)] 26)).heap[w.heap.size + 1]? = some (.cells #[.int .u64 (U t), .int .i64 role, .int .u64 (U u)] 26 (0, 0)) := new_at _ _ _ (by simp)
        obtain ⟨b_c, hb1⟩ : ∃ b, w.heap.size + 1 = b := ⟨_, rfl⟩
        have q_c : w.heap.size ≤ b_c := by omega
        rw [hb1] at k_c ⊢
        obtain ⟨b_k, hb0⟩ : ∃ b, w.heap.size = b := ⟨_, rfl⟩
        have q_k : w.heap.size ≤ b_k := by omega
        rw [hb0] at k_k ⊢
        have lt_k_c : b_k < b_c := by omega
        clear hA hq0 hb0 hb1
        generalize ((w.alloc (.cells #[.int .u64 (U a), .int .u64 (U b)] 24)).alloc (.cells #[.int .u64 (U t), .int .i64 role, .int .u64 (U u)] 26)) = u1 at *
        refine (shown_any a0 b0 w.heap.size _ (HS.out.later hB)).mono ?_
        rintro e u2 ⟨rfl, hC⟩
        replace k_k := keep k_k hC
        replace k_c := keep k_c hC
        replace hB := hB.trans (hC.mono hB.size)
        clear hC
        have x_k_0 := cell_at k_k 0
        have x_k_1 := cell_at k_k 1
        have x_c_0 := cell_at k_c 0
        have x_c_1 := cell_at k_c 1
        have x_c_2 := cell_at k_c 2
        go_wp2_with fail
        clear x_k_0 x_k_1 x_c_0 x_c_1 x_c_2
        refine (HM.out _).mono ?_
        rintro e u3 ⟨rfl, hC⟩
        replace k_k := keep k_k hC
        replace k_c := keep k_c hC
        replace hB := hB.trans (hC.mono hB.size)
        clear hC
        have x_k_0 := cell_at k_k 0
        have x_k_1 := cell_at k_k 1
        go_wp2_with fail
        clear x_k_0 x_k_1
        refine (HX.out _ (HS.out.later hB)).mono ?_
        rintro e u4 ⟨rfl, hC⟩
        replace k_k := keep k_k hC
        replace k_c := keep k_c hC
        replace hB := hB.trans (hC.mono hB.size)
        clear hC
        have x_k_0 := old_cell (cell_at k_k 0)
        have x_k_1 := old_cell (cell_at k_k 1)
        go_wp2_with fail
        clear x_k_0 x_k_1
        have hA : Below u4.heap.size u4 (u4.alloc (.cells #[.int .u64 (U Tx), .int .i64 (U Rx), .int .u64 (U Vx)] 26)) := (Below.refl _ u4).alloc (Nat.le_refl _) _
        replace k_k := keep k_k hA
        replace k_c := keep k_c hA
        replace hB := hB.trans (hA.mono hB.size)
        have k_x := new_at u4 (.cells #[.int .u64 (U Tx), .int .i64 (U Rx), .int .u64 (U Vx)] 26) _ rfl
        obtain ⟨b_x, hb⟩ : ∃ b, u4.heap.size = b := ⟨_, rfl⟩
        rw [hb] at k_x ⊢
        clear hA hb
        generalize u4.alloc (.cells #[.int .u64 (U Tx), .int .i64 (U Rx), .int .u64 (U Vx)] 26) = u5 at *
        clear u4
        refine (HY.out _ (HS.out.later hB)).mono ?_
        rintro e u6 ⟨rfl, hC⟩
        replace k_k := keep k_k hC
        replace k_c := keep k_c hC
        replace k_x := keep k_x hC
        replace hB := hB.trans (hC.mono hB.size)
        clear hC
        go_wp2_with fail
        go_ret
        exact ⟨rfl, hB.alloc hB.size _⟩
    · obtain rfl : now = next := BitVec.eq_of_toNat_eq hm
      have hl := times_law a b t (roleU role) u now now n1 n3 (by omega)
      have HX := Lib.hid (fun W hS => Check_any a0 b0 a b (tokT a b t (roleU role) u) (by omega) now w.heap.size W hS)
      have HY := Lib.hid (fun W hS => Check_any a0 b0 a b (tokT a b t (roleU role) u) (by omega) now w.heap.size W hS)
      clear n1 n3 e r1 r3 hm hsz
      generalize tokT a b t (roleU role) u = T at *
      generalize kT a b T now = Tx at *
      generalize kR a b T now = Rx at *
      generalize kU a b T now = Vx at *
      generalize ckE a b T now = Ex at *
      rcases hl with ⟨rfl, -⟩ | ⟨h1, h2⟩ | ⟨rfl, -⟩
      · go_enter Tryd.func5, Tryd.ntmps5
        have hB : Below w.heap.size w w := Below.refl _ w
        go_wp2_with fail
        have hA : Below w.heap.size w ((w.alloc (.cells #[.int .u64 (U a), .int .u64 (U b)] 24)).alloc (.cells #[.int .u64 (U t), .int .i64 role, .int .u64 (U u)] 26)) := ((Below.refl _ w).alloc (Nat.le_refl _) _).alloc (by simp) _
        have hq0 := hB.size
        replace hB := hB.trans (hA.mono hB.size)
        have k_k : ((w.alloc (.cells #[.int .u64 (U a), .int .u64 (U b)] 24)).alloc (.cells #[.int .u64 (U t), .int .i64 role, .int .u64 (U u)] 26)).heap[w.heap.size]? = some (.cells #[.int .u64 (U a), .int .u64 (U b)] 24 (0, 0)) := old_at (new_at _ _ _ rfl)
        have k_c : ((w.alloc (.cells #[.int .u64 (U a), .int .u64 (U b)] 24)).alloc (.cells #[.int .u64 (U t), .int .i64 role, .int .u64 (U u)] 26)).heap[w.heap.size + 1]? = some (.cells #[.int .u64 (U t), .int .i64 role, .int .u64 (U u)] 26 (0, 0)) := new_at _ _ _ (by simp)
        obtain ⟨b_c, hb1⟩ : ∃ b, w.heap.size + 1 = b := ⟨_, rfl⟩
        have q_c : w.heap.size ≤ b_c := by omega
        rw [hb1] at k_c ⊢
        obtain ⟨b_k, hb0⟩ : ∃ b, w.heap.size = b := ⟨_, rfl⟩
        have q_k : w.heap.size ≤ b_k := by omega
        rw [hb0] at k_k ⊢
        have lt_k_c : b_k < b_c := by omega
        clear hA hq0 hb0 hb1
        generalize ((w.alloc (.cells #[.int .u64 (U a), .int .u64 (U b)] 24)).alloc (.cells #[.int .u64 (U t), .int .i64 role, .int .u64 (U u)] 26)) = u1 at *
        refine (shown_any a0 b0 w.heap.size _ (HS.out.later hB)).mono ?_
        rintro e u2 ⟨rfl, hC⟩
        replace k_k := keep k_k hC
        replace k_c := keep k_c hC
        replace hB := hB.trans (hC.mono hB.size)
        clear hC
        have x_k_0 := cell_at k_k 0
        have x_k_1 := cell_at k_k 1
        have x_c_0 := cell_at k_c 0
        have x_c_1 := cell_at k_c 1
        have x_c_2 := cell_at k_c 2
        go_wp2_with fail
        clear x_k_0 x_k_1 x_c_0 x_c_1 x_c_2
        refine (HM.out _).mono ?_
        rintro e u3 ⟨rfl, hC⟩
        replace k_k := keep k_k hC
        replace k_c := keep k_c hC
        replace hB := hB.trans (hC.mono hB.size)
        clear hC
        have x_k_0 := cell_at k_k 0
        have x_k_1 := cell_at k_k 1
        go_wp2_with fail
        clear x_k_0 x_k_1
        refine (HX.out _ (HS.out.later hB)).mono ?_
        rintro e u4 ⟨rfl, hC⟩
        replace k_k := keep k_k hC
        replace k_c := keep k_c hC
        replace hB := hB.trans (hC.mono hB.size)
        clear hC
        have x_k_0 := old_cell (cell_at k_k 0)
        have x_k_1 := old_cell (cell_at k_k 1)
        go_wp2_with fail
        clear x_k_0 x_k_1
        have hA : Below u4.heap.size u4 (u4.alloc (.cells #[.int .u64 (U Tx), .int .i64 (U Rx), .int .u64 (U Vx)] 26)) := (Below.refl _ u4).alloc (Nat.le_refl _) _
        replace k_k := keep k_k hA
        replace k_c := keep k_c hA
        replace hB := hB.trans (hA.mono hB.size)
        have k_x := new_at u4 (.cells #[.int .u64 (U Tx), .int .i64 (U Rx), .int .u64 (U Vx)] 26) _ rfl
        obtain ⟨b_x, hb⟩ : ∃ b, u4.heap.size = b := ⟨_, rfl⟩
        rw [hb] at k_x ⊢
        clear hA hb
        generalize u4.alloc (.cells #[.int .u64 (U Tx), .int .i64 (U Rx), .int .u64 (U Vx)] 26) = u5 at *
        clear u4
        refine (HY.out _ (HS.out.later hB)).mono ?_
        rintro e u6 ⟨rfl, hC⟩
        replace k_k := keep k_k hC
        replace k_c := keep k_c hC
        replace k_x := keep k_x hC
        replace hB := hB.trans (hC.mono hB.size)
        clear hC
        go_wp2_with fail
        go_ret
        exact ⟨rfl, hB.alloc hB.size _⟩
      · omega
      · go_enter Tryd.func5, Tryd.ntmps5
        have hB : Below w.heap.size w w := Below.refl _ w
        go_wp2_with fail
        have hA : Below w.heap.size w ((w.alloc (.cells #[.int .u64 (U a), .int .u64 (U b)] 24)).alloc (.cells #[.int .u64 (U t), .int .i64 role, .int .u64 (U u)] 26)) := ((Below.refl _ w).alloc (Nat.le_refl _) _).alloc (by simp) _
        have hq0 := hB.size
        replace hB := hB.trans (hA.mono hB.size)
        have k_k : ((w.alloc (.cells #[.int .u64 (U a), .int .u64 (U b)] 24)).alloc (.cells #[.int .u64 (U t), .int .i64 role, .int .u64 (U u)] 26)).heap[w.heap.size]? = some (.cells #[.int .u64 (U a), .int .u64 (U b)] 24 (0, 0)) := old_at (new_at _ _ _ rfl)
        have k_c : ((w.alloc (.cells #[.int .u64 (U a), .int .u64 (U b)] 24)).alloc (.cells #[.int .u64 (U t), .int .i64 role, .int .u64 (U u)] 26)).heap[w.heap.size + 1]? = some (.cells #[.int .u64 (U t), .int .i64 role, .int .u64 (U u)] 26 (0, 0)) := new_at _ _ _ (by simp)
        obtain ⟨b_c, hb1⟩ : ∃ b, w.heap.size + 1 = b := ⟨_, rfl⟩
        have q_c : w.heap.size ≤ b_c := by omega
        rw [hb1] at k_c ⊢
        obtain ⟨b_k, hb0⟩ : ∃ b, w.heap.size = b := ⟨_, rfl⟩
        have q_k : w.heap.size ≤ b_k := by omega
        rw [hb0] at k_k ⊢
        have lt_k_c : b_k < b_c := by omega
        clear hA hq0 hb0 hb1
        generalize ((w.alloc (.cells #[.int .u64 (U a), .int .u64 (U b)] 24)).alloc (.cells #[.int .u64 (U t), .int .i64 role, .int .u64 (U u)] 26)) = u1 at *
        refine (shown_any a0 b0 w.heap.size _ (HS.out.later hB)).mono ?_
        rintro e u2 ⟨rfl, hC⟩
        replace k_k := keep k_k hC
        replace k_c := keep k_c hC
        replace hB := hB.trans (hC.mono hB.size)
        clear hC
        have x_k_0 := cell_at k_k 0
        have x_k_1 := cell_at k_k 1
        have x_c_0 := cell_at k_c 0
        have x_c_1 := cell_at k_c 1
        have x_c_2 := cell_at k_c 2
        go_wp2_with fail
        clear x_k_0 x_k_1 x_c_0 x_c_1 x_c_2
        refine (HM.out _).mono ?_
        rintro e u3 ⟨rfl, hC⟩
        replace k_k := keep k_k hC
        replace k_c := keep k_c hC
        replace hB := hB.trans (hC.mono hB.size)
        clear hC
        have x_k_0 := cell_at k_k 0
        have x_k_1 := cell_at k_k 1
        go_wp2_with fail
        clear x_k_0 x_k_1
        refine (HX.out _ (HS.out.later hB)).mono ?_
        rintro e u4 ⟨rfl, hC⟩
        replace k_k := keep k_k hC
        replace k_c := keep k_c hC
        replace hB := hB.trans (hC.mono hB.size)
        clear hC
        have x_k_0 := old_cell (cell_at k_k 0)
        have x_k_1 := old_cell (cell_at k_k 1)
        go_wp2_with fail
        clear x_k_0 x_k_1
        have hA : Below u4.heap.size u4 (u4.alloc (.cells #[.int .u64 (U Tx), .int .i64 (U Rx), .int .u64 (U Vx)] 26)) := (Below.refl _ u4).alloc (Nat.le_refl _) _
        replace k_k := keep k_k hA
        replace k_c := keep k_c hA
        replace hB := hB.trans (hA.mono hB.size)
        have k_x := new_at u4 (.cells #[.int .u64 (U Tx), .int .i64 (U Rx), .int .u64 (U Vx)] 26) _ rfl
        obtain ⟨b_x, hb⟩ : ∃ b, u4.heap.size = b := ⟨_, rfl⟩
        rw [hb] at k_x ⊢
        clear hA hb
        generalize u4.alloc (.cells #[.int .u64 (U Tx), .int .i64 (U Rx), .int .u64 (U Vx)] 26) = u5 at *
        clear u4
        refine (HY.out _ (HS.out.later hB)).mono ?_
        rintro e u6 ⟨rfl, hC⟩
        replace k_k := keep k_k hC
        replace k_c := keep k_c hC
        replace k_x := keep k_x hC
        replace hB := hB.trans (hC.mono hB.size)
        clear hC
        go_wp2_with fail
        go_ret
        exact ⟨rfl, hB.alloc hB.size _⟩
    · have hl := times_law a b t (roleU role) u now next n1 n3 (by omega)
      have m1 : U next < U now := by unfold U; omega
      have m2 : ¬ U now < U next := by unfold U; omega
      have HX := Lib.hid (fun W hS => Check_any a0 b0 a b (tokT a b t (roleU role) u) (by omega) now w.heap.size W hS)
      have HY := Lib.hid (fun W hS => Check_any a0 b0 a b (tokT a b t (roleU role) u) (by omega) next w.heap.size W hS)
      clear n1 n3 e r1 r3 hm hsz
      generalize tokT a b t (roleU role) u = T at *
      generalize kT a b T now = Tx at *
      generalize kR a b T now = Rx at *
      generalize kU a b T now = Vx at *
      generalize ckE a b T now = Ex at *
      generalize kT a b T next = Ty at *
      generalize kR a b T next = Ry at *
      generalize kU a b T next = Vy at *
      generalize ckE a b T next = Ey at *
      rcases hl with ⟨rfl, rfl⟩ | ⟨rfl, rfl⟩ | ⟨rfl, rfl⟩
      · go_enter Tryd.func5, Tryd.ntmps5
        have hB : Below w.heap.size w w := Below.refl _ w
        go_wp2_with fail
        have hA : Below w.heap.size w ((w.alloc (.cells #[.int .u64 (U a), .int .u64 (U b)] 24)).alloc (.cells #[.int .u64 (U t), .int .i64 role, .int .u64 (U u)] 26)) := ((Below.refl _ w).alloc (Nat.le_refl _) _).alloc (by simp) _
        have hq0 := hB.size
        replace hB := hB.trans (hA.mono hB.size)
        have k_k : ((w.alloc (.cells #[.int .u64 (U a), .int .u64 (U b)] 24)).alloc (.cells #[.int .u64 (U t), .int .i64 role, .int .u64 (U u)] 26)).heap[w.heap.size]? = some (.cells #[.int .u64 (U a), .int .u64 (U b)] 24 (0, 0)) := old_at (new_at _ _ _ rfl)
        have k_c : ((w.alloc (.cells #[.int .u64 (U a), .int .u64 (U b)] 24)).alloc (.cells #[.int .u64 (U t), .int .i64 role, .int .u64 (U u)] 26)).heap[w.heap.size + 1]? = some (.cells #[.int .u64 (U t), .int .i64 role, .int .u64 (U u)] 26 (0, 0)) := new_at _ _ _ (by simp)
        obtain ⟨b_c, hb1⟩ : ∃ b, w.heap.size + 1 = b := ⟨_, rfl⟩
        have q_c : w.heap.size ≤ b_c := by omega
        rw [hb1] at k_c ⊢
        obtain ⟨b_k, hb0⟩ : ∃ b, w.heap.size = b := ⟨_, rfl⟩
        have q_k : w.heap.size ≤ b_k := by omega
        rw [hb0] at k_k ⊢
        have lt_k_c : b_k < b_c := by omega
        clear hA hq0 hb0 hb1
        generalize ((w.alloc (.cells #[.int .u64 (U a), .int .u64 (U b)] 24)).alloc (.cells #[.int .u64 (U t), .int .i64 role, .int .u64 (U u)] 26)) = u1 at *
        refine (shown_any a0 b0 w.heap.size _ (HS.out.later hB)).mono ?_
        rintro e u2 ⟨rfl, hC⟩
        replace k_k := keep k_k hC
        replace k_c := keep k_c hC
        replace hB := hB.trans (hC.mono hB.size)
        clear hC
        have x_k_0 := cell_at k_k 0
        have x_k_1 := cell_at k_k 1
        have x_c_0 := cell_at k_c 0
        have x_c_1 := cell_at k_c 1
        have x_c_2 := cell_at k_c 2
        go_wp2_with fail
        clear x_k_0 x_k_1 x_c_0 x_c_1 x_c_2
        refine (HM.out _).mono ?_
        rintro e u3 ⟨rfl, hC⟩
        replace k_k := keep k_k hC
        replace k_c := keep k_c hC
        replace hB := hB.trans (hC.mono hB.size)
        clear hC
        have x_k_0 := cell_at k_k 0
        have x_k_1 := cell_at k_k 1
        go_wp2_with fail
        clear x_k_0 x_k_1
        refine (HX.out _ (HS.out.later hB)).mono ?_
        rintro e u4 ⟨rfl, hC⟩
        replace k_k := keep k_k hC
        replace k_c := keep k_c hC
        replace hB := hB.trans (hC.mono hB.size)
        clear hC
        have x_k_0 := old_cell (cell_at k_k 0)
        have x_k_1 := old_cell (cell_at k_k 1)
        go_wp2_with fail
        clear x_k_0 x_k_1
        have hA : Below u4.heap.size u4 (u4.alloc (.cells #[.int .u64 (U Tx), .int .i64 (U Rx), .int .u64 (U Vx)] 26)) := (Below.refl _ u4).alloc (Nat.le_refl _) _
        replace k_k := keep k_k hA
        replace k_c := keep k_c hA
        replace hB := hB.trans (hA.mono hB.size)
        have k_x := new_at u4 (.cells #[.int .u64 (U Tx), .int .i64 (U Rx), .int .u64 (U Vx)] 26) _ rfl
        obtain ⟨b_x, hb⟩ : ∃ b, u4.heap.size = b := ⟨_, rfl⟩
        rw [hb] at k_x ⊢
        clear hA hb
        generalize u4.alloc (.cells #[.int .u64 (U Tx), .int .i64 (U Rx), .int .u64 (U Vx)] 26) = u5 at *
        clear u4
        refine (HY.out _ (HS.out.later hB)).mono ?_
        rintro e u6 ⟨rfl, hC⟩
        replace k_k := keep k_k hC
        replace k_c := keep k_c hC
        replace k_x := keep k_x hC
        replace hB := hB.trans (hC.mono hB.size)
        clear hC
        go_wp2_with fail
        go_ret
        exact ⟨rfl, hB.alloc hB.size _⟩
      · go_enter Tryd.func5, Tryd.ntmps5
        have hB : Below w.heap.size w w := Below.refl _ w
        go_wp2_with fail
        have hA : Below w.heap.size w ((w.alloc (.cells #[.int .u64 (U a), .int .u64 (U b)] 24)).alloc (.cells #[.int .u64 (U t), .int .i64 role, .int .u64 (U u)] 26)) := ((Below.refl _ w).alloc (Nat.le_refl _) _).alloc (by simp) _
        have hq0 := hB.size
        replace hB := hB.trans (hA.mono hB.size)
        have k_k : ((w.alloc (.cells #[.int .u64 (U a), .int .u64 (U b)] 24)).alloc (.cells #[.int .u64 (U t), .int .i64 role, .int .u64 (U u)] 26)).heap[w.heap.size]? = some (.cells #[.int .u64 (U a), .int .u64 (U b)] 24 (0, 0)) := old_at (new_at _ _ _ rfl)
        have k_c : ((w.alloc (.cells #[.int .u64 (U a), .int .u64 (U b)] 24)).alloc (.cells #[.int .u64 (U t), .int .i64 role, .int .u64 (U u)] 26)).heap[w.heap.size + 1]? = some (.cells #[.int .u64 (U t), .int .i64 role, .int .u64 (U u)] 26 (0, 0)) := new_at _ _ _ (by simp)
        obtain ⟨b_c, hb1⟩ : ∃ b, w.heap.size + 1 = b := ⟨_, rfl⟩
        have q_c : w.heap.size ≤ b_c := by omega
        rw [hb1] at k_c ⊢
        obtain ⟨b_k, hb0⟩ : ∃ b, w.heap.size = b := ⟨_, rfl⟩
        have q_k : w.heap.size ≤ b_k := by omega
        rw [hb0] at k_k ⊢
        have lt_k_c : b_k < b_c := by omega
        clear hA hq0 hb0 hb1
        generalize ((w.alloc (.cells #[.int .u64 (U a), .int .u64 (U b)] 24)).alloc (.cells #[.int .u64 (U t), .int .i64 role, .int .u64 (U u)] 26)) = u1 at *
        refine (shown_any a0 b0 w.heap.size _ (HS.out.later hB)).mono ?_
        rintro e u2 ⟨rfl, hC⟩
        replace k_k := keep k_k hC
        replace k_c := keep k_c hC
        replace hB := hB.trans (hC.mono hB.size)
        clear hC
        have x_k_0 := cell_at k_k 0
        have x_k_1 := cell_at k_k 1
        have x_c_0 := cell_at k_c 0
        have x_c_1 := cell_at k_c 1
        have x_c_2 := cell_at k_c 2
        go_wp2_with fail
        clear x_k_0 x_k_1 x_c_0 x_c_1 x_c_2
        refine (HM.out _).mono ?_
        rintro e u3 ⟨rfl, hC⟩
        replace k_k := keep k_k hC
        replace k_c := keep k_c hC
        replace hB := hB.trans (hC.mono hB.size)
        clear hC
        have x_k_0 := cell_at k_k 0
        have x_k_1 := cell_at k_k 1
        go_wp2_with fail
        clear x_k_0 x_k_1
        refine (HX.out _ (HS.out.later hB)).mono ?_
        rintro e u4 ⟨rfl, hC⟩
        replace k_k := keep k_k hC
        replace k_c := keep k_c hC
        replace hB := hB.trans (hC.mono hB.size)
        clear hC
        have x_k_0 := old_cell (cell_at k_k 0)
        have x_k_1 := old_cell (cell_at k_k 1)
        go_wp2_with fail
        clear x_k_0 x_k_1
        have hA : Below u4.heap.size u4 (u4.alloc (.cells #[.int .u64 (U Tx), .int .i64 (U Rx), .int .u64 (U Vx)] 26)) := (Below.refl _ u4).alloc (Nat.le_refl _) _
        replace k_k := keep k_k hA
        replace k_c := keep k_c hA
        replace hB := hB.trans (hA.mono hB.size)
        have k_x := new_at u4 (.cells #[.int .u64 (U Tx), .int .i64 (U Rx), .int .u64 (U Vx)] 26) _ rfl
        obtain ⟨b_x, hb⟩ : ∃ b, u4.heap.size = b := ⟨_, rfl⟩
        rw [hb] at k_x ⊢
        clear hA hb
        generalize u4.alloc (.cells #[.int .u64 (U Tx), .int .i64 (U Rx), .int .u64 (U Vx)] 26) = u5 at *
        clear u4
        refine (HY.out _ (HS.out.later hB)).mono ?_
        rintro e u6 ⟨rfl, hC⟩
        replace k_k := keep k_k hC
        replace k_c := keep k_c hC
        replace k_x := keep k_x hC
        replace hB := hB.trans (hC.mono hB.size)
        clear hC
        go_wp2_with fail
        go_ret
        exact ⟨rfl, hB.alloc hB.size _⟩
      · go_enter Tryd.func5, Tryd.ntmps5
        have hB : Below w.heap.size w w := Below.refl _ w
        go_wp2_with fail
        have hA : Below w.heap.size w ((w.alloc (.cells #[.int .u64 (U a), .int .u64 (U b)] 24)).alloc (.cells #[.int .u64 (U t), .int .i64 role, .int .u64 (U u)] 26)) := ((Below.refl _ w).alloc (Nat.le_refl _) _).alloc (by simp) _
        have hq0 := hB.size
        replace hB := hB.trans (hA.mono hB.size)
        have k_k : ((w.alloc (.cells #[.int .u64 (U a), .int .u64 (U b)] 24)).alloc (.cells #[.int .u64 (U t), .int .i64 role, .int .u64 (U u)] 26)).heap[w.heap.size]? = some (.cells #[.int .u64 (U a), .int .u64 (U b)] 24 (0, 0)) := old_at (new_at _ _ _ rfl)
        have k_c : ((w.alloc (.cells #[.int .u64 (U a), .int .u64 (U b)] 24)).alloc (.cells #[.int .u64 (U t), .int .i64 role, .int .u64 (U u)] 26)).heap[w.heap.size + 1]? = some (.cells #[.int .u64 (U t), .int .i64 role, .int .u64 (U u)] 26 (0, 0)) := new_at _ _ _ (by simp)
        obtain ⟨b_c, hb1⟩ : ∃ b, w.heap.size + 1 = b := ⟨_, rfl⟩
        have q_c : w.heap.size ≤ b_c := by omega
        rw [hb1] at k_c ⊢
        obtain ⟨b_k, hb0⟩ : ∃ b, w.heap.size = b := ⟨_, rfl⟩
        have q_k : w.heap.size ≤ b_k := by omega
        rw [hb0] at k_k ⊢
        have lt_k_c : b_k < b_c := by omega
        clear hA hq0 hb0 hb1
        generalize ((w.alloc (.cells #[.int .u64 (U a), .int .u64 (U b)] 24)).alloc (.cells #[.int .u64 (U t), .int .i64 role, .int .u64 (U u)] 26)) = u1 at *
        refine (shown_any a0 b0 w.heap.size _ (HS.out.later hB)).mono ?_
        rintro e u2 ⟨rfl, hC⟩
        replace k_k := keep k_k hC
        replace k_c := keep k_c hC
        replace hB := hB.trans (hC.mono hB.size)
        clear hC
        have x_k_0 := cell_at k_k 0
        have x_k_1 := cell_at k_k 1
        have x_c_0 := cell_at k_c 0
        have x_c_1 := cell_at k_c 1
        have x_c_2 := cell_at k_c 2
        go_wp2_with fail
        clear x_k_0 x_k_1 x_c_0 x_c_1 x_c_2
        refine (HM.out _).mono ?_
        rintro e u3 ⟨rfl, hC⟩
        replace k_k := keep k_k hC
        replace k_c := keep k_c hC
        replace hB := hB.trans (hC.mono hB.size)
        clear hC
        have x_k_0 := cell_at k_k 0
        have x_k_1 := cell_at k_k 1
        go_wp2_with fail
        clear x_k_0 x_k_1
        refine (HX.out _ (HS.out.later hB)).mono ?_
        rintro e u4 ⟨rfl, hC⟩
        replace k_k := keep k_k hC
        replace k_c := keep k_c hC
        replace hB := hB.trans (hC.mono hB.size)
        clear hC
        have x_k_0 := old_cell (cell_at k_k 0)
        have x_k_1 := old_cell (cell_at k_k 1)
        go_wp2_with fail
        clear x_k_0 x_k_1
        have hA : Below u4.heap.size u4 (u4.alloc (.cells #[.int .u64 (U Tx), .int .i64 (U Rx), .int .u64 (U Vx)] 26)) := (Below.refl _ u4).alloc (Nat.le_refl _) _
        replace k_k := keep k_k hA
        replace k_c := keep k_c hA
        replace hB := hB.trans (hA.mono hB.size)
        have k_x := new_at u4 (.cells #[.int .u64 (U Tx), .int .i64 (U Rx), .int .u64 (U Vx)] 26) _ rfl
        obtain ⟨b_x, hb⟩ : ∃ b, u4.heap.size = b := ⟨_, rfl⟩
        rw [hb] at k_x ⊢
        clear hA hb
        generalize u4.alloc (.cells #[.int .u64 (U Tx), .int .i64 (U Rx), .int .u64 (U Vx)] 26) = u5 at *
        clear u4
        refine (HY.out _ (HS.out.later hB)).mono ?_
        rintro e u6 ⟨rfl, hC⟩
        replace k_k := keep k_k hC
        replace k_c := keep k_c hC
        replace k_x := keep k_x hC
        replace hB := hB.trans (hC.mono hB.size)
        clear hC
        go_wp2_with fail
        go_ret
        exact ⟨rfl, hB.alloc hB.size _⟩
  · rw [e] at HM
    clear e hn
    go_enter Tryd.func5, Tryd.ntmps5
    have hB : Below w.heap.size w w := Below.refl _ w
    go_wp2_with fail
    have hA : Below w.heap.size w ((w.alloc (.cells #[.int .u64 (U a), .int .u64 (U b)] 24)).alloc (.cells #[.int .u64 (U t), .int .i64 role, .int .u64 (U u)] 26)) := ((Below.refl _ w).alloc (Nat.le_refl _) _).alloc (by simp) _
    have hq0 := hB.size
    replace hB := hB.trans (hA.mono hB.size)
    have k_k : ((w.alloc (.cells #[.int .u64 (U a), .int .u64 (U b)] 24)).alloc (.cells #[.int .u64 (U t), .int .i64 role, .int .u64 (U u)] 26)).heap[w.heap.size]? = some (.cells #[.int .u64 (U a), .int .u64 (U b)] 24 (0, 0)) := old_at (new_at _ _ _ rfl)
    have k_c : ((w.alloc (.cells #[.int .u64 (U a), .int .u64 (U b)] 24)).alloc (.cells #[.int .u64 (U t), .int .i64 role, .int .u64 (U u)] 26)).heap[w.heap.size + 1]? = some (.cells #[.int .u64 (U t), .int .i64 role, .int .u64 (U u)] 26 (0, 0)) := new_at _ _ _ (by simp)
    obtain ⟨b_c, hb1⟩ : ∃ b, w.heap.size + 1 = b := ⟨_, rfl⟩
    have q_c : w.heap.size ≤ b_c := by omega
    rw [hb1] at k_c ⊢
    obtain ⟨b_k, hb0⟩ : ∃ b, w.heap.size = b := ⟨_, rfl⟩
    have q_k : w.heap.size ≤ b_k := by omega
    rw [hb0] at k_k ⊢
    have lt_k_c : b_k < b_c := by omega
    clear hA hq0 hb0 hb1
    generalize ((w.alloc (.cells #[.int .u64 (U a), .int .u64 (U b)] 24)).alloc (.cells #[.int .u64 (U t), .int .i64 role, .int .u64 (U u)] 26)) = u1 at *
    refine (shown_any a0 b0 w.heap.size _ (HS.out.later hB)).mono ?_
    rintro e u2 ⟨rfl, hC⟩
    replace k_k := keep k_k hC
    replace k_c := keep k_c hC
    replace hB := hB.trans (hC.mono hB.size)
    clear hC
    have x_k_0 := cell_at k_k 0
    have x_k_1 := cell_at k_k 1
    have x_c_0 := cell_at k_c 0
    have x_c_1 := cell_at k_c 1
    have x_c_2 := cell_at k_c 2
    go_wp2_with fail
    clear x_k_0 x_k_1 x_c_0 x_c_1 x_c_2
    refine (HM.out _).mono ?_
    rintro e u3 ⟨rfl, hC⟩
    replace k_k := keep k_k hC
    replace k_c := keep k_c hC
    replace hB := hB.trans (hC.mono hB.size)
    clear hC
    go_wp2_with fail
    go_ret
    exact ⟨rfl, hB⟩
end Go.Proofs.YtpekedldoplmmaaDoor
