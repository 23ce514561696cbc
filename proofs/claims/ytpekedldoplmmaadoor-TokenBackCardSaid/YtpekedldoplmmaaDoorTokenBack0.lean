/-
  The walk of TokenBack. Printed by gen_tokl.py.
-/
import Derived.Test.YtpekedldoplmmaaDoorTokL
import Derived.Deep.RegionHeld3
namespace Go.Proofs.YtpekedldoplmmaaDoor
open Go.RowKit Go.Shelf

/-- What stands behind a piece of code that lays a block wherever it may is asked once, of all the ways through it. -/
theorem wp_join_f {P : Program} {c : Code} {Q : Exit → Act → World → Prop} {a : Act} {w : World} (f : Nat → Act) (Φ : Nat → World → Prop) (h1 : c.wp P (fun e a' w' => e = .normal ∧ ∃ B, a' = f B ∧ Φ B w') a w) (h2 : ∀ B w', Φ B w' → Q .normal (f B) w') : c.wp P Q a w :=
  wp_mono h1 fun e a' w' ⟨he, B, ha, h⟩ => by subst he ha; exact h2 B w' h
theorem ckE_cases (a b : BitVec 64) (s : ByteArray) (now : BitVec 64) : ckE a b s now = 0 ∨ ckE a b s now = 170 ∨ ckE a b s now = 171 := by
  unfold ckE
  by_cases h : clB s = true ∧ sumB a b s = true
  · rw [if_pos h]
    by_cases h2 : now.toNat ≤ (clU s).toNat
    · rw [if_pos h2]; exact .inl rfl
    · rw [if_neg h2]; exact .inr (.inr rfl)
  · rw [if_neg h]; exact .inr (.inl rfl)
set_option maxRecDepth 100000 in
set_option maxHeartbeats 4000000 in
theorem walk_TokenBack (a0 b0 : Addr) (a b t : BitVec 64) (role : Int) (u : BitVec 64) (now : BitVec 64) (s : ByteArray) (hs : s.size ≤ 9223372036854775807) (w : World) (hS : Sent a0 b0 w.heap.size w) :
    Calls Tryd.prog 8 #[.agg #[.int .u64 (U a), .int .u64 (U b)], .agg #[.int .u64 (U t), .int .i64 role, .int .u64 (U u)], .int .u64 (U now), .string s] w fun e w' => e = .returned (.bool true) ∧ Below w.heap.size w w' := by
  have HS := Lib.hid hS
  have HM := Lib.hid (fun W => Mint_any a b t u role W)
  clear hS
  rcases minE_cases role with ⟨r1, r3, e⟩ | ⟨hn, e⟩
  · rw [e, minB_ok a b t u r1 r3] at HM
    obtain ⟨n1, n3⟩ := roleU_nat r1 r3
    have hr := roleU_of r1 r3
    have hsz := tokT_size a b t (roleU role) u
    have tc := tok_check a b t (roleU role) u now n1 n3
    obtain ⟨g0, -, -, -, -⟩ := tok_good a b t (roleU role) u n1 n3
    obtain ⟨g1, g2, g3⟩ := tok_body a b t (roleU role) u n1 n3
    have HX := Lib.hid (fun W hS => Check_any a0 b0 a b (tokT a b t (roleU role) u) (by omega) now w.heap.size W hS)
    have HBo := Lib.hid (fun W hS => by
      have h := Body_any a0 b0 (tokT a b t (roleU role) u) (by omega) w.heap.size W hS
      rw [g0, g1, g2, g3, hr] at h
      exact h)
    have c1 := cutH_size s
    have HCs := Lib.hid (fun W => cut_any s hs W)
    have HY := Lib.hid (fun W hS => by
      have h := Check_any a0 b0 a b (cutH s) (by omega) 0#64 w.heap.size W hS
      rw [U_0] at h
      exact h)
    have HN := Lib.hid (fun W => Mint_any a b (kT a b (cutH s) 0#64) (kU a b (cutH s) 0#64) (U (kR a b (cutH s) 0#64)) W)
    have hm := ck_mint (a := a) (b := b) (s := cutH s) (now := 0#64)
    have hc := ckE_cases a b (cutH s) 0#64
    clear c1 g0 g1 g2 g3 n1 n3 e r1 r3 hsz
    generalize tokT a b t (roleU role) u = T at *
    generalize minB a b (kT a b (cutH s) 0#64) (roleU (U (kR a b (cutH s) 0#64))) (kU a b (cutH s) 0#64) (U (kR a b (cutH s) 0#64)) = M at *
    generalize minE (U (kR a b (cutH s) 0#64)) = E at *
    generalize kT a b (cutH s) 0#64 = Tx at *
    generalize kR a b (cutH s) 0#64 = Rx at *
    generalize kU a b (cutH s) 0#64 = Vx at *
    generalize ckE a b (cutH s) 0#64 = Ex at *
    generalize cutH s = C at *
    by_cases hno : now.toNat ≤ u.toNat
    · rw [if_pos hno] at tc
      rw [tc.1, tc.2.1, tc.2.2.1, tc.2.2.2, hr] at HX
      have mo : ¬ U u < U now := by unfold U; omega
      clear tc hno hr
      rcases hc with rfl | rfl | rfl
      · obtain ⟨rfl, rfl⟩ := hm rfl
        go_enter Tryd.func8, Tryd.ntmps8
        have hB : Below w.heap.size w w := Below.refl _ w
        go_wp2_with fail
        have hA : Below w.heap.size w ((w.alloc (.cells #[.int .u64 (U a), .int .u64 (U b)] 24)).alloc (.cells #[.int .u64 (U t), .int .i64 role, .int .u64 (U u)] 26)) := ((Below.refl _ w).alloc (Nat.le_refl _) _).alloc (by simp) _
        have hq0 := hB.size
        replace hB := hB.trans (hA.mono hB.size)
        have k_k : ((w.alloc (.cells #[.int .u64 (U a), .int .u64 (U b)] 24)).alloc (.cells #[.int .u64 (U t), .int .i64 role, .int .u64 (U u)] 26)).heap[w.heap.size]? = some (.cells #[.int .u64 (U a), .int .u64 (U b)] 24 (0, 0)) := old_at (new_at _ _ _ rfl)
        have k_c : ((w.alloc (.cells #[.int .u64 (U a), .int .u64 (U b)] 24)).alloc (.cells #[.int .u64 (U t), .int .i64 role, .int .u64 (U u)] 26)).heap[w.heap.size + 1]? = some (.cells #[.int .u64 (U t), .int .i64 role, .int .u64 (U u)] 26 (0, 0)) := new_at _ _ _ (by simp)
        obtain ⟨b_c, hb1⟩ : ∃ b, w.heap.size + 1 = b := ⟨_, rfl⟩
        have q_c : w.heap.size ≤ b_c := by omega
        rw [hb1] at k_c ⊢
        obtain ⟨b_k, hb0⟩ : ∃ b, w.heap.size = b := ⟨_, rfl⟩
        have q_k : w.heap.size ≤ b_k := by omega
        rw [hb0] at k_k ⊢
        have lt_k_c : b_k < b_c := by omega
        clear hA hq0 hb0 hb1
        generalize ((w.alloc (.cells #[.int .u64 (U a), .int .u64 (U b)] 24)).alloc (.cells #[.int .u64 (U t), .int .i64 role, .int .u64 (U u)] 26)) = u1 at *
        refine (shown_any a0 b0 w.heap.size _ (HS.out.later hB)).mono ?_
        rintro e u2 ⟨rfl, hC⟩
        replace k_k := keep k_k hC
        replace k_c := keep k_c hC
        replace hB := hB.trans (hC.mono hB.size)
        clear hC
        have x_k_0 := cell_at k_k 0
        have x_k_1 := cell_at k_k 1
        have x_c_0 := cell_at k_c 0
        have x_c_1 := cell_at k_c 1
        have x_c_2 := cell_at k_c 2
        go_wp2_with fail
        clear x_k_0 x_k_1 x_c_0 x_c_1 x_c_2
        refine (HM.out _).mono ?_
        rintro e u3 ⟨rfl, hC⟩
        replace k_k := keep k_k hC
        replace k_c := keep k_c hC
        replace hB := hB.trans (hC.mono hB.size)
        clear hC
        have x_k_0 := cell_at k_k 0
        have x_k_1 := cell_at k_k 1
        go_wp2_with fail
        clear x_k_0 x_k_1
        refine (HX.out _ (HS.out.later hB)).mono ?_
        rintro e u4 ⟨rfl, hC⟩
        replace k_k := keep k_k hC
        replace k_c := keep k_c hC
        replace hB := hB.trans (hC.mono hB.size)
        clear hC
        go_wp2_with fail
        have hA : Below u4.heap.size u4 (u4.alloc (.cells #[.int .u64 (U t), .int .i64 role, .int .u64 (U u)] 26)) := (Below.refl _ u4).alloc (Nat.le_refl _) _
        replace k_k := keep k_k hA
        replace k_c := keep k_c hA
        replace hB := hB.trans (hA.mono hB.size)
        have k_d := new_at u4 (.cells #[.int .u64 (U t), .int .i64 role, .int .u64 (U u)] 26) _ rfl
        obtain ⟨b_d, hb⟩ : ∃ b, u4.heap.size = b := ⟨_, rfl⟩
        rw [hb] at k_d ⊢
        clear hA hb
        generalize u4.alloc (.cells #[.int .u64 (U t), .int .i64 role, .int .u64 (U u)] 26) = u5 at *
        clear u4
        refine (HBo.out _ (HS.out.later hB)).mono ?_
        rintro e u6 ⟨rfl, hC⟩
        replace k_k := keep k_k hC
        replace k_c := keep k_c hC
        replace k_d := keep k_d hC
        replace hB := hB.trans (hC.mono hB.size)
        clear hC
        go_wp2_with fail
        have hA : Below u6.heap.size u6 (u6.alloc (.cells #[.int .u64 (U t), .int .i64 role, .int .u64 (U u)] 26)) := (Below.refl _ u6).alloc (Nat.le_refl _) _
        replace k_k := keep k_k hA
        replace k_c := keep k_c hA
        replace k_d := keep k_d hA
        replace hB := hB.trans (hA.mono hB.size)
        have k_j := new_at u6 (.cells #[.int .u64 (U t), .int .i64 role, .int .u64 (U u)] 26) _ rfl
        obtain ⟨b_j, hb⟩ : ∃ b, u6.heap.size = b := ⟨_, rfl⟩
        rw [hb] at k_j ⊢
        clear hA hb
        generalize u6.alloc (.cells #[.int .u64 (U t), .int .i64 role, .int .u64 (U u)] 26) = u7 at *
        clear u6
        have x_0 := cell_at k_k 0
        have x_1 := cell_at k_k 1
        have hch : ∀ W : World, W.cell? ⟨b_k, 0, none⟩ = some (.int .u64 (U a)) ∧ W.cell? ⟨b_k, 1, none⟩ = some (.int .u64 (U b)) → Sent a0 b0 w.heap.size W → Calls Tryd.prog 11 #[.agg #[.int .u64 (U a), .int .u64 (U b)], .string M, .int .u64 0] W fun e W' => e = .returned (.tuple #[.agg #[.int .u64 (U Tx), .int .i64 (U Rx), .int .u64 (U Vx)], .int .i64 0]) ∧ Below W.heap.size W W' ∧ W'.cell? ⟨b_k, 0, none⟩ = some (.int .u64 (U a)) ∧ W'.cell? ⟨b_k, 1, none⟩ = some (.int .u64 (U b)) := by
          rintro W ⟨k0, k1⟩ hS
          refine (HY.out W hS).mono ?_
          rintro e W' ⟨he, hb⟩
          have hl : b_k < W.heap.size := World.block_lt_of_cell? W ⟨b_k, 0, none⟩ k0
          exact ⟨he, hb, (hb.cell hl).trans k0, (hb.cell hl).trans k1⟩
        have Hch := Lib.hid hch
        clear hch
        have HS1 := Lib.hid (HS.out.later (hB.trans (((Below.refl u7.heap.size u7).drew).mono hB.size)))
        have HS2 := Lib.hid (HS.out.later (hB.trans ((((Below.refl u7.heap.size u7).alloc (Nat.le_refl _) (.cells #[.int .u64 0, .int .i64 0, .int .u64 0] 26)).drew).mono hB.size)))
        have hne1 := World.new_ne u7 _ x_0
        refine wp_join_f ?f_x1 (fun B W => Below u7.heap.size u7 W ∧ W.heap[B]? = some (.cells #[.int .u64 (U Tx), .int .i64 (U Rx), .int .u64 (U Vx)] 26 (0, 0))) ?h_x1 ?e_x1
        case h_x1 =>
          go_region_held3 (fun W => W.cell? ⟨b_k, 0, none⟩ = some (.int .u64 (U a)) ∧ W.cell? ⟨b_k, 1, none⟩ = some (.int .u64 (U b))) (go_keep) (first
            | (go_at_call 14; refine (HCs.out _).mono ?_; rintro e W ⟨rfl, rfl⟩)
            | (go_at_call 11; refine (Hch.out _ ?_ ?_).mono ?_; assumption; (first | exact HS1.out | exact HS2.out); rintro e W ⟨rfl, hBC, k0, k1⟩; have hne := World.new_ne W _ k0; try (have z := (hBC.block u7.heap.size (by simp)).trans (new_at u7 _ _ rfl); have z0 := cell_at z 0; have z1 := cell_at z 1; have z2 := cell_at z 2; have y0 := free_at z 0; have y1 := free_at z 1; have y2 := free_at z 2; clear z)))
          · refine ⟨rfl, W.heap.size, ?_, ?_, ?_⟩
            · generalize W.heap.size = B
              rfl
            · exact ((Below.refl _ u7).drew.trans (hBC.mono (Nat.le_refl _))).alloc hBC.size _
            · exact new_at _ _ _ rfl
          all_goals (refine ⟨rfl, u7.heap.size, rfl, (((((Below.refl _ u7).alloc (Nat.le_refl _) _).drew.trans (hBC.mono (by simp))).setCell (Nat.le_refl _) _).setCell (Nat.le_refl _) _).setCell (Nat.le_refl _) _, ((Put.refl ((hBC.block u7.heap.size (by simp)).trans (new_at u7 _ _ rfl))).set 0 _ |>.set 1 _ |>.set 2 _).get (by have := hBC.size; simp at this; omega)⟩)
        case e_x1 =>
          rintro b_x u8 ⟨hC, k_x⟩
          clear x_0 x_1 hne1 Hch HS1 HS2
          replace k_k := keep k_k hC
          replace k_c := keep k_c hC
          replace k_d := keep k_d hC
          replace k_j := keep k_j hC
          replace hB := hB.trans (hC.mono hB.size)
          clear hC
          clear u7
          have x_k_0 := cell_at k_k 0
          have x_k_1 := cell_at k_k 1
          have x_x_0 := cell_at k_x 0
          have x_x_1 := cell_at k_x 1
          have x_x_2 := cell_at k_x 2
          go_wp2_with fail
          clear x_k_0 x_k_1 x_x_0 x_x_1 x_x_2
          refine (HN.out _).mono ?_
          rintro e u9 ⟨rfl, hC⟩
          replace k_k := keep k_k hC
          replace k_c := keep k_c hC
          replace k_d := keep k_d hC
          replace k_j := keep k_j hC
          replace k_x := keep k_x hC
          replace hB := hB.trans (hC.mono hB.size)
          clear hC
          have x_c_0 := cell_at k_c 0
          have x_c_1 := cell_at k_c 1
          have x_c_2 := cell_at k_c 2
          have x_d_0 := cell_at k_d 0
          have x_d_1 := cell_at k_d 1
          have x_d_2 := cell_at k_d 2
          have x_j_0 := cell_at k_j 0
          have x_j_1 := cell_at k_j 1
          have x_j_2 := cell_at k_j 2
          go_wp2_with fail
          refine (HCs.out _).mono ?_
          rintro e v ⟨rfl, rfl⟩
          go_wp2_with fail
          go_ret
          exact ⟨rfl, hB⟩
      · clear hm
        go_enter Tryd.func8, Tryd.ntmps8
        have hB : Below w.heap.size w w := Below.refl _ w
        go_wp2_with fail
        have hA : Below w.heap.size w ((w.alloc (.cells #[.int .u64 (U a), .int .u64 (U b)] 24)).alloc (.cells #[.int .u64 (U t), .int .i64 role, .int .u64 (U u)] 26)) := ((Below.refl _ w).alloc (Nat.le_refl _) _).alloc (by simp) _
        have hq0 := hB.size
        replace hB := hB.trans (hA.mono hB.size)
        have k_k : ((w.alloc (.cells #[.int .u64 (U a), .int .u64 (U b)] 24)).alloc (.cells #[.int .u64 (U t), .int .i64 role, .int .u64 (U u)] 26)).heap[w.heap.size]? = some (.cells #[.int .u64 (U a), .int .u64 (U b)] 24 (0, 0)) := old_at (new_at _ _ _ rfl)
        have k_c : ((w.alloc (.cells #[.int .u64 (U a), .int .u64 (U b)] 24)).alloc (.cells #[.int .u64 (U t), .int .i64 role, .int .u64 (U u)] 26)).heap[w.heap.size + 1]? = some (.cells #[.int .u64 (U t), .int .i64 role, .int .u64 (U u)] 26 (0, 0)) := new_at _ _ _ (by simp)
        obtain ⟨b_c, hb1⟩ : ∃ b, w.heap.size + 1 = b := ⟨_, rfl⟩
        have q_c : w.heap.size ≤ b_c := by omega
        rw [hb1] at k_c ⊢
        obtain ⟨b_k, hb0⟩ : ∃ b, w.heap.size = b := ⟨_, rfl⟩
        have q_k : w.heap.size ≤ b_k := by omega
        rw [hb0] at k_k ⊢
        have lt_k_c : b_k < b_c := by omega
        clear hA hq0 hb0 hb1
        generalize ((w.alloc (.cells #[.int .u64 (U a), .int .u64 (U b)] 24)).alloc (.cells #[.int .u64 (U t), .int .i64 role, .int .u64 (U u)] 26)) = u1 at *
        refine (shown_any a0 b0 w.heap.size _ (HS.out.later hB)).mono ?_
        rintro e u2 ⟨rfl, hC⟩
        replace k_k := keep k_k hC
        replace k_c := keep k_c hC
        replace hB := hB.trans (hC.mono hB.size)
        clear hC
        have x_k_0 := cell_at k_k 0
        have x_k_1 := cell_at k_k 1
        have x_c_0 := cell_at k_c 0
        have x_c_1 := cell_at k_c 1
        have x_c_2 := cell_at k_c 2
        go_wp2_with fail
        clear x_k_0 x_k_1 x_c_0 x_c_1 x_c_2
        refine (HM.out _).mono ?_
        rintro e u3 ⟨rfl, hC⟩
        replace k_k := keep k_k hC
        replace k_c := keep k_c hC
        replace hB := hB.trans (hC.mono hB.size)
        clear hC
        have x_k_0 := cell_at k_k 0
        have x_k_1 := cell_at k_k 1
        go_wp2_with fail
        clear x_k_0 x_k_1
        refine (HX.out _ (HS.out.later hB)).mono ?_
        rintro e u4 ⟨rfl, hC⟩
        replace k_k := keep k_k hC
        replace k_c := keep k_c hC
        replace hB := hB.trans (hC.mono hB.size)
        clear hC
        go_wp2_with fail
        have hA : Below u4.heap.size u4 (u4.alloc (.cells #[.int .u64 (U t), .int .i64 role, .int .u64 (U u)] 26)) := (Below.refl _ u4).alloc (Nat.le_refl _) _
        replace k_k := keep k_k hA
        replace k_c := keep k_c hA
        replace hB := hB.trans (hA.mono hB.size)
        have k_d := new_at u4 (.cells #[.int .u64 (U t), .int .i64 role, .int .u64 (U u)] 26) _ rfl
        obtain ⟨b_d, hb⟩ : ∃ b, u4.heap.size = b := ⟨_, rfl⟩
        rw [hb] at k_d ⊢
        clear hA hb
        generalize u4.alloc (.cells #[.int .u64 (U t), .int .i64 role, .int .u64 (U u)] 26) = u5 at *
        clear u4
        refine (HBo.out _ (HS.out.later hB)).mono ?_
        rintro e u6 ⟨rfl, hC⟩
        replace k_k := keep k_k hC
        replace k_c := keep k_c hC
        replace k_d := keep k_d hC
        replace hB := hB.trans (hC.mono hB.size)
        clear hC
        go_wp2_with fail
        have hA : Below u6.heap.size u6 (u6.alloc (.cells #[.int .u64 (U t), .int .i64 role, .int .u64 (U u)] 26)) := (Below.refl _ u6).alloc (Nat.le_refl _) _
        replace k_k := keep k_k hA
        replace k_c := keep k_c hA
        replace k_d := keep k_d hA
        replace hB := hB.trans (hA.mono hB.size)
        have k_j := new_at u6 (.cells #[.int .u64 (U t), .int .i64 role, .int .u64 (U u)] 26) _ rfl
        obtain ⟨b_j, hb⟩ : ∃ b, u6.heap.size = b := ⟨_, rfl⟩
        rw [hb] at k_j ⊢
        clear hA hb
        generalize u6.alloc (.cells #[.int .u64 (U t), .int .i64 role, .int .u64 (U u)] 26) = u7 at *
        clear u6
        have x_0 := cell_at k_k 0
        have x_1 := cell_at k_k 1
        have hch : ∀ W : World, W.cell? ⟨b_k, 0, none⟩ = some (.int .u64 (U a)) ∧ W.cell? ⟨b_k, 1, none⟩ = some (.int .u64 (U b)) → Sent a0 b0 w.heap.size W → Calls Tryd.prog 11 #[.agg #[.int .u64 (U a), .int .u64 (U b)], .string C, .int .u64 0] W fun e W' => e = .returned (.tuple #[.agg #[.int .u64 (U Tx), .int .i64 (U Rx), .int .u64 (U Vx)], .int .i64 170]) ∧ Below W.heap.size W W' ∧ W'.cell? ⟨b_k, 0, none⟩ = some (.int .u64 (U a)) ∧ W'.cell? ⟨b_k, 1, none⟩ = some (.int .u64 (U b)) := by
          rintro W ⟨k0, k1⟩ hS
          refine (HY.out W hS).mono ?_
          rintro e W' ⟨he, hb⟩
          have hl : b_k < W.heap.size := World.block_lt_of_cell? W ⟨b_k, 0, none⟩ k0
          exact ⟨he, hb, (hb.cell hl).trans k0, (hb.cell hl).trans k1⟩
        have Hch := Lib.hid hch
        clear hch
        have HS1 := Lib.hid (HS.out.later (hB.trans (((Below.refl u7.heap.size u7).drew).mono hB.size)))
        have HS2 := Lib.hid (HS.out.later (hB.trans ((((Below.refl u7.heap.size u7).alloc (Nat.le_refl _) (.cells #[.int .u64 0, .int .i64 0, .int .u64 0] 26)).drew).mono hB.size)))
        have hne1 := World.new_ne u7 _ x_0
        refine wp_join_f ?f_x2 (fun B W => Below u7.heap.size u7 W ∧ W.heap[B]? = some (.cells #[.int .u64 (U Tx), .int .i64 (U Rx), .int .u64 (U Vx)] 26 (0, 0))) ?h_x2 ?e_x2
        case h_x2 =>
          go_region_held3 (fun W => W.cell? ⟨b_k, 0, none⟩ = some (.int .u64 (U a)) ∧ W.cell? ⟨b_k, 1, none⟩ = some (.int .u64 (U b))) (go_keep) (first
            | (go_at_call 14; refine (HCs.out _).mono ?_; rintro e W ⟨rfl, rfl⟩)
            | (go_at_call 11; refine (Hch.out _ ?_ ?_).mono ?_; assumption; (first | exact HS1.out | exact HS2.out); rintro e W ⟨rfl, hBC, k0, k1⟩; have hne := World.new_ne W _ k0; try (have z := (hBC.block u7.heap.size (by simp)).trans (new_at u7 _ _ rfl); have z0 := cell_at z 0; have z1 := cell_at z 1; have z2 := cell_at z 2; have y0 := free_at z 0; have y1 := free_at z 1; have y2 := free_at z 2; clear z)))
          · refine ⟨rfl, W.heap.size, ?_, ?_, ?_⟩
            · generalize W.heap.size = B
              rfl
            · exact ((Below.refl _ u7).drew.trans (hBC.mono (Nat.le_refl _))).alloc hBC.size _
            · exact new_at _ _ _ rfl
          all_goals (refine ⟨rfl, u7.heap.size, rfl, (((((Below.refl _ u7).alloc (Nat.le_refl _) _).drew.trans (hBC.mono (by simp))).setCell (Nat.le_refl _) _).setCell (Nat.le_refl _) _).setCell (Nat.le_refl _) _, ((Put.refl ((hBC.block u7.heap.size (by simp)).trans (new_at u7 _ _ rfl))).set 0 _ |>.set 1 _ |>.set 2 _).get (by have := hBC.size; simp at this; omega)⟩)
        case e_x2 =>
          rintro b_x u8 ⟨hC, k_x⟩
          clear x_0 x_1 hne1 Hch HS1 HS2
          replace k_k := keep k_k hC
          replace k_c := keep k_c hC
          replace k_d := keep k_d hC
          replace k_j := keep k_j hC
          replace hB := hB.trans (hC.mono hB.size)
          clear hC
          clear u7
          have x_k_0 := cell_at k_k 0
          have x_k_1 := cell_at k_k 1
          have x_x_0 := cell_at k_x 0
          have x_x_1 := cell_at k_x 1
          have x_x_2 := cell_at k_x 2
          go_wp2_with fail
          clear x_k_0 x_k_1 x_x_0 x_x_1 x_x_2
          refine (HN.out _).mono ?_
          rintro e u9 ⟨rfl, hC⟩
          replace k_k := keep k_k hC
          replace k_c := keep k_c hC
          replace k_d := keep k_d hC
          replace k_j := keep k_j hC
          replace k_x := keep k_x hC
          replace hB := hB.trans (hC.mono hB.size)
          clear hC
          have x_c_0 := cell_at k_c 0
          have x_c_1 := cell_at k_c 1
          have x_c_2 := cell_at k_c 2
          have x_d_0 := cell_at k_d 0
          have x_d_1 := cell_at k_d 1
          have x_d_2 := cell_at k_d 2
          have x_j_0 := cell_at k_j 0
          have x_j_1 := cell_at k_j 1
          have x_j_2 := cell_at k_j 2
          go_wp2_with fail
          go_ret
          exact ⟨rfl, hB⟩
      · clear hm
        go_enter Tryd.func8, Tryd.ntmps8
        have hB : Below w.heap.size w w := Below.refl _ w
        go_wp2_with fail
        have hA : Below w.heap.size w ((w.alloc (.cells #[.int .u64 (U a), .int .u64 (U b)] 24)).alloc (.cells #[.int .u64 (U t), .int .i64 role, .int .u64 (U u)] 26)) := ((Below.refl _ w).alloc (Nat.le_refl _) _).alloc (by simp) _
        have hq0 := hB.size
        replace hB := hB.trans (hA.mono hB.size)
        have k_k : ((w.alloc (.cells #[.int .u64 (U a), .int .u64 (U b)] 24)).alloc (.cells #[.int .u64 (U t), .int .i64 role, .int .u64 (U u)] 26)).heap[w.heap.size]? = some (.cells #[.int .u64 (U a), .int .u64 (U b)] 24 (0, 0)) := old_at (new_at _ _ _ rfl)
        have k_c : ((w.alloc (.cells #[.int .u64 (U a), .int .u64 (U b)] 24)).alloc (.cells #[.int .u64 (U t), .int .i64 role, .int .u64 (U u)] 26)).heap[w.heap.size + 1]? = some (.cells #[.int .u64 (U t), .int .i64 role, .int .u64 (U u)] 26 (0, 0)) := new_at _ _ _ (by simp)
        obtain ⟨b_c, hb1⟩ : ∃ b, w.heap.size + 1 = b := ⟨_, rfl⟩
        have q_c : w.heap.size ≤ b_c := by omega
        rw [hb1] at k_c ⊢
        obtain ⟨b_k, hb0⟩ : ∃ b, w.heap.size = b := ⟨_, rfl⟩
        have q_k : w.heap.size ≤ b_k := by omega
        rw [hb0] at k_k ⊢
        have lt_k_c : b_k < b_c := by omega
        clear hA hq0 hb0 hb1
        generalize ((w.alloc (.cells #[.int .u64 (U a), .int .u64 (U b)] 24)).alloc (.cells #[.int .u64 (U t), .int .i64 role, .int .u64 (U u)] 26)) = u1 at *
        refine (shown_any a0 b0 w.heap.size _ (HS.out.later hB)).mono ?_
        rintro e u2 ⟨rfl, hC⟩
        replace k_k := keep k_k hC
        replace k_c := keep k_c hC
        replace hB := hB.trans (hC.mono hB.size)
        clear hC
        have x_k_0 := cell_at k_k 0
        have x_k_1 := cell_at k_k 1
        have x_c_0 := cell_at k_c 0
        have x_c_1 := cell_at k_c 1
        have x_c_2 := cell_at k_c 2
        go_wp2_with fail
        clear x_k_0 x_k_1 x_c_0 x_c_1 x_c_2
        refine (HM.out _).mono ?_
        rintro e u3 ⟨rfl, hC⟩
        replace k_k := keep k_k hC
        replace k_c := keep k_c hC
        replace hB := hB.trans (hC.mono hB.size)
        clear hC
        have x_k_0 := cell_at k_k 0
        have x_k_1 := cell_at k_k 1
        go_wp2_with fail
        clear x_k_0 x_k_1
        refine (HX.out _ (HS.out.later hB)).mono ?_
        rintro e u4 ⟨rfl, hC⟩
        replace k_k := keep k_k hC
        replace k_c := keep k_c hC
        replace hB := hB.trans (hC.mono hB.size)
        clear hC
        go_wp2_with fail
        have hA : Below u4.heap.size u4 (u4.alloc (.cells #[.int .u64 (U t), .int .i64 role, .int .u64 (U u)] 26)) := (Below.refl _ u4).alloc (Nat.le_refl _) _
        replace k_k := keep k_k hA
        replace k_c := keep k_c hA
        replace hB := hB.trans (hA.mono hB.size)
        have k_d := new_at u4 (.cells #[.int .u64 (U t), .int .i64 role, .int .u64 (U u)] 26) _ rfl
        obtain ⟨b_d, hb⟩ : ∃ b, u4.heap.size = b := ⟨_, rfl⟩
        rw [hb] at k_d ⊢
        clear hA hb
        generalize u4.alloc (.cells #[.int .u64 (U t), .int .i64 role, .int .u64 (U u)] 26) = u5 at *
        clear u4
        refine (HBo.out _ (HS.out.later hB)).mono ?_
        rintro e u6 ⟨rfl, hC⟩
        replace k_k := keep k_k hC
        replace k_c := keep k_c hC
        replace k_d := keep k_d hC
        replace hB := hB.trans (hC.mono hB.size)
        clear hC
        go_wp2_with fail
        have hA : Below u6.heap.size u6 (u6.alloc (.cells #[.int .u64 (U t), .int .i64 role, .int .u64 (U u)] 26)) := (Below.refl _ u6).alloc (Nat.le_refl _) _
        replace k_k := keep k_k hA
        replace k_c := keep k_c hA
        replace k_d := keep k_d hA
        replace hB := hB.trans (hA.mono hB.size)
        have k_j := new_at u6 (.cells #[.int .u64 (U t), .int .i64 role, .int .u64 (U u)] 26) _ rfl
        obtain ⟨b_j, hb⟩ : ∃ b, u6.heap.size = b := ⟨_, rfl⟩
        rw [hb] at k_j ⊢
        clear hA hb
        generalize u6.alloc (.cells #[.int .u64 (U t), .int .i64 role, .int .u64 (U u)] 26) = u7 at *
        clear u6
        have x_0 := cell_at k_k 0
        have x_1 := cell_at k_k 1
        have hch : ∀ W : World, W.cell? ⟨b_k, 0, none⟩ = some (.int .u64 (U a)) ∧ W.cell? ⟨b_k, 1, none⟩ = some (.int .u64 (U b)) → Sent a0 b0 w.heap.size W → Calls Tryd.prog 11 #[.agg #[.int .u64 (U a), .int .u64 (U b)], .string C, .int .u64 0] W fun e W' => e = .returned (.tuple #[.agg #[.int .u64 (U Tx), .int .i64 (U Rx), .int .u64 (U Vx)], .int .i64 171]) ∧ Below W.heap.size W W' ∧ W'.cell? ⟨b_k, 0, none⟩ = some (.int .u64 (U a)) ∧ W'.cell? ⟨b_k, 1, none⟩ = some (.int .u64 (U b)) := by
          rintro W ⟨k0, k1⟩ hS
          refine (HY.out W hS).mono ?_
          rintro e W' ⟨he, hb⟩
          have hl : b_k < W.heap.size := World.block_lt_of_cell? W ⟨b_k, 0, none⟩ k0
          exact ⟨he, hb, (hb.cell hl).trans k0, (hb.cell hl).trans k1⟩
        have Hch := Lib.hid hch
        clear hch
        have HS1 := Lib.hid (HS.out.later (hB.trans (((Below.refl u7.heap.size u7).drew).mono hB.size)))
        have HS2 := Lib.hid (HS.out.later (hB.trans ((((Below.refl u7.heap.size u7).alloc (Nat.le_refl _) (.cells #[.int .u64 0, .int .i64 0, .int .u64 0] 26)).drew).mono hB.size)))
        have hne1 := World.new_ne u7 _ x_0
        refine wp_join_f ?f_x3 (fun B W => Below u7.heap.size u7 W ∧ W.heap[B]? = some (.cells #[.int .u64 (U Tx), .int .i64 (U Rx), .int .u64 (U Vx)] 26 (0, 0))) ?h_x3 ?e_x3
        case h_x3 =>
          go_region_held3 (fun W => W.cell? ⟨b_k, 0, none⟩ = some (.int .u64 (U a)) ∧ W.cell? ⟨b_k, 1, none⟩ = some (.int .u64 (U b))) (go_keep) (first
            | (go_at_call 14; refine (HCs.out _).mono ?_; rintro e W ⟨rfl, rfl⟩)
            | (go_at_call 11; refine (Hch.out _ ?_ ?_).mono ?_; assumption; (first | exact HS1.out | exact HS2.out); rintro e W ⟨rfl, hBC, k0, k1⟩; have hne := World.new_ne W _ k0; try (have z := (hBC.block u7.heap.size (by simp)).trans (new_at u7 _ _ rfl); have z0 := cell_at z 0; have z1 := cell_at z 1; have z2 := cell_at z 2; have y0 := free_at z 0; have y1 := free_at z 1; have y2 := free_at z 2; clear z)))
          · refine ⟨rfl, W.heap.size, ?_, ?_, ?_⟩
            · generalize W.heap.size = B
              rfl
            · exact ((Below.refl _ u7).drew.trans (hBC.mono (Nat.le_refl _))).alloc hBC.size _
            · exact new_at _ _ _ rfl
          all_goals (refine ⟨rfl, u7.heap.size, rfl, (((((Below.refl _ u7).alloc (Nat.le_refl _) _).drew.trans (hBC.mono (by simp))).setCell (Nat.le_refl _) _).setCell (Nat.le_refl _) _).setCell (Nat.le_refl _) _, ((Put.refl ((hBC.block u7.heap.size (by simp)).trans (new_at u7 _ _ rfl))).set 0 _ |>.set 1 _ |>.set 2 _).get (by have := hBC.size; simp at this; omega)⟩)
        case e_x3 =>
          rintro b_x u8 ⟨hC, k_x⟩
          clear x_0 x_1 hne1 Hch HS1 HS2
          replace k_k := keep k_k hC
          replace k_c := keep k_c hC
          replace k_d := keep k_d hC
          replace k_j := keep k_j hC
          replace hB := hB.trans (hC.mono hB.size)
          clear hC
          clear u7
          have x_k_0 := cell_at k_k 0
          have x_k_1 := cell_at k_k 1
          have x_x_0 := cell_at k_x 0
          have x_x_1 := cell_at k_x 1
          have x_x_2 := cell_at k_x 2
          go_wp2_with fail
          clear x_k_0 x_k_1 x_x_0 x_x_1 x_x_2
          refine (HN.out _).mono ?_
          rintro e u9 ⟨rfl, hC⟩
          replace k_k := keep k_k hC
          replace k_c := keep k_c hC
          replace k_d := keep k_d hC
          replace k_j := keep k_j hC
          replace k_x := keep k_x hC
          replace hB := hB.trans (hC.mono hB.size)
          clear hC
          have x_c_0 := cell_at k_c 0
          have x_c_1 := cell_at k_c 1
          have x_c_2 := cell_at k_c 2
          have x_d_0 := cell_at k_d 0
          have x_d_1 := cell_at k_d 1
          have x_d_2 := cell_at k_d 2
          have x_j_0 := cell_at k_j 0
          have x_j_1 := cell_at k_j 1
          have x_j_2 := cell_at k_j 2
          go_wp2_with fail
          go_ret
          exact ⟨rfl, hB⟩
    · rw [if_neg hno] at tc
      rw [tc.1, tc.2.1, tc.2.2.1, tc.2.2.2, U_0] at HX
      have mo : U u < U now := by unfold U; omega
      clear tc hno hr
      rcases hc with rfl | rfl | rfl
      · obtain ⟨rfl, rfl⟩ := hm rfl
        go_enter Tryd.func8, Tryd.ntmps8
        have hB : Below w.heap.size w w := Below.refl _ w
        go_wp2_with fail
        have hA : Below w.heap.size w ((w.alloc (.cells #[.int .u64 (U a), .int .u64 (U b)] 24)).alloc (.cells #[.int .u64 (U t), .int .i64 role, .int .u64 (U u)] 26)) := ((Below.refl _ w).alloc (Nat.le_refl _) _).alloc (by simp) _
        have hq0 := hB.size
        replace hB := hB.trans (hA.mono hB.size)
        have k_k : ((w.alloc (.cells #[.int .u64 (U a), .int .u64 (U b)] 24)).alloc (.cells #[.int .u64 (U t), .int .i64 role, .int .u64 (U u)] 26)).heap[w.heap.size]? = some (.cells #[.int .u64 (U a), .int .u64 (U b)] 24 (0, 0)) := old_at (new_at _ _ _ rfl)
        have k_c : ((w.alloc (.cells #[.int .u64 (U a), .int .u64 (U b)] 24)).alloc (.cells #[.int .u64 (U t), .int .i64 role, .int .u64 (U u)] 26)).heap[w.heap.size + 1]? = some (.cells #[.int .u64 (U t), .int .i64 role, .int .u64 (U u)] 26 (0, 0)) := new_at _ _ _ (by simp)
        obtain ⟨b_c, hb1⟩ : ∃ b, w.heap.size + 1 = b := ⟨_, rfl⟩
        have q_c : w.heap.size ≤ b_c := by omega
        rw [hb1] at k_c ⊢
        obtain ⟨b_k, hb0⟩ : ∃ b, w.heap.size = b := ⟨_, rfl⟩
        have q_k : w.heap.size ≤ b_k := by omega
        rw [hb0] at k_k ⊢
        have lt_k_c : b_k < b_c := by omega
        clear hA hq0 hb0 hb1
        generalize ((w.alloc (.cells #[.int .u64 (U a), .int .u64 (U b)] 24)).alloc (.cells #[.int .u64 (U t), .int .i64 role, .int .u64 (U u)] 26)) = u1 at *
        refine (shown_any a0 b0 w.heap.size _ (HS.out.later hB)).mono ?_
        rintro e u2 ⟨rfl, hC⟩
        replace k_k := keep k_k hC
        replace k_c := keep k_c hC
        replace hB := hB.trans (hC.mono hB.size)
        clear hC
        have x_k_0 := cell_at k_k 0
        have x_k_1 := cell_at k_k 1
        have x_c_0 := cell_at k_c 0
        have x_c_1 := cell_at k_c 1
        have x_c_2 := cell_at k_c 2
        go_wp2_with fail
        clear x_k_0 x_k_1 x_c_0 x_c_1 x_c_2
        refine (HM.out _).mono ?_
        rintro e u3 ⟨rfl, hC⟩
        replace k_k := keep k_k hC
        replace k_c := keep k_c hC
        replace hB := hB.trans (hC.mono hB.size)
        clear hC
        have x_k_0 := cell_at k_k 0
        have x_k_1 := cell_at k_k 1
        go_wp2_with fail
        clear x_k_0 x_k_1
        refine (HX.out _ (HS.out.later hB)).mono ?_
        rintro e u4 ⟨rfl, hC⟩
        replace k_k := keep k_k hC
        replace k_c := keep k_c hC
        replace hB := hB.trans (hC.mono hB.size)
        clear hC
        go_wp2_with fail
        have hA : Below u4.heap.size u4 (u4.alloc (.cells #[.int .u64 0, .int .i64 0, .int .u64 0] 26)) := (Below.refl _ u4).alloc (Nat.le_refl _) _
        replace k_k := keep k_k hA
        replace k_c := keep k_c hA
        replace hB := hB.trans (hA.mono hB.size)
        have k_d := new_at u4 (.cells #[.int .u64 0, .int .i64 0, .int .u64 0] 26) _ rfl
        obtain ⟨b_d, hb⟩ : ∃ b, u4.heap.size = b := ⟨_, rfl⟩
        rw [hb] at k_d ⊢
        clear hA hb
        generalize u4.alloc (.cells #[.int .u64 0, .int .i64 0, .int .u64 0] 26) = u5 at *
        clear u4
        refine (HBo.out _ (HS.out.later hB)).mono ?_
        rintro e u6 ⟨rfl, hC⟩
        replace k_k := keep k_k hC
        replace k_c := keep k_c hC
        replace k_d := keep k_d hC
        replace hB := hB.trans (hC.mono hB.size)
        clear hC
        go_wp2_with fail
        have hA : Below u6.heap.size u6 (u6.alloc (.cells #[.int .u64 (U t), .int .i64 role, .int .u64 (U u)] 26)) := (Below.refl _ u6).alloc (Nat.le_refl _) _
        replace k_k := keep k_k hA
        replace k_c := keep k_c hA
        replace k_d := keep k_d hA
        replace hB := hB.trans (hA.mono hB.size)
        have k_j := new_at u6 (.cells #[.int .u64 (U t), .int .i64 role, .int .u64 (U u)] 26) _ rfl
        obtain ⟨b_j, hb⟩ : ∃ b, u6.heap.size = b := ⟨_, rfl⟩
        rw [hb] at k_j ⊢
        clear hA hb
        generalize u6.alloc (.cells #[.int .u64 (U t), .int .i64 role, .int .u64 (U u)] 26) = u7 at *
        clear u6
        have x_0 := cell_at k_k 0
        have x_1 := cell_at k_k 1
        have hch : ∀ W : World, W.cell? ⟨b_k, 0, none⟩ = some (.int .u64 (U a)) ∧ W.cell? ⟨b_k, 1, none⟩ = some (.int .u64 (U b)) → Sent a0 b0 w.heap.size W → Calls Tryd.prog 11 #[.agg #[.int .u64 (U a), .int .u64 (U b)], .string M, .int .u64 0] W fun e W' => e = .returned (.tuple #[.agg #[.int .u64 (U Tx), .int .i64 (U Rx), .int .u64 (U Vx)], .int .i64 0]) ∧ Below W.heap.size W W' ∧ W'.cell? ⟨b_k, 0, none⟩ = some (.int .u64 (U a)) ∧ W'.cell? ⟨b_k, 1, none⟩ = some (.int .u64 (U b)) := by
          rintro W ⟨k0, k1⟩ hS
          refine (HY.out W hS).mono ?_
          rintro e W' ⟨he, hb⟩
          have hl : b_k < W.heap.size := World.block_lt_of_cell? W ⟨b_k, 0, none⟩ k0
          exact ⟨he, hb, (hb.cell hl).trans k0, (hb.cell hl).trans k1⟩
        have Hch := Lib.hid hch
        clear hch
        have HS1 := Lib.hid (HS.out.later (hB.trans (((Below.refl u7.heap.size u7).drew).mono hB.size)))
        have HS2 := Lib.hid (HS.out.later (hB.trans ((((Below.refl u7.heap.size u7).alloc (Nat.le_refl _) (.cells #[.int .u64 0, .int .i64 0, .int .u64 0] 26)).drew).mono hB.size)))
        have hne1 := World.new_ne u7 _ x_0
        refine wp_join_f ?f_x4 (fun B W => Below u7.heap.size u7 W ∧ W.heap[B]? = some (.cells #[.int .u64 (U Tx), .int .i64 (U Rx), .int .u64 (U Vx)] 26 (0, 0))) ?h_x4 ?e_x4
        case h_x4 =>
          go_region_held3 (fun W => W.cell? ⟨b_k, 0, none⟩ = some (.int .u64 (U a)) ∧ W.cell? ⟨b_k, 1, none⟩ = some (.int .u64 (U b))) (go_keep) (first
            | (go_at_call 14; refine (HCs.out _).mono ?_; rintro e W ⟨rfl, rfl⟩)
            | (go_at_call 11; refine (Hch.out _ ?_ ?_).mono ?_; assumption; (first | exact HS1.out | exact HS2.out); rintro e W ⟨rfl, hBC, k0, k1⟩; have hne := World.new_ne W _ k0; try (have z := (hBC.block u7.heap.size (by simp)).trans (new_at u7 _ _ rfl); have z0 := cell_at z 0; have z1 := cell_at z 1; have z2 := cell_at z 2; have y0 := free_at z 0; have y1 := free_at z 1; have y2 := free_at z 2; clear z)))
          · refine ⟨rfl, W.heap.size, ?_, ?_, ?_⟩
            · generalize W.heap.size = B
              rfl
            · exact ((Below.refl _ u7).drew.trans (hBC.mono (Nat.le_refl _))).alloc hBC.size _
            · exact new_at _ _ _ rfl
          all_goals (refine ⟨rfl, u7.heap.size, rfl, (((((Below.refl _ u7).alloc (Nat.le_refl _) _).drew.trans (hBC.mono (by simp))).setCell (Nat.le_refl _) _).setCell (Nat.le_refl _) _).setCell (Nat.le_refl _) _, ((Put.refl ((hBC.block u7.heap.size (by simp)).trans (new_at u7 _ _ rfl))).set 0 _ |>.set 1 _ |>.set 2 _).get (by have := hBC.size; simp at this; omega)⟩)
        case e_x4 =>
          rintro b_x u8 ⟨hC, k_x⟩
          clear x_0 x_1 hne1 Hch HS1 HS2
          replace k_k := keep k_k hC
          replace k_c := keep k_c hC
          replace k_d := keep k_d hC
          replace k_j := keep k_j hC
          replace hB := hB.trans (hC.mono hB.size)
          clear hC
          clear u7
          have x_k_0 := cell_at k_k 0
          have x_k_1 := cell_at k_k 1
          have x_x_0 := cell_at k_x 0
          have x_x_1 := cell_at k_x 1
          have x_x_2 := cell_at k_x 2
          go_wp2_with fail
          clear x_k_0 x_k_1 x_x_0 x_x_1 x_x_2
          refine (HN.out _).mono ?_
          rintro e u9 ⟨rfl, hC⟩
          replace k_k := keep k_k hC
          replace k_c := keep k_c hC
          replace k_d := keep k_d hC
          replace k_j := keep k_j hC
          replace k_x := keep k_x hC
          replace hB := hB.trans (hC.mono hB.size)
          clear hC
          have x_c_0 := cell_at k_c 0
          have x_c_1 := cell_at k_c 1
          have x_c_2 := cell_at k_c 2
          have x_d_0 := cell_at k_d 0
          have x_d_1 := cell_at k_d 1
          have x_d_2 := cell_at k_d 2
          have x_j_0 := cell_at k_j 0
          have x_j_1 := cell_at k_j 1
          have x_j_2 := cell_at k_j 2
          go_wp2_with fail
          refine (HCs.out _).mono ?_
          rintro e v ⟨rfl, rfl⟩
          go_wp2_with fail
          go_ret
          exact ⟨rfl, hB⟩
      · clear hm
        go_enter Tryd.func8, Tryd.ntmps8
        have hB : Below w.heap.size w w := Below.refl _ w
        go_wp2_with fail
        have hA : Below w.heap.size w ((w.alloc (.cells #[.int .u64 (U a), .int .u64 (U b)] 24)).alloc (.cells #[.int .u64 (U t), .int .i64 role, .int .u64 (U u)] 26)) := ((Below.refl _ w).alloc (Nat.le_refl _) _).alloc (by simp) _
        have hq0 := hB.size
        replace hB := hB.trans (hA.mono hB.size)
        have k_k : ((w.alloc (.cells #[.int .u64 (U a), .int .u64 (U b)] 24)).alloc (.cells #[.int .u64 (U t), .int .i64 role, .int .u64 (U u)] 26)).heap[w.heap.size]? = some (.cells #[.int .u64 (U a), .int .u64 (U b)] 24 (0, 0)) := old_at (new_at _ _ _ rfl)
        have k_c : ((w.alloc (.cells #[.int .u64 (U a), .int .u64 (U b)] 24)).alloc (.cells #[.int .u64 (U t), .int .i64 role, .int .u64 (U u)] 26)).heap[w.heap.size + 1]? = some (.cells #[.int .u64 (U t), .int .i64 role, .int .u64 (U u)] 26 (0, 0)) := new_at _ _ _ (by simp)
        obtain ⟨b_c, hb1⟩ : ∃ b, w.heap.size + 1 = b := ⟨_, rfl⟩
        have q_c : w.heap.size ≤ b_c := by omega
        rw [hb1] at k_c ⊢
        obtain ⟨b_k, hb0⟩ : ∃ b, w.heap.size = b := ⟨_, rfl⟩
        have q_k : w.heap.size ≤ b_k := by omega
        rw [hb0] at k_k ⊢
        have lt_k_c : b_k < b_c := by omega
        clear hA hq0 hb0 hb1
        generalize ((w.alloc (.cells #[.int .u64 (U a), .int .u64 (U b)] 24)).alloc (.cells #[.int .u64 (U t), .int .i64 role, .int .u64 (U u)] 26)) = u1 at *
        refine (shown_any a0 b0 w.heap.size _ (HS.out.later hB)).mono ?_
        rintro e u2 ⟨rfl, hC⟩
        replace k_k := keep k_k hC
        replace k_c := keep k_c hC
        replace hB := hB.trans (hC.mono hB.size)
        clear hC
        have x_k_0 := cell_at k_k 0
        have x_k_1 := cell_at k_k 1
        have x_c_0 := cell_at k_c 0
        have x_c_1 := cell_at k_c 1
        have x_c_2 := cell_at k_c 2
        go_wp2_with fail
        clear x_k_0 x_k_1 x_c_0 x_c_1 x_c_2
        refine (HM.out _).mono ?_
        rintro e u3 ⟨rfl, hC⟩
        replace k_k := keep k_k hC
        replace k_c := keep k_c hC
        replace hB := hB.trans (hC.mono hB.size)
        clear hC
        have x_k_0 := cell_at k_k 0
        have x_k_1 := cell_at k_k 1
        go_wp2_with fail
        clear x_k_0 x_k_1
        refine (HX.out _ (HS.out.later hB)).mono ?_
        rintro e u4 ⟨rfl, hC⟩
        replace k_k := keep k_k hC
        replace k_c := keep k_c hC
        replace hB := hB.trans (hC.mono hB.size)
        clear hC
        go_wp2_with fail
        have hA : Below u4.heap.size u4 (u4.alloc (.cells #[.int .u64 0, .int .i64 0, .int .u64 0] 26)) := (Below.refl _ u4).alloc (Nat.le_refl _) _
        replace k_k := keep k_k hA
        replace k_c := keep k_c hA
        replace hB := hB.trans (hA.mono hB.size)
        have k_d := new_at u4 (.cells #[.int .u64 0, .int .i64 0, .int .u64 0] 26) _ rfl
        obtain ⟨b_d, hb⟩ : ∃ b, u4.heap.size = b := ⟨_, rfl⟩
        rw [hb] at k_d ⊢
        clear hA hb
        generalize u4.alloc (.cells #[.int .u64 0, .int .i64 0, .int .u64 0] 26) = u5 at *
        clear u4
        refine (HBo.out _ (HS.out.later hB)).mono ?_
        rintro e u6 ⟨rfl, hC⟩
        replace k_k := keep k_k hC
        replace k_c := keep k_c hC
        replace k_d := keep k_d hC
        replace hB := hB.trans (hC.mono hB.size)
        clear hC
        go_wp2_with fail
        have hA : Below u6.heap.size u6 (u6.alloc (.cells #[.int .u64 (U t), .int .i64 role, .int .u64 (U u)] 26)) := (Below.refl _ u6).alloc (Nat.le_refl _) _
        replace k_k := keep k_k hA
        replace k_c := keep k_c hA
        replace k_d := keep k_d hA
        replace hB := hB.trans (hA.mono hB.size)
        have k_j := new_at u6 (.cells #[.int .u64 (U t), .int .i64 role, .int .u64 (U u)] 26) _ rfl
        obtain ⟨b_j, hb⟩ : ∃ b, u6.heap.size = b := ⟨_, rfl⟩
        rw [hb] at k_j ⊢
        clear hA hb
        generalize u6.alloc (.cells #[.int .u64 (U t), .int .i64 role, .int .u64 (U u)] 26) = u7 at *
        clear u6
        have x_0 := cell_at k_k 0
        have x_1 := cell_at k_k 1
        have hch : ∀ W : World, W.cell? ⟨b_k, 0, none⟩ = some (.int .u64 (U a)) ∧ W.cell? ⟨b_k, 1, none⟩ = some (.int .u64 (U b)) → Sent a0 b0 w.heap.size W → Calls Tryd.prog 11 #[.agg #[.int .u64 (U a), .int .u64 (U b)], .string C, .int .u64 0] W fun e W' => e = .returned (.tuple #[.agg #[.int .u64 (U Tx), .int .i64 (U Rx), .int .u64 (U Vx)], .int .i64 170]) ∧ Below W.heap.size W W' ∧ W'.cell? ⟨b_k, 0, none⟩ = some (.int .u64 (U a)) ∧ W'.cell? ⟨b_k, 1, none⟩ = some (.int .u64 (U b)) := by
          rintro W ⟨k0, k1⟩ hS
          refine (HY.out W hS).mono ?_
          rintro e W' ⟨he, hb⟩
          have hl : b_k < W.heap.size := World.block_lt_of_cell? W ⟨b_k, 0, none⟩ k0
          exact ⟨he, hb, (hb.cell hl).trans k0, (hb.cell hl).trans k1⟩
        have Hch := Lib.hid hch
        clear hch
        have HS1 := Lib.hid (HS.out.later (hB.trans (((Below.refl u7.heap.size u7).drew).mono hB.size)))
        have HS2 := Lib.hid (HS.out.later (hB.trans ((((Below.refl u7.heap.size u7).alloc (Nat.le_refl _) (.cells #[.int .u64 0, .int .i64 0, .int .u64 0] 26)).drew).mono hB.size)))
        have hne1 := World.new_ne u7 _ x_0
        refine wp_join_f ?f_x5 (fun B W => Below u7.heap.size u7 W ∧ W.heap[B]? = some (.cells #[.int .u64 (U Tx), .int .i64 (U Rx), .int .u64 (U Vx)] 26 (0, 0))) ?h_x5 ?e_x5
        case h_x5 =>
          go_region_held3 (fun W => W.cell? ⟨b_k, 0, none⟩ = some (.int .u64 (U a)) ∧ W.cell? ⟨b_k, 1, none⟩ = some (.int .u64 (U b))) (go_keep) (first
            | (go_at_call 14; refine (HCs.out _).mono ?_; rintro e W ⟨rfl, rfl⟩)
            | (go_at_call 11; refine (Hch.out _ ?_ ?_).mono ?_; assumption; (first | exact HS1.out | exact HS2.out); rintro e W ⟨rfl, hBC, k0, k1⟩; have hne := World.new_ne W _ k0; try (have z := (hBC.block u7.heap.size (by simp)).trans (new_at u7 _ _ rfl); have z0 := cell_at z 0; have z1 := cell_at z 1; have z2 := cell_at z 2; have y0 := free_at z 0; have y1 := free_at z 1; have y2 := free_at z 2; clear z)))
          · refine ⟨rfl, W.heap.size, ?_, ?_, ?_⟩
            · generalize W.heap.size = B
              rfl
            · exact ((Below.refl _ u7).drew.trans (hBC.mono (Nat.le_refl _))).alloc hBC.size _
            · exact new_at _ _ _ rfl
          all_goals (refine ⟨rfl, u7.heap.size, rfl, (((((Below.refl _ u7).alloc (Nat.le_refl _) _).drew.trans (hBC.mono (by simp))).setCell (Nat.le_refl _) _).setCell (Nat.le_refl _) _).setCell (Nat.le_refl _) _, ((Put.refl ((hBC.block u7.heap.size (by simp)).trans (new_at u7 _ _ rfl))).set 0 _ |>.set 1 _ |>.set 2 _).get (by have := hBC.size; simp at this; omega)⟩)
        case e_x5 =>
          rintro b_x u8 ⟨hC, k_x⟩
          clear x_0 x_1 hne1 Hch HS1 HS2
          replace k_k := keep k_k hC
          replace k_c := keep k_c hC
          replace k_d := keep k_d hC
          replace k_j := keep k_j hC
          replace hB := hB.trans (hC.mono hB.size)
          clear hC
          clear u7
          have x_k_0 := cell_at k_k 0
          have x_k_1 := cell_at k_k 1
          have x_x_0 := cell_at k_x 0
          have x_x_1 := cell_at k_x 1
          have x_x_2 := cell_at k_x 2
          go_wp2_with fail
          clear x_k_0 x_k_1 x_x_0 x_x_1 x_x_2
          refine (HN.out _).mono ?_
          rintro e u9 ⟨rfl, hC⟩
          replace k_k := keep k_k hC
          replace k_c := keep k_c hC
          replace k_d := keep k_d hC
          replace k_j := keep k_j hC
          replace k_x := keep k_x hC
          replace hB := hB.trans (hC.mono hB.size)
          clear hC
          have x_c_0 := cell_at k_c 0
          have x_c_1 := cell_at k_c 1
          have x_c_2 := cell_at k_c 2
          have x_d_0 := cell_at k_d 0
          have x_d_1 := cell_at k_d 1
          have x_d_2 := cell_at k_d 2
          have x_j_0 := cell_at k_j 0
          have x_j_1 := cell_at k_j 1
          have x_j_2 := cell_at k_j 2
          go_wp2_with fail
          go_ret
          exact ⟨rfl, hB⟩
      · clear hm
        go_enter Tryd.func8, Tryd.ntmps8
        have hB : Below w.heap.size w w := Below.refl _ w
        go_wp2_with fail
        have hA : Below w.heap.size w ((w.alloc (.cells #[.int .u64 (U a), .int .u64 (U b)] 24)).alloc (.cells #[.int .u64 (U t), .int .i64 role, .int .u64 (U u)] 26)) := ((Below.refl _ w).alloc (Nat.le_refl _) _).alloc (by simp) _
        have hq0 := hB.size
        replace hB := hB.trans (hA.mono hB.size)
        have k_k : ((w.alloc (.cells #[.int .u64 (U a), .int .u64 (U b)] 24)).alloc (.cells #[.int .u64 (U t), .int .i64 role, .int .u64 (U u)] 26)).heap[w.heap.size]? = some (.cells #[.int .u64 (U a), .int .u64 (U b)] 24 (0, 0)) := old_at (new_at _ _ _ rfl)
        have k_c : ((w.alloc (.cells #[.int .u64 (U a), .int .u64 (U b)] 24)).alloc (.cells #[.int .u64 (U t), .int .i64 role, .int .u64 (U u)] 26)).heap[w.heap.size + 1]? = some (.cells #[.int .u64 (U t), .int .i64 role, .int .u64 (U u)] 26 (0, 0)) := new_at _ _ _ (by simp)
        obtain ⟨b_c, hb1⟩ : ∃ b, w.heap.size + 1 = b := ⟨_, rfl⟩
        have q_c : w.heap.size ≤ b_c := by omega
        rw [hb1] at k_c ⊢
        obtain ⟨b_k, hb0⟩ : ∃ b, w.heap.size = b := ⟨_, rfl⟩
        have q_k : w.heap.size ≤ b_k := by omega
        rw [hb0] at k_k ⊢
        have lt_k_c : b_k < b_c := by omega
        clear hA hq0 hb0 hb1
        generalize ((w.alloc (.cells #[.int .u64 (U a), .int .u64 (U b)] 24)).alloc (.cells #[.int .u64 (U t), .int .i64 role, .int .u64 (U u)] 26)) = u1 at *
        refine (shown_any a0 b0 w.heap.size _ (HS.out.later hB)).mono ?_
        rintro e u2 ⟨rfl, hC⟩
        replace k_k := keep k_k hC
        replace k_c := keep k_c hC
        replace hB := hB.trans (hC.mono hB.size)
        clear hC
        have x_k_0 := cell_at k_k 0
        have x_k_1 := cell_at k_k 1
        have x_c_0 := cell_at k_c 0
        have x_c_1 := cell_at k_c 1
        have x_c_2 := cell_at k_c 2
        go_wp2_with fail
        clear x_k_0 x_k_1 x_c_0 x_c_1 x_c_2
        refine (HM.out _).mono ?_
        rintro e u3 ⟨rfl, hC⟩
        replace k_k := keep k_k hC
        replace k_c := keep k_c hC
        replace hB := hB.trans (hC.mono hB.size)
        clear hC
        have x_k_0 := cell_at k_k 0
        have x_k_1 := cell_at k_k 1
        go_wp2_with fail
        clear x_k_0 x_k_1
        refine (HX.out _ (HS.out.later hB)).mono ?_
        rintro e u4 ⟨rfl, hC⟩
        replace k_k := keep k_k hC
        replace k_c := keep k_c hC
        replace hB := hB.trans (hC.mono hB.size)
        clear hC
        go_wp2_with fail
        have hA : Below u4.heap.size u4 (u4.alloc (.cells #[.int .u64 0, .int .i64 0, .int .u64 0] 26)) := (Below.refl _ u4).alloc (Nat.le_refl _) _
        replace k_k := keep k_k hA
        replace k_c := keep k_c hA
        replace hB := hB.trans (hA.mono hB.size)
        have k_d := new_at u4 (.cells #[.int .u64 0, .int .i64 0, .int .u64 0] 26) _ rfl
        obtain ⟨b_d, hb⟩ : ∃ b, u4.heap.size = b := ⟨_, rfl⟩
        rw [hb] at k_d ⊢
        clear hA hb
        generalize u4.alloc (.cells #[.int .u64 0, .int .i64 0, .int .u64 0] 26) = u5 at *
        clear u4
        refine (HBo.out _ (HS.out.later hB)).mono ?_
        rintro e u6 ⟨rfl, hC⟩
        replace k_k := keep k_k hC
        replace k_c := keep k_c hC
        replace k_d := keep k_d hC
        replace hB := hB.trans (hC.mono hB.size)
        clear hC
        go_wp2_with fail
        have hA : Below u6.heap.size u6 (u6.alloc (.cells #[.int .u64 (U t), .int .i64 role, .int .u64 (U u)] 26)) := (Below.refl _ u6).alloc (Nat.le_refl _) _
        replace k_k := keep k_k hA
        replace k_c := keep k_c hA
        replace k_d := keep k_d hA
        replace hB := hB.trans (hA.mono hB.size)
        have k_j := new_at u6 (.cells #[.int .u64 (U t), .int .i64 role, .int .u64 (U u)] 26) _ rfl
        obtain ⟨b_j, hb⟩ : ∃ b, u6.heap.size = b := ⟨_, rfl⟩
        rw [hb] at k_j ⊢
        clear hA hb
        generalize u6.alloc (.cells #[.int .u64 (U t), .int .i64 role, .int .u64 (U u)] 26) = u7 at *
        clear u6
        have x_0 := cell_at k_k 0
        have x_1 := cell_at k_k 1
        have hch : ∀ W : World, W.cell? ⟨b_k, 0, none⟩ = some (.int .u64 (U a)) ∧ W.cell? ⟨b_k, 1, none⟩ = some (.int .u64 (U b)) → Sent a0 b0 w.heap.size W → Calls Tryd.prog 11 #[.agg #[.int .u64 (U a), .int .u64 (U b)], .string C, .int .u64 0] W fun e W' => e = .returned (.tuple #[.agg #[.int .u64 (U Tx), .int .i64 (U Rx), .int .u64 (U Vx)], .int .i64 171]) ∧ Below W.heap.size W W' ∧ W'.cell? ⟨b_k, 0, none⟩ = some (.int .u64 (U a)) ∧ W'.cell? ⟨b_k, 1, none⟩ = some (.int .u64 (U b)) := by
          rintro W ⟨k0, k1⟩ hS
          refine (HY.out W hS).mono ?_
          rintro e W' ⟨he, hb⟩
          have hl : b_k < W.heap.size := World.block_lt_of_cell? W ⟨b_k, 0, none⟩ k0
          exact ⟨he, hb, (hb.cell hl).trans k0, (hb.cell hl).trans k1⟩
        have Hch := Lib.hid hch
        clear hch
        have HS1 := Lib.hid (HS.out.later (hB.trans (((Below.refl u7.heap.size u7).drew).mono hB.size)))
        have HS2 := Lib.hid (HS.out.later (hB.trans ((((Below.refl u7.heap.size u7).alloc (Nat.le_refl _) (.cells #[.int .u64 0, .int .i64 0, .int .u64 0] 26)).drew).mono hB.size)))
        have hne1 := World.new_ne u7 _ x_0
        refine wp_join_f ?f_x6 (fun B W => Below u7.heap.size u7 W ∧ W.heap[B]? = some (.cells #[.int .u64 (U Tx), .int .i64 (U Rx), .int .u64 (U Vx)] 26 (0, 0))) ?h_x6 ?e_x6
        case h_x6 =>
          go_region_held3 (fun W => W.cell? ⟨b_k, 0, none⟩ = some (.int .u64 (U a)) ∧ W.cell? ⟨b_k, 1, none⟩ = some (.int .u64 (U b))) (go_keep) (first
            | (go_at_call 14; refine (HCs.out _).mono ?_; rintro e W ⟨rfl, rfl⟩)
            | (go_at_call 11; refine (Hch.out _ ?_ ?_).mono ?_; assumption; (first | exact HS1.out | exact HS2.out); rintro e W ⟨rfl, hBC, k0, k1⟩; have hne := World.new_ne W _ k0; try (have z := (hBC.block u7.heap.size (by simp)).trans (new_at u7 _ _ rfl); have z0 := cell_at z 0; have z1 := cell_at z 1; have z2 := cell_at z 2; have y0 := free_at z 0; have y1 := free_at z 1; have y2 := free_at z 2; clear z)))
          · refine ⟨rfl, W.heap.size, ?_, ?_, ?_⟩
            · generalize W.heap.size = B
              rfl
            · exact ((Below.refl _ u7).drew.trans (hBC.mono (Nat.le_refl _))).alloc hBC.size _
            · exact new_at _ _ _ rfl
          all_goals (refine ⟨rfl, u7.heap.size, rfl, (((((Below.refl _ u7).alloc (Nat.le_refl _) _).drew.trans (hBC.mono (by simp))).setCell (Nat.le_refl _) _).setCell (Nat.le_refl _) _).setCell (Nat.le_refl _) _, ((Put.refl ((hBC.block u7.heap.size (by simp)).trans (new_at u7 _ _ rfl))).set 0 _ |>.set 1 _ |>.set 2 _).get (by have := hBC.size; simp at this; omega)⟩)
        case e_x6 =>
          rintro b_x u8 ⟨hC, k_x⟩
          clear x_0 x_1 hne1 Hch HS1 HS2
          replace k_k := keep k_k hC
          replace k_c := keep k_c hC
          replace k_d := keep k_d hC
          replace k_j := keep k_j hC
          replace hB := hB.trans (hC.mono hB.size)
          clear hC
          clear u7
          have x_k_0 := cell_at k_k 0
          have x_k_1 := cell_at k_k 1
          have x_x_0 := cell_at k_x 0
          have x_x_1 := cell_at k_x 1
          have x_x_2 := cell_at k_x 2
          go_wp2_with fail
          clear x_k_0 x_k_1 x_x_0 x_x_1 x_x_2
          refine (HN.out _).mono ?_
          rintro e u9 ⟨rfl, hC⟩
          replace k_k := keep k_k hC
          replace k_c := keep k_c hC
          replace k_d := keep k_d hC
          replace k_j := keep k_j hC
          replace k_x := keep k_x hC
          replace hB := hB.trans (hC.mono hB.size)
          clear hC
          have x_c_0 := cell_at k_c 0
          have x_c_1 := cell_at k_c 1
          have x_c_2 := cell_at k_c 2
          have x_d_0 := cell_at k_d 0
          have x_d_1 := cell_at k_d 1
          have x_d_2 := cell_at k_d 2
          have x_j_0 := cell_at k_j 0
          have x_j_1 := cell_at k_j 1
          have x_j_2 := cell_at k_j 2
          go_wp2_with fail
          go_ret
          exact ⟨rfl, hB⟩
  · rw [e, minB_no a b t u hn] at HM
    clear e
    by_cases hlo : role < 1
    · clear hn
      go_enter Tryd.func8, Tryd.ntmps8
      have hB : Below w.heap.size w w := Below.refl _ w
      go_wp2_with fail
      have hA : Below w.heap.size w ((w.alloc (.cells #[.int .u64 (U a), .int .u64 (U b)] 24)).alloc (.cells #[.int .u64 (U t), .int .i64 role, .int .u64 (U u)] 26)) := ((Below.refl _ w).alloc (Nat.le_refl _) _).alloc (by simp) _
      have hq0 := hB.size
      replace hB := hB.trans (hA.mono hB.size)
      have k_k : ((w.alloc (.cells #[.int .u64 (U a), .int .u64 (U b)] 24)).alloc (.cells #[.int .u64 (U t), .int .i64 role, .int .u64 (U u)] 26)).heap[w.heap.size]? = some (.cells #[.int .u64 (U a), .int .u64 (U b)] 24 (0, 0)) := old_at (new_at _ _ _ rfl)
      have k_c : ((w.alloc (.cells #[.int .u64 (U a), .int .u64 (U b)] 24)).alloc (.cells #[.int .u64 (U t), .int .i64 role, .int .u64 (U u)] 26)).heap[w.heap.size + 1]? = some (.cells #[.int .u64 (U t), .int .i64 role, .int .u64 (U u)] 26 (0, 0)) := new_at _ _ _ (by simp)
      obtain ⟨b_c, hb1⟩ : ∃ b, w.heap.size + 1 = b := ⟨_, rfl⟩
      have q_c : w.heap.size ≤ b_c := by omega
      rw [hb1] at k_c ⊢
      obtain ⟨b_k, hb0⟩ : ∃ b, w.heap.size = b := ⟨_, rfl⟩
      have q_k : w.heap.size ≤ b_k := by omega
      rw [hb0] at k_k ⊢
      have lt_k_c : b_k < b_c := by omega
      clear hA hq0 hb0 hb1
      generalize ((w.alloc (.cells #[.int .u64 (U a), .int .u64 (U b)] 24)).alloc (.cells #[.int .u64 (U t), .int .i64 role, .int .u64 (U u)] 26)) = u1 at *
      refine (shown_any a0 b0 w.heap.size _ (HS.out.later hB)).mono ?_
      rintro e u2 ⟨rfl, hC⟩
      replace k_k := keep k_k hC
      replace k_c := keep k_c hC
      replace hB := hB.trans (hC.mono hB.size)
      clear hC
      have x_k_0 := cell_at k_k 0
      have x_k_1 := cell_at k_k 1
      have x_c_0 := cell_at k_c 0
      have x_c_1 := cell_at k_c 1
      have x_c_2 := cell_at k_c 2
      go_wp2_with fail
      clear x_k_0 x_k_1 x_c_0 x_c_1 x_c_2
      refine (HM.out _).mono ?_
      rintro e u3 ⟨rfl, hC⟩
      replace k_k := keep k_k hC
      replace k_c := keep k_c hC
      replace hB := hB.trans (hC.mono hB.size)
      clear hC
      have x_c_0 := cell_at k_c 0
      have x_c_1 := cell_at k_c 1
      have x_c_2 := cell_at k_c 2
      go_wp2_with fail
      go_ret
      exact ⟨rfl, hB⟩
    · have hhi : 3 < role := by omega
      have dlo : decide (role < 1) = false := decide_eq_false hlo
      clear hn
      go_enter Tryd.func8, Tryd.ntmps8
      have hB : Below w.heap.size w w := Below.refl _ w
      go_wp2_with fail
      have hA : Below w.heap.size w ((w.alloc (.cells #[.int .u64 (U a), .int .u64 (U b)] 24)).alloc (.cells #[.int .u64 (U t), .int .i64 role, .int .u64 (U u)] 26)) := ((Below.refl _ w).alloc (Nat.le_refl _) _).alloc (by simp) _
      have hq0 := hB.size
      replace hB := hB.trans (hA.mono hB.size)
      have k_k : ((w.alloc (.cells #[.int .u64 (U a), .int .u64 (U b)] 24)).alloc (.cells #[.int .u64 (U t), .int .i64 role, .int .u64 (U u)] 26)).heap[w.heap.size]? = some (.cells #[.int .u64 (U a), .int .u64 (U b)] 24 (0, 0)) := old_at (new_at _ _ _ rfl)
      have k_c : ((w.alloc (.cells #[.int .u64 (U a), .int .u64 (U b)] 24)).alloc (.cells #[.int .u64 (U t), .int .i64 role, .int .u64 (U u)] 26)).heap[w.heap.size + 1]? = some (.cells #[.int .u64 (U t), .int .i64 role, .int .u64 (U u)] 26 (0, 0)) := new_at _ _ _ (by simp)
      obtain ⟨b_c, hb1⟩ : ∃ b, w.heap.size + 1 = b := ⟨_, rfl⟩
      have q_c : w.heap.size ≤ b_c := by omega
      rw [hb1] at k_c ⊢
      obtain ⟨b_k, hb0⟩ : ∃ b, w.heap.size = b := ⟨_, rfl⟩
      have q_k : w.heap.size ≤ b_k := by omega
      rw [hb0] at k_k ⊢
      have lt_k_c : b_k < b_c := by omega
      clear hA hq0 hb0 hb1
      generalize ((w.alloc (.cells #[.int .u64 (U a), .int .u64 (U b)] 24)).alloc (.cells #[.int .u64 (U t), .int .i64 role, .int .u64 (U u)] 26)) = u1 at *
      refine (shown_any a0 b0 w.heap.size _ (HS.out.later hB)).mono ?_
      rintro e u2 ⟨rfl, hC⟩
      replace k_k := keep k_k hC
      replace k_c := keep k_c hC
      replace hB := hB.trans (hC.mono hB.size)
      clear hC
      have x_k_0 := cell_at k_k 0
      have x_k_1 := cell_at k_k 1
      have x_c_0 := cell_at k_c 0
      have x_c_1 := cell_at k_c 1
      have x_c_2 := cell_at k_c 2
      go_wp2_with fail
      clear x_k_0 x_k_1 x_c_0 x_c_1 x_c_2
      refine (HM.out _).mono ?_
      rintro e u3 ⟨rfl, hC⟩
      replace k_k := keep k_k hC
      replace k_c := keep k_c hC
      replace hB := hB.trans (hC.mono hB.size)
      clear hC
      have x_c_0 := cell_at k_c 0
      have x_c_1 := cell_at k_c 1
      have x_c_2 := cell_at k_c 2
      go_wp2_with fail
      go_ret
      exact ⟨rfl, hB⟩
end Go.Proofs.YtpekedldoplmmaaDoor
