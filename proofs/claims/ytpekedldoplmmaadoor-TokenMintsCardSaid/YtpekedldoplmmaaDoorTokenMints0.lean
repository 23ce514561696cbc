/-
  The walk of TokenMints. Printed by gen_tokl.py.
-/
import Derived.Test.YtpekedldoplmmaaDoorTokL
import Derived.Deep.RegionHeld3
namespace Go.Proofs.YtpekedldoplmmaaDoor
open Go.RowKit Go.Shelf

/-- What stands behind a piece of code that lays a block wherever it may is asked once, of all the ways through it. -/
theorem wp_join_f {P : Program} {c : Code} {Q : Exit → Act → World → Prop} {a : Act} {w : World} (f : Nat → Act) (Φ : Nat → World → Prop) (h1 : c.wp P (fun e a' w' => e = .normal ∧ ∃ B, a' = f B ∧ Φ B w') a w) (h2 : ∀ B w', Φ B w' → Q .normal (f B) w') : c.wp P Q a w :=
  wp_mono h1 fun e a' w' ⟨he, B, ha, h⟩ => by subst he ha; exact h2 B w' h
set_option maxRecDepth 100000 in
set_option maxHeartbeats 4000000 in
theorem walk_TokenMints (a0 b0 : Addr) (a b t : BitVec 64) (role : Int) (u : BitVec 64) (s : ByteArray) (hs : s.size ≤ 9223372036854775807) (now : BitVec 64) (ro op : Int) (w : World) (hS : Sent a0 b0 w.heap.size w) :
    Calls Tryd.prog 7 #[.agg #[.int .u64 (U a), .int .u64 (U b)], .agg #[.int .u64 (U t), .int .i64 role, .int .u64 (U u)], .string s, .int .u64 (U now), .int .i64 ro, .int .i64 op] w fun e w' => e = .returned (.bool true) ∧ Below w.heap.size w w' := by
  have HS := Lib.hid hS
  have HM := Lib.hid (fun W => Mint_any a b t u role W)
  have HN := Lib.hid (fun W => refMint_any a b t u role W)
  have c1 := cutH_size s
  have HCs := Lib.hid (fun W => cut_any s hs W)
  have HX := Lib.hid (fun W hS => Check_any a0 b0 a b (cutH s) (by omega) now w.heap.size W hS)
  have HY := Lib.hid (fun W => refCheck_any a b (cutH s) (by omega) now W)
  have HBo := Lib.hid (fun W hS => Body_any a0 b0 (cutH s) (by omega) w.heap.size W hS)
  have HRo := Lib.hid (fun W => refBody17_any (cutH s) (by omega) W)
  have HA := Lib.hid (fun W => May_any ro op W)
  have HR := Lib.hid (fun W => refMay_any ro op W)
  clear hS c1
  generalize minB a b t (roleU role) u role = T at *
  generalize minE role = E at *
  generalize kT a b (cutH s) now = Tx at *
  generalize kR a b (cutH s) now = Rx at *
  generalize kU a b (cutH s) now = Vx at *
  generalize ckE a b (cutH s) now = Ex at *
  generalize bT (cutH s) = Ty at *
  generalize bR (cutH s) = Ry at *
  generalize bU (cutH s) = Vy at *
  generalize clB (cutH s) = Ey at *
  generalize mayB ro op = m at *
  generalize cutH s = C at *
  go_enter Tryd.func7, Tryd.ntmps7
  have hB : Below w.heap.size w w := Below.refl _ w
  go_wp2_with fail
  have hA : Below w.heap.size w ((w.alloc (.cells #[.int .u64 (U a), .int .u64 (U b)] 24)).alloc (.cells #[.int .u64 (U t), .int .i64 role, .int .u64 (U u)] 26)) := ((Below.refl _ w).alloc (Nat.le_refl _) _).alloc (by simp) _
  have hq0 := hB.size
  replace hB := hB.trans (hA.mono hB.size)
  have k_k : ((w.alloc (.cells #[.int .u64 (U a), .int .u64 (U b)] 24)).alloc (.cells #[.int .u64 (U t), .int .i64 role, .int .u64 (U u)] 26)).heap[w.heap.size]? = some (.cells #[.int .u64 (U a), .int .u64 (U b)] 24 (0, 0)) := old_at (new_at _ _ _ rfl)
  have k_c : ((w.alloc (.cells #[.int .u64 (U a), .int .u64 (U b)] 24)).alloc (.cells #[.int .u64 (U t), .int .i64 role, .int .u64 (U u)] 26)).heap[w.heap.size + 1]? = some (.cells #[.int .u64 (U t), .int .i64 role, .int .u64 (U u)] 26 (0, 0)) := new_at _ _ _ (by simp)
  obtain ⟨b_c, hb1⟩ : ∃ b, w.heap.size + 1 = b := ⟨_, rfl⟩
  have q_c : w.heap.size ≤ b_c := by omega
  rw [hb1] at k_c ⊢
  obtain ⟨b_k, hb0⟩ : ∃ b, w.heap.size = b := ⟨_, rfl⟩
  have q_k : w.heap.size ≤ b_k := by omega
  rw [hb0] at k_k ⊢
  have lt_k_c : b_k < b_c := by omega
  clear hA hq0 hb0 hb1
  generalize ((w.alloc (.cells #[.int .u64 (U a), .int .u64 (U b)] 24)).alloc (.cells #[.int .u64 (U t), .int .i64 role, .int .u64 (U u)] 26)) = u1 at *
  refine (shown_any a0 b0 w.heap.size _ (HS.out.later hB)).mono ?_
  rintro e u2 ⟨rfl, hC⟩
  replace k_k := keep k_k hC
  replace k_c := keep k_c hC
  replace hB := hB.trans (hC.mono hB.size)
  clear hC
  have x_k_0 := cell_at k_k 0
  have x_k_1 := cell_at k_k 1
  have x_c_0 := cell_at k_c 0
  have x_c_1 := cell_at k_c 1
  have x_c_2 := cell_at k_c 2
  go_wp2_with fail
  clear x_k_0 x_k_1 x_c_0 x_c_1 x_c_2
  refine (HM.out _).mono ?_
  rintro e u3 ⟨rfl, hC⟩
  replace k_k := keep k_k hC
  replace k_c := keep k_c hC
  replace hB := hB.trans (hC.mono hB.size)
  clear hC
  have x_k_0 := cell_at k_k 0
  have x_k_1 := cell_at k_k 1
  have x_c_0 := cell_at k_c 0
  have x_c_1 := cell_at k_c 1
  have x_c_2 := cell_at k_c 2
  go_wp2_with fail
  clear x_k_0 x_k_1 x_c_0 x_c_1 x_c_2
  refine (HN.out _).mono ?_
  rintro e u4 ⟨rfl, hC⟩
  replace k_k := keep k_k hC
  replace k_c := keep k_c hC
  replace hB := hB.trans (hC.mono hB.size)
  clear hC
  go_wp2_with fail
  have x_0 := cell_at k_k 0
  have x_1 := cell_at k_k 1
  have hch : ∀ W : World, W.cell? ⟨b_k, 0, none⟩ = some (.int .u64 (U a)) ∧ W.cell? ⟨b_k, 1, none⟩ = some (.int .u64 (U b)) → Sent a0 b0 w.heap.size W → Calls Tryd.prog 11 #[.agg #[.int .u64 (U a), .int .u64 (U b)], .string C, .int .u64 (U now)] W fun e W' => e = .returned (.tuple #[.agg #[.int .u64 (U Tx), .int .i64 (U Rx), .int .u64 (U Vx)], .int .i64 Ex]) ∧ Below W.heap.size W W' ∧ W'.cell? ⟨b_k, 0, none⟩ = some (.int .u64 (U a)) ∧ W'.cell? ⟨b_k, 1, none⟩ = some (.int .u64 (U b)) := by
    rintro W ⟨k0, k1⟩ hS
    refine (HX.out W hS).mono ?_
    rintro e W' ⟨he, hb⟩
    have hl : b_k < W.heap.size := World.block_lt_of_cell? W ⟨b_k, 0, none⟩ k0
    exact ⟨he, hb, (hb.cell hl).trans k0, (hb.cell hl).trans k1⟩
  have Hch := Lib.hid hch
  clear hch
  have HS1 := Lib.hid (HS.out.later (hB.trans (((Below.refl u4.heap.size u4).drew).mono hB.size)))
  have HS2 := Lib.hid (HS.out.later (hB.trans ((((Below.refl u4.heap.size u4).alloc (Nat.le_refl _) (.cells #[.int .u64 0, .int .i64 0, .int .u64 0] 26)).drew).mono hB.size)))
  have hne1 := World.new_ne u4 _ x_0
  refine wp_join_f ?f_d (fun B W => Below u4.heap.size u4 W ∧ W.heap[B]? = some (.cells #[.int .u64 (U Tx), .int .i64 (U Rx), .int .u64 (U Vx)] 26 (0, 0))) ?h_d ?e_d
  case h_d =>
    go_region_held3 (fun W => W.cell? ⟨b_k, 0, none⟩ = some (.int .u64 (U a)) ∧ W.cell? ⟨b_k, 1, none⟩ = some (.int .u64 (U b))) (go_keep) (first
      | (go_at_call 14; refine (HCs.out _).mono ?_; rintro e W ⟨rfl, rfl⟩)
      | (go_at_call 11; refine (Hch.out _ ?_ ?_).mono ?_; assumption; (first | exact HS1.out | exact HS2.out); rintro e W ⟨rfl, hBC, k0, k1⟩; have hne := World.new_ne W _ k0; try (have z := (hBC.block u4.heap.size (by simp)).trans (new_at u4 _ _ rfl); have z0 := cell_at z 0; have z1 := cell_at z 1; have z2 := cell_at z 2; have y0 := free_at z 0; have y1 := free_at z 1; have y2 := free_at z 2; clear z)))
    · refine ⟨rfl, W.heap.size, ?_, ?_, ?_⟩
      · generalize W.heap.size = B
        rfl
      · exact ((Below.refl _ u4).drew.trans (hBC.mono (Nat.le_refl _))).alloc hBC.size _
      · exact new_at _ _ _ rfl
    all_goals (refine ⟨rfl, u4.heap.size, rfl, (((((Below.refl _ u4).alloc (Nat.le_refl _) _).drew.trans (hBC.mono (by simp))).setCell (Nat.le_refl _) _).setCell (Nat.le_refl _) _).setCell (Nat.le_refl _) _, ((Put.refl ((hBC.block u4.heap.size (by simp)).trans (new_at u4 _ _ rfl))).set 0 _ |>.set 1 _ |>.set 2 _).get (by have := hBC.size; simp at this; omega)⟩)
  case e_d =>
    rintro b_d u5 ⟨hC, k_d⟩
    clear x_0 x_1 hne1 Hch HS1 HS2
    replace k_k := keep k_k hC
    replace k_c := keep k_c hC
    replace hB := hB.trans (hC.mono hB.size)
    clear hC
    clear u4
    go_wp2_with fail
    have x_0 := cell_at k_k 0
    have x_1 := cell_at k_k 1
    have hch : ∀ W : World, W.cell? ⟨b_k, 0, none⟩ = some (.int .u64 (U a)) ∧ W.cell? ⟨b_k, 1, none⟩ = some (.int .u64 (U b)) → Calls Tryd.prog 15 #[.agg #[.int .u64 (U a), .int .u64 (U b)], .string C, .int .u64 (U now)] W fun e W' => e = .returned (.tuple #[.agg #[.int .u64 (U Tx), .int .i64 (U Rx), .int .u64 (U Vx)], .int .i64 Ex]) ∧ Below W.heap.size W W' ∧ W'.cell? ⟨b_k, 0, none⟩ = some (.int .u64 (U a)) ∧ W'.cell? ⟨b_k, 1, none⟩ = some (.int .u64 (U b)) := by
      rintro W ⟨k0, k1⟩
      refine (HY.out W).mono ?_
      rintro e W' ⟨he, hb⟩
      have hl : b_k < W.heap.size := World.block_lt_of_cell? W ⟨b_k, 0, none⟩ k0
      exact ⟨he, hb, (hb.cell hl).trans k0, (hb.cell hl).trans k1⟩
    have Hch := Lib.hid hch
    clear hch
    have hne1 := World.new_ne u5 _ x_0
    refine wp_join_f ?f_h (fun B W => Below u5.heap.size u5 W ∧ W.heap[B]? = some (.cells #[.int .u64 (U Tx), .int .i64 (U Rx), .int .u64 (U Vx)] 26 (0, 0))) ?h_h ?e_h
    case h_h =>
      go_region_held3 (fun W => W.cell? ⟨b_k, 0, none⟩ = some (.int .u64 (U a)) ∧ W.cell? ⟨b_k, 1, none⟩ = some (.int .u64 (U b))) (go_keep) (first
        | (go_at_call 14; refine (HCs.out _).mono ?_; rintro e W ⟨rfl, rfl⟩)
        | (go_at_call 15; refine (Hch.out _ ?_).mono ?_; assumption; rintro e W ⟨rfl, hBC, k0, k1⟩; have hne := World.new_ne W _ k0; try (have z := (hBC.block u5.heap.size (by simp)).trans (new_at u5 _ _ rfl); have z0 := cell_at z 0; have z1 := cell_at z 1; have z2 := cell_at z 2; have y0 := free_at z 0; have y1 := free_at z 1; have y2 := free_at z 2; clear z)))
      · refine ⟨rfl, W.heap.size, ?_, ?_, ?_⟩
        · generalize W.heap.size = B
          rfl
        · exact ((Below.refl _ u5).drew.trans (hBC.mono (Nat.le_refl _))).alloc hBC.size _
        · exact new_at _ _ _ rfl
      all_goals (refine ⟨rfl, u5.heap.size, rfl, (((((Below.refl _ u5).alloc (Nat.le_refl _) _).drew.trans (hBC.mono (by simp))).setCell (Nat.le_refl _) _).setCell (Nat.le_refl _) _).setCell (Nat.le_refl _) _, ((Put.refl ((hBC.block u5.heap.size (by simp)).trans (new_at u5 _ _ rfl))).set 0 _ |>.set 1 _ |>.set 2 _).get (by have := hBC.size; simp at this; omega)⟩)
    case e_h =>
      rintro b_h u6 ⟨hC, k_h⟩
      clear x_0 x_1 hne1 Hch
      replace k_k := keep k_k hC
      replace k_c := keep k_c hC
      replace k_d := keep k_d hC
      replace hB := hB.trans (hC.mono hB.size)
      clear hC
      clear u5
      go_wp2_with fail
      refine (HCs.out _).mono ?_
      rintro e v ⟨rfl, rfl⟩
      go_wp2_with fail
      refine (HBo.out _ (HS.out.later hB)).mono ?_
      rintro e u7 ⟨rfl, hC⟩
      replace k_k := keep k_k hC
      replace k_c := keep k_c hC
      replace k_d := keep k_d hC
      replace k_h := keep k_h hC
      replace hB := hB.trans (hC.mono hB.size)
      clear hC
      go_wp2_with fail
      have hA : Below u7.heap.size u7 (u7.alloc (.cells #[.int .u64 (U Ty), .int .i64 (U Ry), .int .u64 (U Vy)] 26)) := (Below.refl _ u7).alloc (Nat.le_refl _) _
      replace k_k := keep k_k hA
      replace k_c := keep k_c hA
      replace k_d := keep k_d hA
      replace k_h := keep k_h hA
      replace hB := hB.trans (hA.mono hB.size)
      have k_j := new_at u7 (.cells #[.int .u64 (U Ty), .int .i64 (U Ry), .int .u64 (U Vy)] 26) _ rfl
      obtain ⟨b_j, hb⟩ : ∃ b, u7.heap.size = b := ⟨_, rfl⟩
      rw [hb] at k_j ⊢
      clear hA hb
      generalize u7.alloc (.cells #[.int .u64 (U Ty), .int .i64 (U Ry), .int .u64 (U Vy)] 26) = u8 at *
      clear u7
      refine (HCs.out _).mono ?_
      rintro e v ⟨rfl, rfl⟩
      go_wp2_with fail
      refine (HRo.out _).mono ?_
      rintro e u9 ⟨rfl, hC⟩
      replace k_k := keep k_k hC
      replace k_c := keep k_c hC
      replace k_d := keep k_d hC
      replace k_h := keep k_h hC
      replace k_j := keep k_j hC
      replace hB := hB.trans (hC.mono hB.size)
      clear hC
      have x_d_0 := old_cell (cell_at k_d 0)
      have x_d_1 := old_cell (cell_at k_d 1)
      have x_d_2 := old_cell (cell_at k_d 2)
      have x_h_0 := old_cell (cell_at k_h 0)
      have x_h_1 := old_cell (cell_at k_h 1)
      have x_h_2 := old_cell (cell_at k_h 2)
      have x_j_0 := old_cell (cell_at k_j 0)
      have x_j_1 := old_cell (cell_at k_j 1)
      have x_j_2 := old_cell (cell_at k_j 2)
      go_wp2_with fail
      clear x_d_0 x_d_1 x_d_2 x_h_0 x_h_1 x_h_2 x_j_0 x_j_1 x_j_2
      have hA : Below u9.heap.size u9 (u9.alloc (.cells #[.int .u64 (U Ty), .int .i64 (U Ry), .int .u64 (U Vy)] 26)) := (Below.refl _ u9).alloc (Nat.le_refl _) _
      replace k_k := keep k_k hA
      replace k_c := keep k_c hA
      replace k_d := keep k_d hA
      replace k_h := keep k_h hA
      replace k_j := keep k_j hA
      replace hB := hB.trans (hA.mono hB.size)
      have k_l := new_at u9 (.cells #[.int .u64 (U Ty), .int .i64 (U Ry), .int .u64 (U Vy)] 26) _ rfl
      obtain ⟨b_l, hb⟩ : ∃ b, u9.heap.size = b := ⟨_, rfl⟩
      rw [hb] at k_l ⊢
      clear hA hb
      generalize u9.alloc (.cells #[.int .u64 (U Ty), .int .i64 (U Ry), .int .u64 (U Vy)] 26) = u10 at *
      clear u9
      refine (HA.out _).mono ?_
      rintro e u11 ⟨rfl, hC⟩
      replace k_k := keep k_k hC
      replace k_c := keep k_c hC
      replace k_d := keep k_d hC
      replace k_h := keep k_h hC
      replace k_j := keep k_j hC
      replace k_l := keep k_l hC
      replace hB := hB.trans (hC.mono hB.size)
      clear hC
      go_wp2_with fail
      refine (HR.out _).mono ?_
      rintro e v ⟨rfl, rfl⟩
      go_wp2_with fail
      go_ret
      exact ⟨rfl, hB⟩
end Go.Proofs.YtpekedldoplmmaaDoor
