/-
  The walk of TokenFinds. Printed by gen_tokl.py.
-/
import Derived.Test.YtpekedldoplmmaaDoorTokM
import Derived.Test.YtpekedldoplmmaaDoorTail
import Derived.Deep.RegionHeld3
import Derived.BigRegion
namespace Go.Proofs.YtpekedldoplmmaaDoor
open Go.RowKit Go.Shelf

/-- What stands behind a piece of code that lays a block wherever it may is asked once, of all the ways through it. -/
theorem wp_join_f {P : Program} {c : Code} {Q : Exit → Act → World → Prop} {a : Act} {w : World} (f : Nat → Act) (Φ : Nat → World → Prop) (h1 : c.wp P (fun e a' w' => e = .normal ∧ ∃ B, a' = f B ∧ Φ B w') a w) (h2 : ∀ B w', Φ B w' → Q .normal (f B) w') : c.wp P Q a w :=
  wp_mono h1 fun e a' w' ⟨he, B, ha, h⟩ => by subst he ha; exact h2 B w' h
set_option maxRecDepth 100000 in
set_option maxHeartbeats 4000000 in
theorem walk_TokenFinds (a0 b0 : Addr) (a b t : BitVec 64) (role : Int) (u : BitVec 64) (change now : BitVec 64) (w : World) (hS : Sent a0 b0 w.heap.size w) :
    Calls Tryd.prog 3 #[.agg #[.int .u64 (U a), .int .u64 (U b)], .agg #[.int .u64 (U t), .int .i64 role, .int .u64 (U u)], .int .u64 (U change), .int .u64 (U now)] w fun e w' => e = .returned (.bool true) ∧ Below w.heap.size w w' := by
  have HS := Lib.hid hS
  have HM := Lib.hid (fun W => Mint_any a b t u role W)
  clear hS
  rcases minE_cases role with ⟨r1, r3, e⟩ | ⟨hn, e⟩
  · rw [e, minB_ok a b t u r1 r3] at HM
    by_cases hch : change = 0#64
    · have hz : U change = 0 := by rw [hch]; exact U_0
      clear e r1 r3 hch
      generalize tokT a b t (roleU role) u = T at *
      go_enter Tryd.func3, Tryd.ntmps3
      have hB : Below w.heap.size w w := Below.refl _ w
      go_wp2_with fail
      have hA : Below w.heap.size w ((w.alloc (.cells #[.int .u64 (U a), .int .u64 (U b)] 24)).alloc (.cells #[.int .u64 (U t), .int .i64 role, .int .u64 (U u)] 26)) := ((Below.refl _ w).alloc (Nat.le_refl _) _).alloc (by simp) _
      have hq0 := hB.size
      replace hB := hB.trans (hA.mono hB.size)
      have k_k : ((w.alloc (.cells #[.int .u64 (U a), .int .u64 (U b)] 24)).alloc (.cells #[.int .u64 (U t), .int .i64 role, .int .u64 (U u)] 26)).heap[w.heap.size]? = some (.cells #[.int .u64 (U a), .int .u64 (U b)] 24 (0, 0)) := old_at (new_at _ _ _ rfl)
      have k_c : ((w.alloc (.cells #[.int .u64 (U a), .int .u64 (U b)] 24)).alloc (.cells #[.int .u64 (U t), .int .i64 role, .int .u64 (U u)] 26)).heap[w.heap.size + 1]? = some (.cells #[.int .u64 (U t), .int .i64 role, .int .u64 (U u)] 26 (0, 0)) := new_at _ _ _ (by simp)
      obtain ⟨b_c, hb1⟩ : ∃ b, w.heap.size + 1 = b := ⟨_, rfl⟩
      have q_c : w.heap.size ≤ b_c := by omega
      rw [hb1] at k_c ⊢
      obtain ⟨b_k, hb0⟩ : ∃ b, w.heap.size = b := ⟨_, rfl⟩
      have q_k : w.heap.size ≤ b_k := by omega
      rw [hb0] at k_k ⊢
      have lt_k_c : b_k < b_c := by omega
      clear hA hq0 hb0 hb1
      generalize ((w.alloc (.cells #[.int .u64 (U a), .int .u64 (U b)] 24)).alloc (.cells #[.int .u64 (U t), .int .i64 role, .int .u64 (U u)] 26)) = u1 at *
      refine (shown_any a0 b0 w.heap.size _ (HS.out.later hB)).mono ?_
      rintro e u2 ⟨rfl, hC⟩
      replace k_k := keep k_k hC
      replace k_c := keep k_c hC
      replace hB := hB.trans (hC.mono hB.size)
      clear hC
      have x_k_0 := cell_at k_k 0
      have x_k_1 := cell_at k_k 1
      have x_c_0 := cell_at k_c 0
      have x_c_1 := cell_at k_c 1
      have x_c_2 := cell_at k_c 2
      go_wp2_with fail
      clear x_k_0 x_k_1 x_c_0 x_c_1 x_c_2
      refine (HM.out _).mono ?_
      rintro e u3 ⟨rfl, hC⟩
      replace k_k := keep k_k hC
      replace k_c := keep k_c hC
      replace hB := hB.trans (hC.mono hB.size)
      clear hC
      go_wp2_with fail
      go_ret
      exact ⟨rfl, hB⟩
    · have hz : ¬ (U change = 0) := fun h => hch (U_inj (h.trans U_0.symm))
      have hsz := tokT_size a b t (roleU role) u
      have hT1 := turned_bad a b t (roleU role) u change hch now
      have hT2 := more_bad a b t (roleU role) u now 120
      have hT3 := less_bad a b t (roleU role) u now
      clear e r1 r3 hch
      generalize tokT a b t (roleU role) u = T at *
      go_enter Tryd.func3, Tryd.ntmps3
      have hB : Below w.heap.size w w := Below.refl _ w
      go_wp2_with fail
      have hA : Below w.heap.size w ((w.alloc (.cells #[.int .u64 (U a), .int .u64 (U b)] 24)).alloc (.cells #[.int .u64 (U t), .int .i64 role, .int .u64 (U u)] 26)) := ((Below.refl _ w).alloc (Nat.le_refl _) _).alloc (by simp) _
      have hq0 := hB.size
      replace hB := hB.trans (hA.mono hB.size)
      have k_k : ((w.alloc (.cells #[.int .u64 (U a), .int .u64 (U b)] 24)).alloc (.cells #[.int .u64 (U t), .int .i64 role, .int .u64 (U u)] 26)).heap[w.heap.size]? = some (.cells #[.int .u64 (U a), .int .u64 (U b)] 24 (0, 0)) := old_at (new_at _ _ _ rfl)
      have k_c : ((w.alloc (.cells #[.int .u64 (U a), .int .u64 (U b)] 24)).alloc (.cells #[.int .u64 (U t), .int .i64 role, .int .u64 (U u)] 26)).heap[w.heap.size + 1]? = some (.cells #[.int .u64 (U t), .int .i64 role, .int .u64 (U u)] 26 (0, 0)) := new_at _ _ _ (by simp)
      obtain ⟨b_c, hb1⟩ : ∃ b, w.heap.size + 1 = b := ⟨_, rfl⟩
      have q_c : w.heap.size ≤ b_c := by omega
      rw [hb1] at k_c ⊢
      obtain ⟨b_k, hb0⟩ : ∃ b, w.heap.size = b := ⟨_, rfl⟩
      have q_k : w.heap.size ≤ b_k := by omega
      rw [hb0] at k_k ⊢
      have lt_k_c : b_k < b_c := by omega
      clear hA hq0 hb0 hb1
      generalize ((w.alloc (.cells #[.int .u64 (U a), .int .u64 (U b)] 24)).alloc (.cells #[.int .u64 (U t), .int .i64 role, .int .u64 (U u)] 26)) = u1 at *
      refine (shown_any a0 b0 w.heap.size _ (HS.out.later hB)).mono ?_
      rintro e u2 ⟨rfl, hC⟩
      replace k_k := keep k_k hC
      replace k_c := keep k_c hC
      replace hB := hB.trans (hC.mono hB.size)
      clear hC
      have x_k_0 := cell_at k_k 0
      have x_k_1 := cell_at k_k 1
      have x_c_0 := cell_at k_c 0
      have x_c_1 := cell_at k_c 1
      have x_c_2 := cell_at k_c 2
      go_wp2_with fail
      clear x_k_0 x_k_1 x_c_0 x_c_1 x_c_2
      refine (HM.out _).mono ?_
      rintro e u3 ⟨rfl, hC⟩
      replace k_k := keep k_k hC
      replace k_c := keep k_c hC
      replace hB := hB.trans (hC.mono hB.size)
      clear hC
      obtain ⟨N, hN⟩ : ∃ N, T.size = N := ⟨_, rfl⟩
      obtain ⟨W, cap, hr, hC, hCB, hcap⟩ := conv_bytes T u3
      obtain ⟨b_g, hg⟩ : ∃ k, u3.heap.size = k := ⟨_, rfl⟩
      rw [hN] at hr hsz hcap
      rw [hg] at hr hCB
      have q_g : w.heap.size ≤ b_g := by have := hB.size; omega
      have n9 : ¬ (N : Int) < 9 := by omega
      have HCB := Lib.hid hCB
      have HC := Lib.hid hC
      have HN := Lib.hid hN
      clear hCB hC
      rw [← hN] at hr n9 hsz hcap
      clear hN
      have hkg : b_k < b_g := by rw [← hg]; exact (Array.getElem?_eq_some_iff.1 k_k).1
      have HK := Lib.hid (keep k_k HC.out)
      have HBW := Lib.hid (hB.trans (HC.out.mono hB.size))
      have hWg : b_g < W.heap.size := HCB.out.1
      rw [hg] at HC
      clear hB k_k k_c
      go_wp2_with fail
      clear hz n9
      generalize (U change == 0) = qz
      go_loopw [13] (fun iv wr => ∃ j : Nat, j ≤ 8 ∧ iv = .int .i64 j ∧ Below b_g W wr ∧ CB wr b_g (turn T.data.toList change j)) (fun iv _ => 8 - (intOf iv).toNat)
      case atStart => exact ⟨0, by omega, rfl, Below.refl _ _, HCB.out⟩
      case round =>
        obtain ⟨j, hj, rfl, hBj, hcb⟩ := hrel
        have hlen := turn_len T.data.toList change j
        rw [← size_list] at hlen
        by_cases hjn : j < 8
        · have hji : (j : Int) < 8 := by omega
          obtain ⟨p, hp⟩ : ∃ p : Nat, T.size - 1 - j = p := ⟨_, rfl⟩
          have hpi : (T.size : Int) - 1 - (j : Int) = (p : Int) := by omega
          obtain ⟨wp1, wp2, wp3, wp4⟩ := wrap_idx T.size j p hjn hsz.1 hsz.2 hp
          have hpl : p < (turn T.data.toList change j).length := by omega
          have hpn : (p : Int) < (T.size : Int) := by omega
          have hp0 : (0 : Int) ≤ (p : Int) := by omega
          have cx := hcb.2.1 p hpl
          have fx := hcb.2.2 p hpl
          obtain ⟨x, hx⟩ : ∃ x, (turn T.data.toList change j)[p] = x := ⟨_, rfl⟩
          rw [hx] at cx
          have HNEW : Hid (turn T.data.toList change (j + 1) = (turn T.data.toList change j).set p (x ^^^ byC change j)) := Lib.hid (by
            rw [turn, ← size_list, hp, List.getD_eq_getElem?_getD, List.getElem?_eq_getElem hpl, hx]
            rfl)
          have HPL := Lib.hid hpl
          have hxv := xor_val x change j
          have HCBj := Lib.hid hcb
          have HBj := Lib.hid hBj
          clear hcb hBj hlen hx hpl hp
          go_wp2_with fail
          refine wp_region_still_tail 21 (by kernel_rfl) (by kernel_rfl) ?_
          simp only [List.take_succ_cons, List.take_zero, List.drop_succ_cons, List.drop_zero]
          repeat still_step
          try refine wpStill_nil ?_
          change wpList _ _ _ _ _ wr.drew
          go_wp2
          go_roundw
          case rel =>
            refine ⟨j + 1, by omega, by go_num, HBj.out.drew.setCell (Nat.le_refl _) _, ?_⟩
            rw [HNEW.out]
            have h9 := CB.set HCBj.out p HPL.out (x ^^^ byC change j)
            rw [UInt8.toNat_xor] at h9
            exact h9
          case measure => simp [intOf]; omega
        · obtain rfl : j = 8 := by omega
          have h8 : ¬ ((8 : Nat) : Int) < 8 := by omega
          have k_k := (hBj.block b_k hkg).trans HK.out
          have hB := HBW.out.trans (hBj.mono q_g)
          have htx := hcb.text T.size cap hlen
          have HX1 := Lib.hid (fun W hS => by
            have h := Check_any a0 b0 a b ⟨(turn T.data.toList change 8).toArray⟩ (by rw [size_list]; show (turn T.data.toList change 8).length ≤ _; omega) now w.heap.size W hS
            obtain ⟨x1, x2, x3⟩ := ck_bad (a := a) (b := b) (s := ⟨(turn T.data.toList change 8).toArray⟩) (now := now) (by omega)
            rw [hT1, x1, x2, x3, U_0] at h
            exact h)
          have HX2 := Lib.hid (fun W hS => by
            have h := Check_any a0 b0 a b (T ++ ⟨#[120]⟩) (by rw [ByteArray.size_append]; show T.size + 1 ≤ _; omega) now w.heap.size W hS
            obtain ⟨x1, x2, x3⟩ := ck_bad (a := a) (b := b) (s := T ++ ⟨#[120]⟩) (now := now) (by omega)
            rw [hT2, x1, x2, x3, U_0] at h
            exact h)
          have HX3 := Lib.hid (fun W hS => by
            have h := Check_any a0 b0 a b (T.extract 0 (T.size - 1)) (by rw [ByteArray.size_extract]; omega) now w.heap.size W hS
            obtain ⟨x1, x2, x3⟩ := ck_bad (a := a) (b := b) (s := T.extract 0 (T.size - 1)) (now := now) (by omega)
            rw [hT3, x1, x2, x3, U_0] at h
            exact h)
          have hz1 : (T ++ (⟨#[120]⟩ : ByteArray)).size = T.size + 1 := by rw [ByteArray.size_append]; rfl
          have t1 : (1 : Int) ≤ (T.size : Int) := by omega
          have t2 : (T.size : Int) ≤ 35 := by omega
          have t0 : (0 : Int) ≤ (T.size : Int) - 1 := by omega
          have t4 : (T.size : Int) - 1 ≤ (T.size : Int) := by omega
          have t3 : ((T.size : Int) - 1).toNat = T.size - 1 := by omega
          obtain ⟨wp1, -, -, -⟩ := wrap_idx T.size 0 (T.size - 1) (by omega) hsz.1 hsz.2 (by omega)
          clear hcb hBj hlen hT1 hT2 hT3 HBW HK hr hWg hcap HCB HC HM
          generalize turn T.data.toList change 8 = L8 at *
          have x_k_0 := cell_at k_k 0
          have x_k_1 := cell_at k_k 1
          go_wp2_with fail
          clear x_k_0 x_k_1
          refine (HX1.out _ (HS.out.later hB)).mono ?_
          rintro e u4 ⟨rfl, hC⟩
          replace k_k := keep k_k hC
          replace hB := hB.trans (hC.mono hB.size)
          clear hC
          have x_k_0 := old_cell (cell_at k_k 0)
          have x_k_1 := old_cell (cell_at k_k 1)
          go_wp2_with fail
          clear x_k_0 x_k_1
          have hA : Below u4.heap.size u4 (u4.alloc (.cells #[.int .u64 0, .int .i64 0, .int .u64 0] 26)) := (Below.refl _ u4).alloc (Nat.le_refl _) _
          replace k_k := keep k_k hA
          replace hB := hB.trans (hA.mono hB.size)
          have k_d := new_at u4 (.cells #[.int .u64 0, .int .i64 0, .int .u64 0] 26) _ rfl
          obtain ⟨b_d, hb⟩ : ∃ b, u4.heap.size = b := ⟨_, rfl⟩
          rw [hb] at k_d ⊢
          clear hA hb
          generalize u4.alloc (.cells #[.int .u64 0, .int .i64 0, .int .u64 0] 26) = u5 at *
          clear u4
          refine (HX2.out _ (HS.out.later hB)).mono ?_
          rintro e u6 ⟨rfl, hC⟩
          replace k_k := keep k_k hC
          replace k_d := keep k_d hC
          replace hB := hB.trans (hC.mono hB.size)
          clear hC
          go_wp2_with fail
          have hA : Below u6.heap.size u6 (u6.alloc (.cells #[.int .u64 0, .int .i64 0, .int .u64 0] 26)) := (Below.refl _ u6).alloc (Nat.le_refl _) _
          replace k_k := keep k_k hA
          replace k_d := keep k_d hA
          replace hB := hB.trans (hA.mono hB.size)
          have k_e := new_at u6 (.cells #[.int .u64 0, .int .i64 0, .int .u64 0] 26) _ rfl
          obtain ⟨b_e, hb⟩ : ∃ b, u6.heap.size = b := ⟨_, rfl⟩
          rw [hb] at k_e ⊢
          clear hA hb
          generalize u6.alloc (.cells #[.int .u64 0, .int .i64 0, .int .u64 0] 26) = u7 at *
          clear u6
          have x_0 := cell_at k_k 0
          have x_1 := cell_at k_k 1
          have hch : ∀ W : World, W.cell? ⟨b_k, 0, none⟩ = some (.int .u64 (U a)) ∧ W.cell? ⟨b_k, 1, none⟩ = some (.int .u64 (U b)) → Sent a0 b0 w.heap.size W → Calls Tryd.prog 11 #[.agg #[.int .u64 (U a), .int .u64 (U b)], .string (T.extract 0 (T.size - 1)), .int .u64 (U now)] W fun e W' => e = .returned (.tuple #[.agg #[.int .u64 0, .int .i64 0, .int .u64 0], .int .i64 170]) ∧ Below W.heap.size W W' ∧ W'.cell? ⟨b_k, 0, none⟩ = some (.int .u64 (U a)) ∧ W'.cell? ⟨b_k, 1, none⟩ = some (.int .u64 (U b)) := by
            rintro W ⟨k0, k1⟩ hS
            refine (HX3.out W hS).mono ?_
            rintro e W' ⟨he, hb⟩
            have hl : b_k < W.heap.size := World.block_lt_of_cell? W ⟨b_k, 0, none⟩ k0
            exact ⟨he, hb, (hb.cell hl).trans k0, (hb.cell hl).trans k1⟩
          have Hch := Lib.hid hch
          clear hch
          have HS1 := Lib.hid (HS.out.later (hB.trans (((Below.refl u7.heap.size u7).drew).mono hB.size)))
          have HS2 := Lib.hid (HS.out.later (hB.trans ((((Below.refl u7.heap.size u7).alloc (Nat.le_refl _) (.cells #[.int .u64 0, .int .i64 0, .int .u64 0] 26)).drew).mono hB.size)))
          have hne1 := World.new_ne u7 _ x_0
          refine wp_join_f ?f_x1 (fun B W => Below u7.heap.size u7 W ∧ W.heap[B]? = some (.cells #[.int .u64 0, .int .i64 0, .int .u64 0] 26 (0, 0))) ?h_x1 ?e_x1
          case h_x1 =>
            go_region_held3 (fun W => W.cell? ⟨b_k, 0, none⟩ = some (.int .u64 (U a)) ∧ W.cell? ⟨b_k, 1, none⟩ = some (.int .u64 (U b))) (go_keep) (first
              | (go_at_call 14; refine (HCs.out _).mono ?_; rintro e W ⟨rfl, rfl⟩)
              | (go_at_call 11; refine (Hch.out _ ?_ ?_).mono ?_; assumption; (first | exact HS1.out | exact HS2.out); rintro e W ⟨rfl, hBC, k0, k1⟩; have hne := World.new_ne W _ k0; try (have z := (hBC.block u7.heap.size (by simp)).trans (new_at u7 _ _ rfl); have z0 := cell_at z 0; have z1 := cell_at z 1; have z2 := cell_at z 2; have y0 := free_at z 0; have y1 := free_at z 1; have y2 := free_at z 2; clear z)))
            · refine ⟨rfl, W.heap.size, ?_, ?_, ?_⟩
              · generalize W.heap.size = B
                rfl
              · exact ((Below.refl _ u7).drew.trans (hBC.mono (Nat.le_refl _))).alloc hBC.size _
              · exact new_at _ _ _ rfl
            all_goals (refine ⟨rfl, u7.heap.size, rfl, (((((Below.refl _ u7).alloc (Nat.le_refl _) _).drew.trans (hBC.mono (by simp))).setCell (Nat.le_refl _) _).setCell (Nat.le_refl _) _).setCell (Nat.le_refl _) _, ((Put.refl ((hBC.block u7.heap.size (by simp)).trans (new_at u7 _ _ rfl))).set 0 _ |>.set 1 _ |>.set 2 _).get (by have := hBC.size; simp at this; omega)⟩)
          case e_x1 =>
            rintro b_x u8 ⟨hC, k_x⟩
            clear x_0 x_1 hne1 Hch HS1 HS2
            replace k_k := keep k_k hC
            replace k_d := keep k_d hC
            replace k_e := keep k_e hC
            replace hB := hB.trans (hC.mono hB.size)
            clear hC
            clear u7
            go_wp2_with fail
            go_ret
            exact ⟨rfl, hB⟩
  · rw [e] at HM
    clear e hn
    go_enter Tryd.func3, Tryd.ntmps3
    have hB : Below w.heap.size w w := Below.refl _ w
    go_wp2_with fail
    have hA : Below w.heap.size w ((w.alloc (.cells #[.int .u64 (U a), .int .u64 (U b)] 24)).alloc (.cells #[.int .u64 (U t), .int .i64 role, .int .u64 (U u)] 26)) := ((Below.refl _ w).alloc (Nat.le_refl _) _).alloc (by simp) _
    have hq0 := hB.size
    replace hB := hB.trans (hA.mono hB.size)
    have k_k : ((w.alloc (.cells #[.int .u64 (U a), .int .u64 (U b)] 24)).alloc (.cells #[.int .u64 (U t), .int .i64 role, .int .u64 (U u)] 26)).heap[w.heap.size]? = some (.cells #[.int .u64 (U a), .int .u64 (U b)] 24 (0, 0)) := old_at (new_at _ _ _ rfl)
    have k_c : ((w.alloc (.cells #[.int .u64 (U a), .int .u64 (U b)] 24)).alloc (.cells #[.int .u64 (U t), .int .i64 role, .int .u64 (U u)] 26)).heap[w.heap.size + 1]? = some (.cells #[.int .u64 (U t), .int .i64 role, .int .u64 (U u)] 26 (0, 0)) := new_at _ _ _ (by simp)
    obtain ⟨b_c, hb1⟩ : ∃ b, w.heap.size + 1 = b := ⟨_, rfl⟩
    have q_c : w.heap.size ≤ b_c := by omega
    rw [hb1] at k_c ⊢
    obtain ⟨b_k, hb0⟩ : ∃ b, w.heap.size = b := ⟨_, rfl⟩
    have q_k : w.heap.size ≤ b_k := by omega
    rw [hb0] at k_k ⊢
    have lt_k_c : b_k < b_c := by omega
    clear hA hq0 hb0 hb1
    generalize ((w.alloc (.cells #[.int .u64 (U a), .int .u64 (U b)] 24)).alloc (.cells #[.int .u64 (U t), .int .i64 role, .int .u64 (U u)] 26)) = u1 at *
    refine (shown_any a0 b0 w.heap.size _ (HS.out.later hB)).mono ?_
    rintro e u2 ⟨rfl, hC⟩
    replace k_k := keep k_k hC
    replace k_c := keep k_c hC
    replace hB := hB.trans (hC.mono hB.size)
    clear hC
    have x_k_0 := cell_at k_k 0
    have x_k_1 := cell_at k_k 1
    have x_c_0 := cell_at k_c 0
    have x_c_1 := cell_at k_c 1
    have x_c_2 := cell_at k_c 2
    go_wp2_with fail
    clear x_k_0 x_k_1 x_c_0 x_c_1 x_c_2
    refine (HM.out _).mono ?_
    rintro e u3 ⟨rfl, hC⟩
    replace k_k := keep k_k hC
    replace k_c := keep k_c hC
    replace hB := hB.trans (hC.mono hB.size)
    clear hC
    go_wp2_with fail
    go_ret
    exact ⟨rfl, hB⟩
end Go.Proofs.YtpekedldoplmmaaDoor
