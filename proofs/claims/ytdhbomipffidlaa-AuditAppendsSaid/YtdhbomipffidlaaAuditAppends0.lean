/-
  The walk of AuditAppends. Printed by gen_audl.py.
-/
import Derived.Test.YtdhbomipffidlaaAudS
namespace Go.Proofs.Ytdhbomipffidlaa
open Go.RowKit Go.Shelf
attribute [local go_sem] Oper.semAt_some calmOp calmUpon effOp effUpon

set_option maxRecDepth 100000 in
set_option maxHeartbeats 8000000 in
theorem walk_AuditAppends {w : World} (a b : BitVec 64) (p : BitVec 64) (A : Option Addr) (c : Nat) (l : LE) (hlc : l.length ≤ 9223372036854775807) (hz : ∀ j, j < l.length → (nthE l j).x.size ≤ 9223372036854775807) (hX : AtE w w.heap.size A l) (t : BitVec 64) (s : ByteArray) (hs : s.size ≤ 9223372036854775807) :
    Calls Try.prog 3 #[.agg #[.int .u64 (U a), .int .u64 (U b)], .agg #[.int .u64 (U p), .slice A l.length c], .int .u64 (U t), .string s] w fun e w' => e = .returned (.bool true) ∧ Below w.heap.size w w' := by
  have HF_l := Lib.hid (fun W h => Few_any p A c l l.length rfl hlc hz W h)
  have hsz_l := fewE_size l
  have hle_l := fewE_length l
  obtain ⟨L_l, hL_l⟩ : ∃ L, fewE l = L := ⟨_, rfl⟩
  rw [hL_l] at HF_l hsz_l hle_l
  obtain ⟨N_l, hN_l⟩ : ∃ N, L_l.length = N := ⟨_, rfl⟩
  rw [hN_l] at HF_l hsz_l hle_l
  have HN_l := Lib.hid hN_l
  have HS_l := Lib.hid (fun j hj => Nat.le_trans (hsz_l j hj) (show 210 ≤ 60000 by decide))
  obtain ⟨n0_l, hn0_l⟩ : ∃ n, l.length = n := ⟨_, rfl⟩
  rw [hn0_l] at HF_l ⊢
  clear hsz_l hL_l hN_l hn0_l hz
  have HCut := Lib.hid (fun W => cut_any s hs W)
  have hcs := cutE_size s
  obtain ⟨x, hx⟩ : ∃ x, cutE s = x := ⟨_, rfl⟩
  rw [hx] at HCut hcs
  clear hx
  have happ : ∃ p2 l2 k2, appL a b p L_l t x = ⟨p2, l2⟩ ∧ appC a b p L_l t x = k2 := ⟨_, _, _, rfl, rfl⟩
  obtain ⟨p2, l2, k2, ht2, hk2⟩ := happ
  obtain ⟨M2, hM2⟩ : ∃ M, l2.length = M := ⟨_, rfl⟩
  have HApp := Lib.hid (fun A c W hc hA => Append_n A c ht2 hk2 hM2 HN_l.out (by omega) hc HS_l.out (by omega) W hA)
  have HRApp := Lib.hid (fun A c W hA => refAppend_n A c ht2 hk2 hM2 HN_l.out (by omega) HS_l.out (by omega) W hA)
  have HR := Lib.hid (fun A c W hA => Right_any a b p A c L_l N_l HN_l.out (by omega) HS_l.out W hA)
  have HRR := Lib.hid (fun A c W hA => refRight_any a b p A c L_l N_l HN_l.out (by omega) HS_l.out W hA)
  have hM3 : M2 ≤ 65535 := by
    rw [← hM2]
    by_cases hok : appOk a b p L_l t x = true
    · have h2 := (app_right hok).1
      rw [ht2] at h2
      exact Nat.le_trans h2 (by decide)
    · have h2 := (app_none hok).1
      rw [ht2] at h2
      injection h2 with h2 h3
      rw [h3]
      exact Nat.zero_le _
  have HSame := Lib.hid (fun A A' c c' W hA hA' => by
    have h := refSame_any p2 p2 A A' c c' l2 l2 M2 M2 hM2 hM2 hM3 W hA hA'
    rw [decide_eq_true (rfl : p2 = p2), decide_eq_true (rfl : l2 = l2), Bool.and_true] at h
    exact h)
  have HX := Lib.hid hX
  obtain ⟨R, hR⟩ : ∃ R, rightE a b p L_l = R := ⟨_, rfl⟩
  rw [hR] at HR HRR
  clear hR ht2 hk2 hM2 hM3 hX
  go_enter Try.func3, Try.ntmps3
  have hB : Below w.heap.size w w := Below.refl _ w
  go_wp2_with fail
  have hA : Below w.heap.size w ((w.alloc (.cells #[.int .u64 (U a), .int .u64 (U b)] 24)).alloc (.cells #[.int .u64 (U p), .slice A n0_l c] 27)) := ((Below.refl _ w).alloc (Nat.le_refl _) _).alloc (by simp) _
  have hq0 := hB.size
  replace hB := hB.trans (hA.mono hB.size)
  have k_k : ((w.alloc (.cells #[.int .u64 (U a), .int .u64 (U b)] 24)).alloc (.cells #[.int .u64 (U p), .slice A n0_l c] 27)).heap[w.heap.size]? = some (.cells #[.int .u64 (U a), .int .u64 (U b)] 24 (0, 0)) := old_at (new_at _ _ _ rfl)
  have k_l : ((w.alloc (.cells #[.int .u64 (U a), .int .u64 (U b)] 24)).alloc (.cells #[.int .u64 (U p), .slice A n0_l c] 27)).heap[w.heap.size + 1]? = some (.cells #[.int .u64 (U p), .slice A n0_l c] 27 (0, 0)) := new_at _ _ _ (by simp)
  obtain ⟨b_l, hb1⟩ : ∃ b, w.heap.size + 1 = b := ⟨_, rfl⟩
  have q_l : w.heap.size ≤ b_l := by omega
  rw [hb1] at k_l ⊢
  obtain ⟨b_k, hb0⟩ : ∃ b, w.heap.size = b := ⟨_, rfl⟩
  have q_k : w.heap.size ≤ b_k := by omega
  rw [hb0] at k_k ⊢
  have lt_k_l : b_k < b_l := by omega
  clear hA hq0 hb0 hb1
  generalize ((w.alloc (.cells #[.int .u64 (U a), .int .u64 (U b)] 24)).alloc (.cells #[.int .u64 (U p), .slice A n0_l c] 27)) = u1 at *
  refine (shown_any _).mono ?_
  rintro e u2 ⟨rfl, hC⟩
  replace k_k := keep k_k hC
  replace k_l := keep k_l hC
  replace hB := hB.trans (hC.mono hB.size)
  clear hC
  have x_l_0 := cell_at k_l 0
  have x_l_1 := cell_at k_l 1
  go_wp2_with fail
  clear x_l_0 x_l_1
  refine (HF_l.out _ ((HX.out.below hB).mono hB.size)).mono ?_
  rintro e u3 ⟨hC, A_l, c_l, rfl, n_l, a_l⟩
  replace a_l := a_l.mono (show b_l + 1 ≤ _ from (Array.getElem?_eq_some_iff.1 k_l).1)
  replace k_k := keep k_k hC
  replace k_l := keep k_l hC
  replace hB := hB.trans (hC.mono hB.size)
  clear hC
  have x_l_0 := cell_at k_l 0
  have fr_0 := free_at k_l 0
  have x_l_1 := cell_at k_l 1
  have fr_1 := free_at k_l 1
  have hP : Put u3 ((u3.setCell ⟨b_l, 0, none⟩ (.int .u64 (U p))).setCell ⟨b_l, 1, none⟩ (.slice A_l N_l c_l)) b_l (.cells #[.int .u64 (U p), .slice A_l N_l c_l] 27 (0, 0)) := ((Put.refl k_l).set 0 (.int .u64 (U p))).set 1 (.slice A_l N_l c_l)
  have HP := Lib.hid hP
  clear hP
  go_wp2_with fail
  clear x_l_0 x_l_1 fr_0 fr_1
  have hP := HP.out
  replace hB := hB.trans (hP.below (by omega))
  replace k_k := (hP.other (by omega)).trans k_k
  replace a_l := a_l.put hP (by omega)
  replace k_l := hP.get (Array.getElem?_eq_some_iff.1 k_l).1
  clear hP HP
  generalize ((u3.setCell ⟨b_l, 0, none⟩ (.int .u64 (U p))).setCell ⟨b_l, 1, none⟩ (.slice A_l N_l c_l)) = u4 at *
  clear u3
  have l_k_0 : ∀ s : Later u4.heap.size u4, s.W.cell? ⟨b_k, 0, none⟩ = some _ := fun s => s.cell (cell_at k_k 0) (Array.getElem?_eq_some_iff.1 k_k).1
  have l_k_1 : ∀ s : Later u4.heap.size u4, s.W.cell? ⟨b_k, 1, none⟩ = some _ := fun s => s.cell (cell_at k_k 1) (Array.getElem?_eq_some_iff.1 k_k).1
  have l_l_0 : ∀ s : Later u4.heap.size u4, s.W.cell? ⟨b_l, 0, none⟩ = some _ := fun s => s.cell (cell_at k_l 0) (Array.getElem?_eq_some_iff.1 k_l).1
  have l_l_1 : ∀ s : Later u4.heap.size u4, s.W.cell? ⟨b_l, 1, none⟩ = some _ := fun s => s.cell (cell_at k_l 1) (Array.getElem?_eq_some_iff.1 k_l).1
  refine wp_join_f3 ?f_m (fun (B : Nat) (A6 : Option Addr) (c6 : Nat) W => Below u4.heap.size u4 W ∧ u4.heap.size ≤ B ∧ W.heap[B]? = some (.cells #[.int .u64 (U p2), .slice A6 M2 c6] 27 (0, 0)) ∧ Hid (M2 ≤ c6 ∧ LieE W u4.heap.size A6 l2)) ?h_m ?k_m
  case h_m =>
    refine region_plan_plain (C := fun W' => ∃ s : Later u4.heap.size u4, W' = s.W) [0, 0, 3, 3, 1, 1, 3, 3, 3, 1, 2, 3] (.calm 0 (.calm 1 (.calm 2 (.calm 3 (.fork 4 (.fork 5 (.calm 6 (.calm 7 (.calm 8 (.one 9 (.one 10 (.calm 11 .done)))))) 9 (.one 5 (.calm 6 (.calm 7 (.calm 8 (.one 10 (.calm 11 .done))))))) 9 (.one 4 (.one 5 (.calm 6 (.calm 7 (.calm 8 (.one 10 (.calm 11 .done)))))))))))) (by kernel_rfl) (by kernel_rfl) (by kernel_rfl) (by kernel_rfl) (by kernel_rfl) ⟨⟨u4.drew, (Below.refl _ u4).drew⟩, rfl⟩ ?_
    have hb0 : Below u4.heap.size u4 u4.drew := (Below.refl _ u4).drew
    refine wpP_calm rfl rfl (fun K hK => ?_); go_simp; refine hK _ ?_; clear hK K
    refine wpP_calm rfl rfl (fun K hK => ?_); go_simp; refine hK _ ?_; clear hK K
    refine wpP_plain rfl rfl (fun K hK => ?_); go_simp; refine hK _ ?_; clear hK K
    refine wpP_plain rfl rfl (fun K hK => ?_); go_simp; refine hK _ ?_; clear hK K
    refine wpP_fork ?_ ?_
    · refine wpP_eff rfl rfl rfl (fun K hK => ?_)
      go_simp
      refine ⟨trivial, (callsIn_wide.2 (HCut.out u4.drew)).mono ?_⟩
      rintro e v1 ⟨rfl, hC⟩
      have hb1 : Below u4.heap.size u4 v1 := hb0.trans (hC.mono hb0.size)
      refine ⟨_, rfl, hK _ _ ⟨⟨_, hb1⟩, rfl⟩ ?_⟩
      clear hK K hC
      refine wpP_fork ?_ ?_
      · refine wpP_eff rfl rfl rfl (fun K hK => ?_)
        go_simp
        refine ⟨trivial, (callsIn_wide.2 (HApp.out _ c_l v1 n_l ((a_l.later hb1).at_))).mono ?_⟩
        rintro e v2 ⟨hC, A6, c6, rfl, n6, a6⟩
        have hb2 : Below u4.heap.size u4 v2 := hb1.trans (hC.mono hb1.size)
        replace a6 := a6.mono hb1.size
        refine ⟨_, rfl, hK _ _ ⟨⟨_, hb2⟩, rfl⟩ ?_⟩
        clear hK K hC
        refine wpP_plain rfl rfl (fun K hK => ?_); go_simp; refine hK _ ?_; clear hK K
        refine wpP_plain rfl rfl (fun K hK => ?_); go_simp; refine hK _ ?_; clear hK K
        refine wpP_plain rfl rfl (fun K hK => ?_); go_simp; refine hK _ ?_; clear hK K
        refine wpP_eff rfl rfl rfl (fun K hK => ?_)
        go_simp
        have hb3 : Below u4.heap.size u4 (v2.alloc (.cells #[.int .u64 0, .slice none 0 0] 27)) := hb2.alloc hb2.size _
        have kB := new_at v2 (.cells #[.int .u64 0, .slice none 0 0] 27) _ rfl
        have qB := hb2.size
        refine hK _ _ ⟨⟨_, hb3⟩, rfl⟩ ?_
        clear hK K
        have hb39 := hb2
        obtain ⟨B, hB9⟩ : ∃ B, v2.heap.size = B := ⟨_, rfl⟩
        have hbn : Below u4.heap.size u4 (v2.alloc (.cells #[.int .u64 (U p2), .slice A6 M2 c6] 27)) := hb39.alloc hb39.size _
        have kBn := new_at v2 (.cells #[.int .u64 (U p2), .slice A6 M2 c6] 27) _ rfl
        have a7 := a6.later ((Below.refl _ v2).alloc (Nat.le_refl _) (.cells #[.int .u64 (U p2), .slice A6 M2 c6] 27))
        have xB0 := cell_at kB 0
        have xB1 := cell_at kB 1
        have fB0 := free_at kB 0
        have fB1 := free_at kB 1
        rw [hB9] at kB qB xB0 xB1 fB0 fB1 kBn
        rw [hB9]
        have HbN := Lib.hid hbn
        have HkN := Lib.hid kBn
        have HA7 := Lib.hid a7
        clear hbn kBn a7 a6
        refine wpP_last rfl rfl rfl (fun K hK => ?_)
        go_simp
        refine hK _ _ ?_
        clear hK K xB0 xB1 fB0 fB1
        refine wpP_plain rfl rfl (fun K hK => ?_); go_simp; refine hK _ ?_; clear hK K
        refine wpP_done ?_
        refine ⟨rfl, B, A6, c6, ?_, HbN.out, qB, HkN.out, Lib.hid ⟨n6, HA7.out⟩⟩
        rfl
      · refine wpP_eff rfl rfl rfl (fun K hK => ?_)
        go_simp
        have hb4 : Below u4.heap.size u4 (v1.alloc (.cells #[.int .u64 0, .slice none 0 0] 27)) := hb1.alloc hb1.size _
        have kB := new_at v1 (.cells #[.int .u64 0, .slice none 0 0] 27) _ rfl
        have qB := hb1.size
        refine hK _ _ ⟨⟨_, hb4⟩, rfl⟩ ?_
        clear hK K
        obtain ⟨B, hB9⟩ : ∃ B, v1.heap.size = B := ⟨_, rfl⟩
        rw [hB9] at kB qB ⊢
        generalize (v1.alloc (.cells #[.int .u64 0, .slice none 0 0] 27)) = v4 at *
        have ltB := (Array.getElem?_eq_some_iff.1 kB).1
        refine wpP_eff rfl rfl rfl (fun K hK => ?_)
        go_simp
        refine ⟨trivial, (callsIn_wide.2 (HApp.out _ c_l v4 n_l ((a_l.later hb4).at_))).mono ?_⟩
        rintro e v5 ⟨hC, A6, c6, rfl, n6, a6⟩
        have hb5 : Below u4.heap.size u4 v5 := hb4.trans (hC.mono hb4.size)
        replace kB := keep kB hC
        replace a6 := a6.mono (show B + 1 ≤ _ from ltB)
        refine ⟨_, rfl, hK _ _ ⟨⟨_, hb5⟩, rfl⟩ ?_⟩
        clear hK K hC
        refine wpP_plain rfl rfl (fun K hK => ?_); go_simp; refine hK _ ?_; clear hK K
        refine wpP_plain rfl rfl (fun K hK => ?_); go_simp; refine hK _ ?_; clear hK K
        refine wpP_plain rfl rfl (fun K hK => ?_); go_simp; refine hK _ ?_; clear hK K
        have hP : Put v5 ((v5.setCell ⟨B, 0, none⟩ (.int .u64 (U p2))).setCell ⟨B, 1, none⟩ (.slice A6 M2 c6)) B (.cells #[.int .u64 (U p2), .slice A6 M2 c6] 27 (0, 0)) := ((Put.refl kB).set 0 _).set 1 _
        have a7 := (a6.put hP (Nat.lt_succ_self B)).mono (show u4.heap.size ≤ B + 1 by omega)
        have xB0 := cell_at kB 0
        have xB1 := cell_at kB 1
        have fB0 := free_at kB 0
        have fB1 := free_at kB 1
        have hlt9 := (Array.getElem?_eq_some_iff.1 kB).1
        have HP := Lib.hid hP
        have HA7 := Lib.hid a7
        clear hP a7 a6
        refine wpP_last rfl rfl rfl (fun K hK => ?_)
        go_simp
        refine hK _ _ ?_
        clear hK K xB0 xB1 fB0 fB1
        refine wpP_plain rfl rfl (fun K hK => ?_); go_simp; refine hK _ ?_; clear hK K
        refine wpP_done ?_
        refine ⟨rfl, B, A6, c6, rfl, hb5.trans (HP.out.below qB), qB, HP.out.get hlt9, Lib.hid ⟨n6, HA7.out⟩⟩
    · refine wpP_eff rfl rfl rfl (fun K hK => ?_)
      go_simp
      have hb6 : Below u4.heap.size u4 (u4.alloc (.cells #[.int .u64 0, .slice none 0 0] 27)).drew := ((Below.refl _ u4).alloc (Nat.le_refl _) _).drew
      have kB : (u4.alloc (.cells #[.int .u64 0, .slice none 0 0] 27)).drew.heap[u4.heap.size]? = some (.cells #[.int .u64 0, .slice none 0 0] 27 (0, 0)) := new_at u4 _ _ rfl
      have qB : u4.heap.size ≤ u4.heap.size := Nat.le_refl _
      refine hK _ _ ⟨⟨_, hb6⟩, rfl⟩ ?_
      clear hK K
      generalize (u4.alloc (.cells #[.int .u64 0, .slice none 0 0] 27)).drew = v6 at *
      have ltB := (Array.getElem?_eq_some_iff.1 kB).1
      refine wpP_eff rfl rfl rfl (fun K hK => ?_)
      go_simp
      refine ⟨trivial, (callsIn_wide.2 (HCut.out v6)).mono ?_⟩
      rintro e v7 ⟨rfl, hC⟩
      have hb7 : Below u4.heap.size u4 v7 := hb6.trans (hC.mono hb6.size)
      replace kB := keep kB hC
      replace ltB := (Array.getElem?_eq_some_iff.1 kB).1
      refine ⟨_, rfl, hK _ _ ⟨⟨_, hb7⟩, rfl⟩ ?_⟩
      clear hK K hC
      refine wpP_eff rfl rfl rfl (fun K hK => ?_)
      go_simp
      refine ⟨trivial, (callsIn_wide.2 (HApp.out _ c_l v7 n_l ((a_l.later hb7).at_))).mono ?_⟩
      rintro e v8 ⟨hC, A6, c6, rfl, n6, a6⟩
      have hb8 : Below u4.heap.size u4 v8 := hb7.trans (hC.mono hb7.size)
      replace kB := keep kB hC
      replace a6 := a6.mono (show u4.heap.size + 1 ≤ _ from ltB)
      refine ⟨_, rfl, hK _ _ ⟨⟨_, hb8⟩, rfl⟩ ?_⟩
      clear hK K hC
      refine wpP_plain rfl rfl (fun K hK => ?_); go_simp; refine hK _ ?_; clear hK K
      refine wpP_plain rfl rfl (fun K hK => ?_); go_simp; refine hK _ ?_; clear hK K
      refine wpP_plain rfl rfl (fun K hK => ?_); go_simp; refine hK _ ?_; clear hK K
      have hP : Put v8 ((v8.setCell ⟨u4.heap.size, 0, none⟩ (.int .u64 (U p2))).setCell ⟨u4.heap.size, 1, none⟩ (.slice A6 M2 c6)) u4.heap.size (.cells #[.int .u64 (U p2), .slice A6 M2 c6] 27 (0, 0)) := ((Put.refl kB).set 0 _).set 1 _
      have a7 := (a6.put hP (Nat.lt_succ_self u4.heap.size)).mono (show u4.heap.size ≤ u4.heap.size + 1 by omega)
      have xB0 := cell_at kB 0
      have xB1 := cell_at kB 1
      have fB0 := free_at kB 0
      have fB1 := free_at kB 1
      have hlt9 := (Array.getElem?_eq_some_iff.1 kB).1
      have HP := Lib.hid hP
      have HA7 := Lib.hid a7
      clear hP a7 a6
      refine wpP_last rfl rfl rfl (fun K hK => ?_)
      go_simp
      refine hK _ _ ?_
      clear hK K xB0 xB1 fB0 fB1
      refine wpP_plain rfl rfl (fun K hK => ?_); go_simp; refine hK _ ?_; clear hK K
      refine wpP_done ?_
      refine ⟨rfl, u4.heap.size, A6, c6, rfl, hb8.trans (HP.out.below qB), qB, HP.out.get hlt9, Lib.hid ⟨n6, HA7.out⟩⟩
  rintro b_m A_m c_m u5 ⟨hC, q_m, k_m, ⟨n_m, a_m⟩⟩
  clear l_k_0 l_k_1 l_l_0 l_l_1
  have lt_k_m : b_k < b_m := by have := (Array.getElem?_eq_some_iff.1 k_k).1; omega
  have lt_l_m : b_l < b_m := by have := (Array.getElem?_eq_some_iff.1 k_l).1; omega
  replace k_k := keep k_k hC
  replace k_l := keep k_l hC
  replace a_l := a_l.later hC
  replace hB := hB.trans (hC.mono hB.size)
  clear hC
  go_wp2_with fail
  have l_k_0 : ∀ s : Later u5.heap.size u5, s.W.cell? ⟨b_k, 0, none⟩ = some _ := fun s => s.cell (cell_at k_k 0) (Array.getElem?_eq_some_iff.1 k_k).1
  have l_k_1 : ∀ s : Later u5.heap.size u5, s.W.cell? ⟨b_k, 1, none⟩ = some _ := fun s => s.cell (cell_at k_k 1) (Array.getElem?_eq_some_iff.1 k_k).1
  have l_l_0 : ∀ s : Later u5.heap.size u5, s.W.cell? ⟨b_l, 0, none⟩ = some _ := fun s => s.cell (cell_at k_l 0) (Array.getElem?_eq_some_iff.1 k_l).1
  have l_l_1 : ∀ s : Later u5.heap.size u5, s.W.cell? ⟨b_l, 1, none⟩ = some _ := fun s => s.cell (cell_at k_l 1) (Array.getElem?_eq_some_iff.1 k_l).1
  refine wp_join_f3 ?f_r (fun (B : Nat) (A6 : Option Addr) (c6 : Nat) W => Below u5.heap.size u5 W ∧ u5.heap.size ≤ B ∧ W.heap[B]? = some (.cells #[.int .u64 (U p2), .slice A6 M2 c6] 27 (0, 0)) ∧ Hid (M2 ≤ c6 ∧ LieE W u5.heap.size A6 l2)) ?h_r ?k_r
  case h_r =>
    refine region_plan_plain (C := fun W' => ∃ s : Later u5.heap.size u5, W' = s.W) [0, 0, 3, 3, 1, 1, 3, 3, 3, 1, 2, 3] (.calm 0 (.calm 1 (.calm 2 (.calm 3 (.fork 4 (.fork 5 (.calm 6 (.calm 7 (.calm 8 (.one 9 (.one 10 (.calm 11 .done)))))) 9 (.one 5 (.calm 6 (.calm 7 (.calm 8 (.one 10 (.calm 11 .done))))))) 9 (.one 4 (.one 5 (.calm 6 (.calm 7 (.calm 8 (.one 10 (.calm 11 .done)))))))))))) (by kernel_rfl) (by kernel_rfl) (by kernel_rfl) (by kernel_rfl) (by kernel_rfl) ⟨⟨u5.drew, (Below.refl _ u5).drew⟩, rfl⟩ ?_
    have hb0 : Below u5.heap.size u5 u5.drew := (Below.refl _ u5).drew
    refine wpP_calm rfl rfl (fun K hK => ?_); go_simp; refine hK _ ?_; clear hK K
    refine wpP_calm rfl rfl (fun K hK => ?_); go_simp; refine hK _ ?_; clear hK K
    refine wpP_plain rfl rfl (fun K hK => ?_); go_simp; refine hK _ ?_; clear hK K
    refine wpP_plain rfl rfl (fun K hK => ?_); go_simp; refine hK _ ?_; clear hK K
    refine wpP_fork ?_ ?_
    · refine wpP_eff rfl rfl rfl (fun K hK => ?_)
      go_simp
      refine ⟨trivial, (callsIn_wide.2 (HCut.out u5.drew)).mono ?_⟩
      rintro e v1 ⟨rfl, hC⟩
      have hb1 : Below u5.heap.size u5 v1 := hb0.trans (hC.mono hb0.size)
      refine ⟨_, rfl, hK _ _ ⟨⟨_, hb1⟩, rfl⟩ ?_⟩
      clear hK K hC
      refine wpP_fork ?_ ?_
      · refine wpP_eff rfl rfl rfl (fun K hK => ?_)
        go_simp
        refine ⟨trivial, (callsIn_wide.2 (HRApp.out _ c_l v1 ((a_l.later hb1).at_))).mono ?_⟩
        rintro e v2 ⟨hC, A6, c6, rfl, n6, a6⟩
        have hb2 : Below u5.heap.size u5 v2 := hb1.trans (hC.mono hb1.size)
        replace a6 := a6.mono hb1.size
        refine ⟨_, rfl, hK _ _ ⟨⟨_, hb2⟩, rfl⟩ ?_⟩
        clear hK K hC
        refine wpP_plain rfl rfl (fun K hK => ?_); go_simp; refine hK _ ?_; clear hK K
        refine wpP_plain rfl rfl (fun K hK => ?_); go_simp; refine hK _ ?_; clear hK K
        refine wpP_plain rfl rfl (fun K hK => ?_); go_simp; refine hK _ ?_; clear hK K
        refine wpP_eff rfl rfl rfl (fun K hK => ?_)
        go_simp
        have hb3 : Below u5.heap.size u5 (v2.alloc (.cells #[.int .u64 0, .slice none 0 0] 27)) := hb2.alloc hb2.size _
        have kB := new_at v2 (.cells #[.int .u64 0, .slice none 0 0] 27) _ rfl
        have qB := hb2.size
        refine hK _ _ ⟨⟨_, hb3⟩, rfl⟩ ?_
        clear hK K
        have hb39 := hb2
        obtain ⟨B, hB9⟩ : ∃ B, v2.heap.size = B := ⟨_, rfl⟩
        have hbn : Below u5.heap.size u5 (v2.alloc (.cells #[.int .u64 (U p2), .slice A6 M2 c6] 27)) := hb39.alloc hb39.size _
        have kBn := new_at v2 (.cells #[.int .u64 (U p2), .slice A6 M2 c6] 27) _ rfl
        have a7 := a6.later ((Below.refl _ v2).alloc (Nat.le_refl _) (.cells #[.int .u64 (U p2), .slice A6 M2 c6] 27))
        have xB0 := cell_at kB 0
        have xB1 := cell_at kB 1
        have fB0 := free_at kB 0
        have fB1 := free_at kB 1
        rw [hB9] at kB qB xB0 xB1 fB0 fB1 kBn
        rw [hB9]
        have HbN := Lib.hid hbn
        have HkN := Lib.hid kBn
        have HA7 := Lib.hid a7
        clear hbn kBn a7 a6
        refine wpP_last rfl rfl rfl (fun K hK => ?_)
        go_simp
        refine hK _ _ ?_
        clear hK K xB0 xB1 fB0 fB1
        refine wpP_plain rfl rfl (fun K hK => ?_); go_simp; refine hK _ ?_; clear hK K
        refine wpP_done ?_
        refine ⟨rfl, B, A6, c6, ?_, HbN.out, qB, HkN.out, Lib.hid ⟨n6, HA7.out⟩⟩
        rfl
      · refine wpP_eff rfl rfl rfl (fun K hK => ?_)
        go_simp
        have hb4 : Below u5.heap.size u5 (v1.alloc (.cells #[.int .u64 0, .slice none 0 0] 27)) := hb1.alloc hb1.size _
        have kB := new_at v1 (.cells #[.int .u64 0, .slice none 0 0] 27) _ rfl
        have qB := hb1.size
        refine hK _ _ ⟨⟨_, hb4⟩, rfl⟩ ?_
        clear hK K
        obtain ⟨B, hB9⟩ : ∃ B, v1.heap.size = B := ⟨_, rfl⟩
        rw [hB9] at kB qB ⊢
        generalize (v1.alloc (.cells #[.int .u64 0, .slice none 0 0] 27)) = v4 at *
        have ltB := (Array.getElem?_eq_some_iff.1 kB).1
        refine wpP_eff rfl rfl rfl (fun K hK => ?_)
        go_simp
        refine ⟨trivial, (callsIn_wide.2 (HRApp.out _ c_l v4 ((a_l.later hb4).at_))).mono ?_⟩
        rintro e v5 ⟨hC, A6, c6, rfl, n6, a6⟩
        have hb5 : Below u5.heap.size u5 v5 := hb4.trans (hC.mono hb4.size)
        replace kB := keep kB hC
        replace a6 := a6.mono (show B + 1 ≤ _ from ltB)
        refine ⟨_, rfl, hK _ _ ⟨⟨_, hb5⟩, rfl⟩ ?_⟩
        clear hK K hC
        refine wpP_plain rfl rfl (fun K hK => ?_); go_simp; refine hK _ ?_; clear hK K
        refine wpP_plain rfl rfl (fun K hK => ?_); go_simp; refine hK _ ?_; clear hK K
        refine wpP_plain rfl rfl (fun K hK => ?_); go_simp; refine hK _ ?_; clear hK K
        have hP : Put v5 ((v5.setCell ⟨B, 0, none⟩ (.int .u64 (U p2))).setCell ⟨B, 1, none⟩ (.slice A6 M2 c6)) B (.cells #[.int .u64 (U p2), .slice A6 M2 c6] 27 (0, 0)) := ((Put.refl kB).set 0 _).set 1 _
        have a7 := (a6.put hP (Nat.lt_succ_self B)).mono (show u5.heap.size ≤ B + 1 by omega)
        have xB0 := cell_at kB 0
        have xB1 := cell_at kB 1
        have fB0 := free_at kB 0
        have fB1 := free_at kB 1
        have hlt9 := (Array.getElem?_eq_some_iff.1 kB).1
        have HP := Lib.hid hP
        have HA7 := Lib.hid a7
        clear hP a7 a6
        refine wpP_last rfl rfl rfl (fun K hK => ?_)
        go_simp
        refine hK _ _ ?_
        clear hK K xB0 xB1 fB0 fB1
        refine wpP_plain rfl rfl (fun K hK => ?_); go_simp; refine hK _ ?_; clear hK K
        refine wpP_done ?_
        refine ⟨rfl, B, A6, c6, rfl, hb5.trans (HP.out.below qB), qB, HP.out.get hlt9, Lib.hid ⟨n6, HA7.out⟩⟩
    · refine wpP_eff rfl rfl rfl (fun K hK => ?_)
      go_simp
      have hb6 : Below u5.heap.size u5 (u5.alloc (.cells #[.int .u64 0, .slice none 0 0] 27)).drew := ((Below.refl _ u5).alloc (Nat.le_refl _) _).drew
      have kB : (u5.alloc (.cells #[.int .u64 0, .slice none 0 0] 27)).drew.heap[u5.heap.size]? = some (.cells #[.int .u64 0, .slice none 0 0] 27 (0, 0)) := new_at u5 _ _ rfl
      have qB : u5.heap.size ≤ u5.heap.size := Nat.le_refl _
      refine hK _ _ ⟨⟨_, hb6⟩, rfl⟩ ?_
      clear hK K
      generalize (u5.alloc (.cells #[.int .u64 0, .slice none 0 0] 27)).drew = v6 at *
      have ltB := (Array.getElem?_eq_some_iff.1 kB).1
      refine wpP_eff rfl rfl rfl (fun K hK => ?_)
      go_simp
      refine ⟨trivial, (callsIn_wide.2 (HCut.out v6)).mono ?_⟩
      rintro e v7 ⟨rfl, hC⟩
      have hb7 : Below u5.heap.size u5 v7 := hb6.trans (hC.mono hb6.size)
      replace kB := keep kB hC
      replace ltB := (Array.getElem?_eq_some_iff.1 kB).1
      refine ⟨_, rfl, hK _ _ ⟨⟨_, hb7⟩, rfl⟩ ?_⟩
      clear hK K hC
      refine wpP_eff rfl rfl rfl (fun K hK => ?_)
      go_simp
      refine ⟨trivial, (callsIn_wide.2 (HRApp.out _ c_l v7 ((a_l.later hb7).at_))).mono ?_⟩
      rintro e v8 ⟨hC, A6, c6, rfl, n6, a6⟩
      have hb8 : Below u5.heap.size u5 v8 := hb7.trans (hC.mono hb7.size)
      replace kB := keep kB hC
      replace a6 := a6.mono (show u5.heap.size + 1 ≤ _ from ltB)
      refine ⟨_, rfl, hK _ _ ⟨⟨_, hb8⟩, rfl⟩ ?_⟩
      clear hK K hC
      refine wpP_plain rfl rfl (fun K hK => ?_); go_simp; refine hK _ ?_; clear hK K
      refine wpP_plain rfl rfl (fun K hK => ?_); go_simp; refine hK _ ?_; clear hK K
      refine wpP_plain rfl rfl (fun K hK => ?_); go_simp; refine hK _ ?_; clear hK K
      have hP : Put v8 ((v8.setCell ⟨u5.heap.size, 0, none⟩ (.int .u64 (U p2))).setCell ⟨u5.heap.size, 1, none⟩ (.slice A6 M2 c6)) u5.heap.size (.cells #[.int .u64 (U p2), .slice A6 M2 c6] 27 (0, 0)) := ((Put.refl kB).set 0 _).set 1 _
      have a7 := (a6.put hP (Nat.lt_succ_self u5.heap.size)).mono (show u5.heap.size ≤ u5.heap.size + 1 by omega)
      have xB0 := cell_at kB 0
      have xB1 := cell_at kB 1
      have fB0 := free_at kB 0
      have fB1 := free_at kB 1
      have hlt9 := (Array.getElem?_eq_some_iff.1 kB).1
      have HP := Lib.hid hP
      have HA7 := Lib.hid a7
      clear hP a7 a6
      refine wpP_last rfl rfl rfl (fun K hK => ?_)
      go_simp
      refine hK _ _ ?_
      clear hK K xB0 xB1 fB0 fB1
      refine wpP_plain rfl rfl (fun K hK => ?_); go_simp; refine hK _ ?_; clear hK K
      refine wpP_done ?_
      refine ⟨rfl, u5.heap.size, A6, c6, rfl, hb8.trans (HP.out.below qB), qB, HP.out.get hlt9, Lib.hid ⟨n6, HA7.out⟩⟩
  rintro b_r A_r c_r u6 ⟨hC, q_r, k_r, ⟨n_r, a_r⟩⟩
  clear l_k_0 l_k_1 l_l_0 l_l_1
  have lt_k_r : b_k < b_r := by have := (Array.getElem?_eq_some_iff.1 k_k).1; omega
  have lt_l_r : b_l < b_r := by have := (Array.getElem?_eq_some_iff.1 k_l).1; omega
  have lt_m_r : b_m < b_r := by have := (Array.getElem?_eq_some_iff.1 k_m).1; omega
  replace k_k := keep k_k hC
  replace k_l := keep k_l hC
  replace a_l := a_l.later hC
  replace k_m := keep k_m hC
  replace a_m := a_m.later hC
  replace hB := hB.trans (hC.mono hB.size)
  clear hC
  go_wp2_with fail
  have HAl := Lib.hid (fun s : Later u6.heap.size u6 => (a_l.later s.below).at_)
  have HAm := Lib.hid (fun s : Later u6.heap.size u6 => (a_m.later s.below).at_)
  have HAr := Lib.hid (fun s : Later u6.heap.size u6 => (a_r.later s.below).at_)
  refine wp_region_later u6.heap.size (by kernel_rfl) (by kernel_rfl) ?_
  have l_k_0 : ∀ s : Later u6.heap.size u6, s.W.cell? ⟨b_k, 0, none⟩ = some _ := fun s => s.cell (cell_at k_k 0) (Array.getElem?_eq_some_iff.1 k_k).1
  have l_k_1 : ∀ s : Later u6.heap.size u6, s.W.cell? ⟨b_k, 1, none⟩ = some _ := fun s => s.cell (cell_at k_k 1) (Array.getElem?_eq_some_iff.1 k_k).1
  have l_l_0 : ∀ s : Later u6.heap.size u6, s.W.cell? ⟨b_l, 0, none⟩ = some _ := fun s => s.cell (cell_at k_l 0) (Array.getElem?_eq_some_iff.1 k_l).1
  have l_l_1 : ∀ s : Later u6.heap.size u6, s.W.cell? ⟨b_l, 1, none⟩ = some _ := fun s => s.cell (cell_at k_l 1) (Array.getElem?_eq_some_iff.1 k_l).1
  have l_m_0 : ∀ s : Later u6.heap.size u6, s.W.cell? ⟨b_m, 0, none⟩ = some _ := fun s => s.cell (cell_at k_m 0) (Array.getElem?_eq_some_iff.1 k_m).1
  have l_m_1 : ∀ s : Later u6.heap.size u6, s.W.cell? ⟨b_m, 1, none⟩ = some _ := fun s => s.cell (cell_at k_m 1) (Array.getElem?_eq_some_iff.1 k_m).1
  have l_r_0 : ∀ s : Later u6.heap.size u6, s.W.cell? ⟨b_r, 0, none⟩ = some _ := fun s => s.cell (cell_at k_r 0) (Array.getElem?_eq_some_iff.1 k_r).1
  have l_r_1 : ∀ s : Later u6.heap.size u6, s.W.cell? ⟨b_r, 1, none⟩ = some _ := fun s => s.cell (cell_at k_r 1) (Array.getElem?_eq_some_iff.1 k_r).1
  repeat (go_big_quiet_step (first | (go_at_call 15; with_reducible exact Calls.later (Nat.le_refl _) (HR.out _ _ _ (HAl.out _))) | (go_at_call 16; with_reducible exact Calls.later (Nat.le_refl _) (HRR.out _ _ _ (HAl.out _))) | (go_at_call 17; with_reducible exact Calls.later (Nat.le_refl _) (HSame.out _ _ _ _ _ (HAm.out _) (HAr.out _)))))
  refine wpQuiet_nil ?_
  rintro _ ⟨s, rfl⟩
  clear l_k_0 l_k_1 l_l_0 l_l_1 l_m_0 l_m_1 l_r_0 l_r_1
  have hC := s.below
  replace k_k := keep k_k hC
  replace k_l := keep k_l hC
  replace a_l := a_l.later hC
  replace k_m := keep k_m hC
  replace a_m := a_m.later hC
  replace k_r := keep k_r hC
  replace a_r := a_r.later hC
  replace hB := hB.trans (hC.mono hB.size)
  clear hC
  go_wp2_with fail
  go_ret
  exact ⟨rfl, hB⟩
end Go.Proofs.Ytdhbomipffidlaa
