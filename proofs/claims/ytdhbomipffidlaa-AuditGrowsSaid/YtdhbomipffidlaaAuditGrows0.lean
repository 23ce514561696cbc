/-
  The walk of AuditGrows. Printed by gen_audl.py.
-/
import Derived.Test.YtdhbomipffidlaaAudS
namespace Go.Proofs.Ytdhbomipffidlaa
open Go.RowKit Go.Shelf
attribute [local go_sem] Oper.semAt_some calmOp calmUpon effOp effUpon

set_option maxRecDepth 100000 in
set_option maxHeartbeats 8000000 in
theorem walk_AuditGrows {w : World} (a b : BitVec 64) (p : BitVec 64) (A : Option Addr) (c : Nat) (l : LE) (hlc : l.length ≤ 9223372036854775807) (hz : ∀ j, j < l.length → (nthE l j).x.size ≤ 9223372036854775807) (hX : AtE w w.heap.size A l) (t : BitVec 64) (s : ByteArray) (hs : s.size ≤ 9223372036854775807) :
    Calls Try.prog 6 #[.agg #[.int .u64 (U a), .int .u64 (U b)], .agg #[.int .u64 (U p), .slice A l.length c], .int .u64 (U t), .string s] w fun e w' => e = .returned (.bool true) ∧ Below w.heap.size w w' := by
  have HF_l := Lib.hid (fun W h => Few_any p A c l l.length rfl hlc hz W h)
  have hsz_l := fewE_size l
  have hle_l := fewE_length l
  obtain ⟨L_l, hL_l⟩ : ∃ L, fewE l = L := ⟨_, rfl⟩
  rw [hL_l] at HF_l hsz_l hle_l
  obtain ⟨N_l, hN_l⟩ : ∃ N, L_l.length = N := ⟨_, rfl⟩
  rw [hN_l] at HF_l hsz_l hle_l
  have HN_l := Lib.hid hN_l
  have HS_l := Lib.hid (fun j hj => Nat.le_trans (hsz_l j hj) (show 210 ≤ 60000 by decide))
  obtain ⟨n0_l, hn0_l⟩ : ∃ n, l.length = n := ⟨_, rfl⟩
  rw [hn0_l] at HF_l ⊢
  clear hsz_l hL_l hN_l hn0_l hz
  have HCut := Lib.hid (fun W => cut_any s hs W)
  have hcs := cutE_size s
  obtain ⟨x, hx⟩ : ∃ x, cutE s = x := ⟨_, rfl⟩
  rw [hx] at HCut hcs
  clear hx
  have HX := Lib.hid hX
  clear hX
  by_cases hok : appOk a b p L_l t x = true
  · obtain ⟨h30', -, hx200, -, -⟩ := app_ok hok
    rw [HN_l.out] at h30'
    have hnew : newE a b p L_l t x = ⟨(lastE p L_l).s + 1#64, t, x, sumE a b (lastE p L_l).m ⟨(lastE p L_l).s + 1#64, t, x, 0#64⟩⟩ := rfl
    have HSum := Lib.hid (fun W => Sum_any a b (lastE p L_l).m ⟨(lastE p L_l).s + 1#64, t, x, sumE a b (lastE p L_l).m ⟨(lastE p L_l).s + 1#64, t, x, 0#64⟩⟩ (show x.size ≤ 60000 by omega) W)
    rw [show sumE a b (lastE p L_l).m ⟨(lastE p L_l).s + 1#64, t, x, sumE a b (lastE p L_l).m ⟨(lastE p L_l).s + 1#64, t, x, 0#64⟩⟩ = sumE a b (lastE p L_l).m ⟨(lastE p L_l).s + 1#64, t, x, 0#64⟩ from sumE_of _ _ _ _ _ rfl rfl rfl] at HSum
    unfold Ent.val at HSum
    simp only at HSum
    have hadd : IntKind.u64.wrap (U (lastE p L_l).s + 1) = U ((lastE p L_l).s + 1#64) := by have h := U_add (lastE p L_l).s 1#64; rw [U_lit1] at h; exact h
    obtain ⟨Sm, hSm⟩ : ∃ Sm, sumE a b (lastE p L_l).m ⟨(lastE p L_l).s + 1#64, t, x, 0#64⟩ = Sm := ⟨_, rfl⟩
    rw [hSm] at hnew HSum
    obtain ⟨z, hz⟩ : ∃ z, lastE p L_l = z := ⟨_, rfl⟩
    rw [hz] at hnew HSum hadd
    obtain ⟨n1, hn1⟩ : ∃ n1, z.s + 1#64 = n1 := ⟨_, rfl⟩
    rw [hn1] at hnew HSum hadd
    have he := hnew
    have HAdd := Lib.hid hadd
    clear hSm hn1 hnew hadd
    by_cases h30 : N_l < 30
    · have happ : appL a b p L_l t x = ⟨p, (L_l ++ [(⟨n1, t, x, Sm⟩ : Ent)])⟩ := by unfold appL; rw [if_pos hok, he]; exact putE_few _ _ _ (by rw [HN_l.out]; exact h30)
      have hlen : (L_l ++ [(⟨n1, t, x, Sm⟩ : Ent)]).length = (N_l + 1) := by rw [List.length_append, HN_l.out]; rfl
      have hr : rightE a b p (L_l ++ [(⟨n1, t, x, Sm⟩ : Ent)]) = true := by
        have h := rightE_iff.2 (app_right hok)
        rw [happ] at h
        exact h
      have hsz : ∀ j, j < (N_l + 1) → (nthE (L_l ++ [(⟨n1, t, x, Sm⟩ : Ent)]) j).x.size ≤ 60000 := fun j hj => by
        by_cases hj2 : j < N_l
        · rw [nthE_left _ _ _ (by rw [HN_l.out]; omega)]
          exact HS_l.out j hj2
        · have e : j = (L_l).length := by rw [HN_l.out]; omega
          rw [e, nthE_last]
          exact (show x.size ≤ 60000 by omega)
      have HApp := Lib.hid (fun A c W hc hA => Append_n (p' := p) (l' := (L_l ++ [(⟨n1, t, x, Sm⟩ : Ent)])) (M := (N_l + 1)) (k := 0) A c happ (appC_ok hok) hlen HN_l.out (by omega) hc HS_l.out (by omega) W hA)
      have HRm := Lib.hid (fun A c W hA => by
        have h := Right_any a b p A c (L_l ++ [(⟨n1, t, x, Sm⟩ : Ent)]) (N_l + 1) hlen (by omega) hsz W hA
        rw [hr] at h
        exact h)
      have HLl := Lib.hid (fun A c W hA => Last_any p A c L_l N_l HN_l.out (by omega) W hA)
      have HHl := Lib.hid (fun A c W hA => Head_any p A c L_l N_l HN_l.out (by omega) W hA)
      rw [hz] at HLl HHl
      have HLm := Lib.hid (fun A c W hA => Last_any p A c (L_l ++ [(⟨n1, t, x, Sm⟩ : Ent)]) (N_l + 1) hlen (by omega) W hA)
      have HHm := Lib.hid (fun A c W hA => Head_any p A c (L_l ++ [(⟨n1, t, x, Sm⟩ : Ent)]) (N_l + 1) hlen (by omega) W hA)
      rw [lastE_snoc] at HLm HHm
      have HEnt := Lib.hid (fun A A' c c' W hA hA' => by
        have h := entries_any A A' c c' ((L_l ++ [(⟨n1, t, x, Sm⟩ : Ent)]).take N_l) (L_l) N_l N_l (by rw [List.length_take, hlen]; omega) (by rw [HN_l.out]) (by omega) W hA hA'
        rw [show (L_l ++ [(⟨n1, t, x, Sm⟩ : Ent)]).take N_l = L_l from by rw [← HN_l.out]; exact List.take_left, decide_eq_true rfl] at h
        exact h)
      have HLast : Hid (nthE (L_l ++ [(⟨n1, t, x, Sm⟩ : Ent)]) N_l = ⟨n1, t, x, Sm⟩) := Lib.hid (by
        have h := nthE_last (L_l) (⟨n1, t, x, Sm⟩ : Ent)
        rw [show (L_l).length = N_l from by rw [HN_l.out]] at h
        exact h)
      have HLn := Lib.hid hlen
      clear happ hlen hr hsz hok he hz
      go_enter Try.func6, Try.ntmps6
      have hB : Below w.heap.size w w := Below.refl _ w
      go_wp2_with fail
      have hA : Below w.heap.size w ((w.alloc (.cells #[.int .u64 (U a), .int .u64 (U b)] 24)).alloc (.cells #[.int .u64 (U p), .slice A n0_l c] 27)) := ((Below.refl _ w).alloc (Nat.le_refl _) _).alloc (by simp) _
      have hq0 := hB.size
      replace hB := hB.trans (hA.mono hB.size)
      have k_k : ((w.alloc (.cells #[.int .u64 (U a), .int .u64 (U b)] 24)).alloc (.cells #[.int .u64 (U p), .slice A n0_l c] 27)).heap[w.heap.size]? = some (.cells #[.int .u64 (U a), .int .u64 (U b)] 24 (0, 0)) := old_at (new_at _ _ _ rfl)
      have k_l : ((w.alloc (.cells #[.int .u64 (U a), .int .u64 (U b)] 24)).alloc (.cells #[.int .u64 (U p), .slice A n0_l c] 27)).heap[w.heap.size + 1]? = some (.cells #[.int .u64 (U p), .slice A n0_l c] 27 (0, 0)) := new_at _ _ _ (by simp)
      obtain ⟨b_l, hb1⟩ : ∃ b, w.heap.size + 1 = b := ⟨_, rfl⟩
      have q_l : w.heap.size ≤ b_l := by omega
      rw [hb1] at k_l ⊢
      obtain ⟨b_k, hb0⟩ : ∃ b, w.heap.size = b := ⟨_, rfl⟩
      have q_k : w.heap.size ≤ b_k := by omega
      rw [hb0] at k_k ⊢
      have lt_k_l : b_k < b_l := by omega
      clear hA hq0 hb0 hb1
      generalize ((w.alloc (.cells #[.int .u64 (U a), .int .u64 (U b)] 24)).alloc (.cells #[.int .u64 (U p), .slice A n0_l c] 27)) = u1 at *
      refine (shown_any _).mono ?_
      rintro e u2 ⟨rfl, hC⟩
      replace k_k := keep k_k hC
      replace k_l := keep k_l hC
      replace hB := hB.trans (hC.mono hB.size)
      clear hC
      have x_l_0 := cell_at k_l 0
      have x_l_1 := cell_at k_l 1
      go_wp2_with fail
      clear x_l_0 x_l_1
      refine (HF_l.out _ ((HX.out.below hB).mono hB.size)).mono ?_
      rintro e u3 ⟨hC, A_l, c_l, rfl, n_l, a_l⟩
      replace a_l := a_l.mono (show b_l + 1 ≤ _ from (Array.getElem?_eq_some_iff.1 k_l).1)
      replace k_k := keep k_k hC
      replace k_l := keep k_l hC
      replace hB := hB.trans (hC.mono hB.size)
      clear hC
      have x_l_0 := cell_at k_l 0
      have fr_0 := free_at k_l 0
      have x_l_1 := cell_at k_l 1
      have fr_1 := free_at k_l 1
      have hP : Put u3 ((u3.setCell ⟨b_l, 0, none⟩ (.int .u64 (U p))).setCell ⟨b_l, 1, none⟩ (.slice A_l N_l c_l)) b_l (.cells #[.int .u64 (U p), .slice A_l N_l c_l] 27 (0, 0)) := ((Put.refl k_l).set 0 (.int .u64 (U p))).set 1 (.slice A_l N_l c_l)
      have HP := Lib.hid hP
      clear hP
      go_wp2_with fail
      clear x_l_0 x_l_1 fr_0 fr_1
      have hP := HP.out
      replace hB := hB.trans (hP.below (by omega))
      replace k_k := (hP.other (by omega)).trans k_k
      replace a_l := a_l.put hP (by omega)
      replace k_l := hP.get (Array.getElem?_eq_some_iff.1 k_l).1
      clear hP HP
      generalize ((u3.setCell ⟨b_l, 0, none⟩ (.int .u64 (U p))).setCell ⟨b_l, 1, none⟩ (.slice A_l N_l c_l)) = u4 at *
      clear u3
      have l_k_0 : ∀ s : Later u4.heap.size u4, s.W.cell? ⟨b_k, 0, none⟩ = some _ := fun s => s.cell (cell_at k_k 0) (Array.getElem?_eq_some_iff.1 k_k).1
      have l_k_1 : ∀ s : Later u4.heap.size u4, s.W.cell? ⟨b_k, 1, none⟩ = some _ := fun s => s.cell (cell_at k_k 1) (Array.getElem?_eq_some_iff.1 k_k).1
      have l_l_0 : ∀ s : Later u4.heap.size u4, s.W.cell? ⟨b_l, 0, none⟩ = some _ := fun s => s.cell (cell_at k_l 0) (Array.getElem?_eq_some_iff.1 k_l).1
      have l_l_1 : ∀ s : Later u4.heap.size u4, s.W.cell? ⟨b_l, 1, none⟩ = some _ := fun s => s.cell (cell_at k_l 1) (Array.getElem?_eq_some_iff.1 k_l).1
      refine wp_join_f3 ?f_m0 (fun (B : Nat) (A6 : Option Addr) (c6 : Nat) W => Below u4.heap.size u4 W ∧ u4.heap.size ≤ B ∧ W.heap[B]? = some (.cells #[.int .u64 (U p), .slice A6 (N_l + 1) c6] 27 (0, 0)) ∧ Hid ((N_l + 1) ≤ c6 ∧ LieE W u4.heap.size A6 (L_l ++ [(⟨n1, t, x, Sm⟩ : Ent)]))) ?h_m0 ?k_m0
      case h_m0 =>
        refine region_plan_plain (C := fun W' => ∃ s : Later u4.heap.size u4, W' = s.W) [0, 0, 3, 3, 1, 1, 3, 3, 3, 1, 2, 3] (.calm 0 (.calm 1 (.calm 2 (.calm 3 (.fork 4 (.fork 5 (.calm 6 (.calm 7 (.calm 8 (.one 9 (.one 10 (.calm 11 .done)))))) 9 (.one 5 (.calm 6 (.calm 7 (.calm 8 (.one 10 (.calm 11 .done))))))) 9 (.one 4 (.one 5 (.calm 6 (.calm 7 (.calm 8 (.one 10 (.calm 11 .done)))))))))))) (by kernel_rfl) (by kernel_rfl) (by kernel_rfl) (by kernel_rfl) (by kernel_rfl) ⟨⟨u4.drew, (Below.refl _ u4).drew⟩, rfl⟩ ?_
        have hb0 : Below u4.heap.size u4 u4.drew := (Below.refl _ u4).drew
        refine wpP_calm rfl rfl (fun K hK => ?_); go_simp; refine hK _ ?_; clear hK K
        refine wpP_calm rfl rfl (fun K hK => ?_); go_simp; refine hK _ ?_; clear hK K
        refine wpP_plain rfl rfl (fun K hK => ?_); go_simp; refine hK _ ?_; clear hK K
        refine wpP_plain rfl rfl (fun K hK => ?_); go_simp; refine hK _ ?_; clear hK K
        refine wpP_fork ?_ ?_
        · refine wpP_eff rfl rfl rfl (fun K hK => ?_)
          go_simp
          refine ⟨trivial, (callsIn_wide.2 (HCut.out u4.drew)).mono ?_⟩
          rintro e v1 ⟨rfl, hC⟩
          have hb1 : Below u4.heap.size u4 v1 := hb0.trans (hC.mono hb0.size)
          refine ⟨_, rfl, hK _ _ ⟨⟨_, hb1⟩, rfl⟩ ?_⟩
          clear hK K hC
          refine wpP_fork ?_ ?_
          · refine wpP_eff rfl rfl rfl (fun K hK => ?_)
            go_simp
            refine ⟨trivial, (callsIn_wide.2 (HApp.out _ c_l v1 n_l ((a_l.later hb1).at_))).mono ?_⟩
            rintro e v2 ⟨hC, A6, c6, rfl, n6, a6⟩
            have hb2 : Below u4.heap.size u4 v2 := hb1.trans (hC.mono hb1.size)
            replace a6 := a6.mono hb1.size
            refine ⟨_, rfl, hK _ _ ⟨⟨_, hb2⟩, rfl⟩ ?_⟩
            clear hK K hC
            refine wpP_plain rfl rfl (fun K hK => ?_); go_simp; refine hK _ ?_; clear hK K
            refine wpP_plain rfl rfl (fun K hK => ?_); go_simp; refine hK _ ?_; clear hK K
            refine wpP_plain rfl rfl (fun K hK => ?_); go_simp; refine hK _ ?_; clear hK K
            refine wpP_eff rfl rfl rfl (fun K hK => ?_)
            go_simp
            have hb3 : Below u4.heap.size u4 (v2.alloc (.cells #[.int .u64 0, .slice none 0 0] 27)) := hb2.alloc hb2.size _
            have kB := new_at v2 (.cells #[.int .u64 0, .slice none 0 0] 27) _ rfl
            have qB := hb2.size
            refine hK _ _ ⟨⟨_, hb3⟩, rfl⟩ ?_
            clear hK K
            have hb39 := hb2
            obtain ⟨B, hB9⟩ : ∃ B, v2.heap.size = B := ⟨_, rfl⟩
            have hbn : Below u4.heap.size u4 (v2.alloc (.cells #[.int .u64 (U p), .slice A6 (N_l + 1) c6] 27)) := hb39.alloc hb39.size _
            have kBn := new_at v2 (.cells #[.int .u64 (U p), .slice A6 (N_l + 1) c6] 27) _ rfl
            have a7 := a6.later ((Below.refl _ v2).alloc (Nat.le_refl _) (.cells #[.int .u64 (U p), .slice A6 (N_l + 1) c6] 27))
            have xB0 := cell_at kB 0
            have xB1 := cell_at kB 1
            have fB0 := free_at kB 0
            have fB1 := free_at kB 1
            rw [hB9] at kB qB xB0 xB1 fB0 fB1 kBn
            rw [hB9]
            have HbN := Lib.hid hbn
            have HkN := Lib.hid kBn
            have HA7 := Lib.hid a7
            clear hbn kBn a7 a6
            refine wpP_last rfl rfl rfl (fun K hK => ?_)
            go_simp
            refine hK _ _ ?_
            clear hK K xB0 xB1 fB0 fB1
            refine wpP_plain rfl rfl (fun K hK => ?_); go_simp; refine hK _ ?_; clear hK K
            refine wpP_done ?_
            refine ⟨rfl, B, A6, c6, ?_, HbN.out, qB, HkN.out, Lib.hid ⟨n6, HA7.out⟩⟩
            rfl
          · refine wpP_eff rfl rfl rfl (fun K hK => ?_)
            go_simp
            have hb4 : Below u4.heap.size u4 (v1.alloc (.cells #[.int .u64 0, .slice none 0 0] 27)) := hb1.alloc hb1.size _
            have kB := new_at v1 (.cells #[.int .u64 0, .slice none 0 0] 27) _ rfl
            have qB := hb1.size
            refine hK _ _ ⟨⟨_, hb4⟩, rfl⟩ ?_
            clear hK K
            obtain ⟨B, hB9⟩ : ∃ B, v1.heap.size = B := ⟨_, rfl⟩
            rw [hB9] at kB qB ⊢
            generalize (v1.alloc (.cells #[.int .u64 0, .slice none 0 0] 27)) = v4 at *
            have ltB := (Array.getElem?_eq_some_iff.1 kB).1
            refine wpP_eff rfl rfl rfl (fun K hK => ?_)
            go_simp
            refine ⟨trivial, (callsIn_wide.2 (HApp.out _ c_l v4 n_l ((a_l.later hb4).at_))).mono ?_⟩
            rintro e v5 ⟨hC, A6, c6, rfl, n6, a6⟩
            have hb5 : Below u4.heap.size u4 v5 := hb4.trans (hC.mono hb4.size)
            replace kB := keep kB hC
            replace a6 := a6.mono (show B + 1 ≤ _ from ltB)
            refine ⟨_, rfl, hK _ _ ⟨⟨_, hb5⟩, rfl⟩ ?_⟩
            clear hK K hC
            refine wpP_plain rfl rfl (fun K hK => ?_); go_simp; refine hK _ ?_; clear hK K
            refine wpP_plain rfl rfl (fun K hK => ?_); go_simp; refine hK _ ?_; clear hK K
            refine wpP_plain rfl rfl (fun K hK => ?_); go_simp; refine hK _ ?_; clear hK K
            have hP : Put v5 ((v5.setCell ⟨B, 0, none⟩ (.int .u64 (U p))).setCell ⟨B, 1, none⟩ (.slice A6 (N_l + 1) c6)) B (.cells #[.int .u64 (U p), .slice A6 (N_l + 1) c6] 27 (0, 0)) := ((Put.refl kB).set 0 _).set 1 _
            have a7 := (a6.put hP (Nat.lt_succ_self B)).mono (show u4.heap.size ≤ B + 1 by omega)
            have xB0 := cell_at kB 0
            have xB1 := cell_at kB 1
            have fB0 := free_at kB 0
            have fB1 := free_at kB 1
            have hlt9 := (Array.getElem?_eq_some_iff.1 kB).1
            have HP := Lib.hid hP
            have HA7 := Lib.hid a7
            clear hP a7 a6
            refine wpP_last rfl rfl rfl (fun K hK => ?_)
            go_simp
            refine hK _ _ ?_
            clear hK K xB0 xB1 fB0 fB1
            refine wpP_plain rfl rfl (fun K hK => ?_); go_simp; refine hK _ ?_; clear hK K
            refine wpP_done ?_
            refine ⟨rfl, B, A6, c6, rfl, hb5.trans (HP.out.below qB), qB, HP.out.get hlt9, Lib.hid ⟨n6, HA7.out⟩⟩
        · refine wpP_eff rfl rfl rfl (fun K hK => ?_)
          go_simp
          have hb6 : Below u4.heap.size u4 (u4.alloc (.cells #[.int .u64 0, .slice none 0 0] 27)).drew := ((Below.refl _ u4).alloc (Nat.le_refl _) _).drew
          have kB : (u4.alloc (.cells #[.int .u64 0, .slice none 0 0] 27)).drew.heap[u4.heap.size]? = some (.cells #[.int .u64 0, .slice none 0 0] 27 (0, 0)) := new_at u4 _ _ rfl
          have qB : u4.heap.size ≤ u4.heap.size := Nat.le_refl _
          refine hK _ _ ⟨⟨_, hb6⟩, rfl⟩ ?_
          clear hK K
          generalize (u4.alloc (.cells #[.int .u64 0, .slice none 0 0] 27)).drew = v6 at *
          have ltB := (Array.getElem?_eq_some_iff.1 kB).1
          refine wpP_eff rfl rfl rfl (fun K hK => ?_)
          go_simp
          refine ⟨trivial, (callsIn_wide.2 (HCut.out v6)).mono ?_⟩
          rintro e v7 ⟨rfl, hC⟩
          have hb7 : Below u4.heap.size u4 v7 := hb6.trans (hC.mono hb6.size)
          replace kB := keep kB hC
          replace ltB := (Array.getElem?_eq_some_iff.1 kB).1
          refine ⟨_, rfl, hK _ _ ⟨⟨_, hb7⟩, rfl⟩ ?_⟩
          clear hK K hC
          refine wpP_eff rfl rfl rfl (fun K hK => ?_)
          go_simp
          refine ⟨trivial, (callsIn_wide.2 (HApp.out _ c_l v7 n_l ((a_l.later hb7).at_))).mono ?_⟩
          rintro e v8 ⟨hC, A6, c6, rfl, n6, a6⟩
          have hb8 : Below u4.heap.size u4 v8 := hb7.trans (hC.mono hb7.size)
          replace kB := keep kB hC
          replace a6 := a6.mono (show u4.heap.size + 1 ≤ _ from ltB)
          refine ⟨_, rfl, hK _ _ ⟨⟨_, hb8⟩, rfl⟩ ?_⟩
          clear hK K hC
          refine wpP_plain rfl rfl (fun K hK => ?_); go_simp; refine hK _ ?_; clear hK K
          refine wpP_plain rfl rfl (fun K hK => ?_); go_simp; refine hK _ ?_; clear hK K
          refine wpP_plain rfl rfl (fun K hK => ?_); go_simp; refine hK _ ?_; clear hK K
          have hP : Put v8 ((v8.setCell ⟨u4.heap.size, 0, none⟩ (.int .u64 (U p))).setCell ⟨u4.heap.size, 1, none⟩ (.slice A6 (N_l + 1) c6)) u4.heap.size (.cells #[.int .u64 (U p), .slice A6 (N_l + 1) c6] 27 (0, 0)) := ((Put.refl kB).set 0 _).set 1 _
          have a7 := (a6.put hP (Nat.lt_succ_self u4.heap.size)).mono (show u4.heap.size ≤ u4.heap.size + 1 by omega)
          have xB0 := cell_at kB 0
          have xB1 := cell_at kB 1
          have fB0 := free_at kB 0
          have fB1 := free_at kB 1
          have hlt9 := (Array.getElem?_eq_some_iff.1 kB).1
          have HP := Lib.hid hP
          have HA7 := Lib.hid a7
          clear hP a7 a6
          refine wpP_last rfl rfl rfl (fun K hK => ?_)
          go_simp
          refine hK _ _ ?_
          clear hK K xB0 xB1 fB0 fB1
          refine wpP_plain rfl rfl (fun K hK => ?_); go_simp; refine hK _ ?_; clear hK K
          refine wpP_done ?_
          refine ⟨rfl, u4.heap.size, A6, c6, rfl, hb8.trans (HP.out.below qB), qB, HP.out.get hlt9, Lib.hid ⟨n6, HA7.out⟩⟩
      rintro b_m A_m c_m u5 ⟨hC, q_m, k_m, ⟨n_m, a_m⟩⟩
      clear l_k_0 l_k_1 l_l_0 l_l_1
      have lt_k_m : b_k < b_m := by have := (Array.getElem?_eq_some_iff.1 k_k).1; omega
      have lt_l_m : b_l < b_m := by have := (Array.getElem?_eq_some_iff.1 k_l).1; omega
      replace k_k := keep k_k hC
      replace k_l := keep k_l hC
      replace a_l := a_l.later hC
      replace hB := hB.trans (hC.mono hB.size)
      clear hC
      obtain ⟨g_m, o_m, cs_m, rfl, lo_m, hh_m, hf_m⟩ := a_m (by rw [HLn.out]; omega)
      have y := hf_m N_l (by rw [HLn.out]; omega)
      rw [HLast.out] at y
      obtain ⟨y0, y1, y2, y3⟩ := y
      clear hf_m
      have hk0 : (0 : Int) ≤ (N_l : Int) := by omega
      have hd1 : (N_l : Int) - 29 ≤ 0 := by omega
      have hd2 : IntKind.i64.wrap ((N_l : Int) - 29) = (N_l : Int) - 29 := by rw [IntKind.wrap_i64]; omega
      have hd3 : (N_l : Int) + 1 - 1 = (N_l : Int) := by omega
      have x_k_0 := cell_at k_k 0
      have x_k_1 := cell_at k_k 1
      have x_l_0 := cell_at k_l 0
      have x_l_1 := cell_at k_l 1
      have x_m_0 := cell_at k_m 0
      have x_m_1 := cell_at k_m 1
      go_wp2_with fail
      clear x_k_0 x_k_1 x_l_0 x_l_1 x_m_0 x_m_1 y0 y1 y2 y3 hd2
      refine (HRm.out _ _ _ a_m.at_).mono ?_
      rintro e u6 ⟨rfl, hC⟩
      replace k_k := keep k_k hC
      replace k_l := keep k_l hC
      replace a_l := a_l.later hC
      replace k_m := keep k_m hC
      replace a_m := a_m.later hC
      replace hB := hB.trans (hC.mono hB.size)
      clear hC
      have y := (a_m.at_ (by rw [HLn.out]; omega))
      obtain ⟨g9, o9, e9, lt9, hf9⟩ := y
      injection e9 with e9
      injection e9 with e8 e7 e6
      subst e8
      subst e7
      have y := hf9 N_l (by rw [HLn.out]; omega)
      rw [HLast.out] at y
      obtain ⟨y0, y1, y2, y3⟩ := y
      clear hf9 e6
      have x_m_1 := cell_at k_m 1
      have hd2 : IntKind.i64.wrap ((N_l : Int) + 1 - 1) = (N_l : Int) := by rw [IntKind.wrap_i64]; omega
      go_wp2_with fail
      clear x_m_1 y0 y1 y2 y3 hd2
      have hA : Below u6.heap.size u6 (u6.alloc (.cells #[.int .u64 (U n1), .int .u64 (U t), .string x, .int .u64 (U Sm)] 41)) := (Below.refl _ u6).alloc (Nat.le_refl _) _
      replace k_k := keep k_k hA
      replace k_l := keep k_l hA
      replace a_l := a_l.later hA
      replace k_m := keep k_m hA
      replace a_m := a_m.later hA
      replace hB := hB.trans (hA.mono hB.size)
      have k_x := new_at u6 (.cells #[.int .u64 (U n1), .int .u64 (U t), .string x, .int .u64 (U Sm)] 41) _ rfl
      obtain ⟨b_x, hb⟩ : ∃ b, u6.heap.size = b := ⟨_, rfl⟩
      rw [hb] at k_x ⊢
      clear hA hb
      generalize u6.alloc (.cells #[.int .u64 (U n1), .int .u64 (U t), .string x, .int .u64 (U Sm)] 41) = u7 at *
      have HAm := Lib.hid (fun s : Later u7.heap.size u7 => (a_m.later s.below).at_.take N_l)
      have HAl := Lib.hid (fun s : Later u7.heap.size u7 => (a_l.later s.below).at_)
      have hd2 : IntKind.i64.wrap ((N_l : Int) + 1 - 1) = (N_l : Int) := by rw [IntKind.wrap_i64]; omega
      have hcm : ((N_l : Int) : Int) ≤ (c_m : Int) := by omega
      refine wp_region_later u7.heap.size (by kernel_rfl) (by kernel_rfl) ?_
      have l_l_0 : ∀ s : Later u7.heap.size u7, s.W.cell? ⟨b_l, 0, none⟩ = some _ := fun s => s.cell (cell_at k_l 0) (Array.getElem?_eq_some_iff.1 k_l).1
      have l_l_1 : ∀ s : Later u7.heap.size u7, s.W.cell? ⟨b_l, 1, none⟩ = some _ := fun s => s.cell (cell_at k_l 1) (Array.getElem?_eq_some_iff.1 k_l).1
      have l_m_0 : ∀ s : Later u7.heap.size u7, s.W.cell? ⟨b_m, 0, none⟩ = some _ := fun s => s.cell (cell_at k_m 0) (Array.getElem?_eq_some_iff.1 k_m).1
      have l_m_1 : ∀ s : Later u7.heap.size u7, s.W.cell? ⟨b_m, 1, none⟩ = some _ := fun s => s.cell (cell_at k_m 1) (Array.getElem?_eq_some_iff.1 k_m).1
      repeat (go_big_quiet_step (first | (go_at_call 19; with_reducible first | exact Calls.later (Nat.le_refl _) (HEnt.out _ _ _ _ _ (HAm.out _) (HAl.out _)))))
      refine wpQuiet_nil ?_
      rintro _ ⟨s, rfl⟩
      clear l_l_0 l_l_1 l_m_0 l_m_1
      have hC := s.below
      replace k_k := keep k_k hC
      replace k_l := keep k_l hC
      replace a_l := a_l.later hC
      replace k_m := keep k_m hC
      replace a_m := a_m.later hC
      replace k_x := keep k_x hC
      replace hB := hB.trans (hC.mono hB.size)
      clear hC
      clear hd2
      have hadd := HAdd.out
      go_wp2_with fail
      have HBm := Lib.hid (fun s9 : Later s.W.heap.size s.W => (a_m.later s9.below).at_)
      have HBl := Lib.hid (fun s9 : Later s.W.heap.size s.W => (a_l.later s9.below).at_)
      refine wp_region_later s.W.heap.size (by kernel_rfl) (by kernel_rfl) ?_
      have l_k_0 : ∀ s : Later s.W.heap.size s.W, s.W.cell? ⟨b_k, 0, none⟩ = some _ := fun s => s.cell (cell_at k_k 0) (Array.getElem?_eq_some_iff.1 k_k).1
      have l_k_1 : ∀ s : Later s.W.heap.size s.W, s.W.cell? ⟨b_k, 1, none⟩ = some _ := fun s => s.cell (cell_at k_k 1) (Array.getElem?_eq_some_iff.1 k_k).1
      have l_l_0 : ∀ s : Later s.W.heap.size s.W, s.W.cell? ⟨b_l, 0, none⟩ = some _ := fun s => s.cell (cell_at k_l 0) (Array.getElem?_eq_some_iff.1 k_l).1
      have l_l_1 : ∀ s : Later s.W.heap.size s.W, s.W.cell? ⟨b_l, 1, none⟩ = some _ := fun s => s.cell (cell_at k_l 1) (Array.getElem?_eq_some_iff.1 k_l).1
      have l_m_0 : ∀ s : Later s.W.heap.size s.W, s.W.cell? ⟨b_m, 0, none⟩ = some _ := fun s => s.cell (cell_at k_m 0) (Array.getElem?_eq_some_iff.1 k_m).1
      have l_m_1 : ∀ s : Later s.W.heap.size s.W, s.W.cell? ⟨b_m, 1, none⟩ = some _ := fun s => s.cell (cell_at k_m 1) (Array.getElem?_eq_some_iff.1 k_m).1
      have l_x_0 : ∀ s : Later s.W.heap.size s.W, s.W.cell? ⟨b_x, 0, none⟩ = some _ := fun s => s.cell (cell_at k_x 0) (Array.getElem?_eq_some_iff.1 k_x).1
      have l_x_1 : ∀ s : Later s.W.heap.size s.W, s.W.cell? ⟨b_x, 1, none⟩ = some _ := fun s => s.cell (cell_at k_x 1) (Array.getElem?_eq_some_iff.1 k_x).1
      have l_x_2 : ∀ s : Later s.W.heap.size s.W, s.W.cell? ⟨b_x, 2, none⟩ = some _ := fun s => s.cell (cell_at k_x 2) (Array.getElem?_eq_some_iff.1 k_x).1
      have l_x_3 : ∀ s : Later s.W.heap.size s.W, s.W.cell? ⟨b_x, 3, none⟩ = some _ := fun s => s.cell (cell_at k_x 3) (Array.getElem?_eq_some_iff.1 k_x).1
      repeat (go_big_quiet_step (first | (go_at_call 20; with_reducible first | exact Calls.later (Nat.le_refl _) (HLl.out _ _ _ (HBl.out _)) | exact Calls.later (Nat.le_refl _) (HLm.out _ _ _ (HBm.out _))) | (go_at_call 22; with_reducible first | exact Calls.later (Nat.le_refl _) (HHl.out _ _ _ (HBl.out _)) | exact Calls.later (Nat.le_refl _) (HHm.out _ _ _ (HBm.out _))) | (go_at_call 13; with_reducible first | exact Calls.later (Nat.le_refl _) (HCut.out _)) | (go_at_call 21; with_reducible first | exact Calls.later (Nat.le_refl _) (HSum.out _))))
      refine wpQuiet_nil ?_
      rintro _ ⟨s, rfl⟩
      clear l_k_0 l_k_1 l_l_0 l_l_1 l_m_0 l_m_1 l_x_0 l_x_1 l_x_2 l_x_3
      have hC := s.below
      replace k_k := keep k_k hC
      replace k_l := keep k_l hC
      replace a_l := a_l.later hC
      replace k_m := keep k_m hC
      replace a_m := a_m.later hC
      replace k_x := keep k_x hC
      replace hB := hB.trans (hC.mono hB.size)
      clear hC
      clear hadd
      go_wp2_with fail
      go_ret
      exact ⟨rfl, hB⟩
    · obtain rfl : N_l = 30 := by omega
      have happ : appL a b p L_l t x = ⟨(nthE L_l 0).m, (L_l.drop 1 ++ [(⟨n1, t, x, Sm⟩ : Ent)])⟩ := by unfold appL; rw [if_pos hok, he]; exact putE_full _ _ _ HN_l.out
      have hlen : (L_l.drop 1 ++ [(⟨n1, t, x, Sm⟩ : Ent)]).length = 30 := by rw [List.length_append, List.length_drop, HN_l.out]; rfl
      have hr : rightE a b (nthE L_l 0).m (L_l.drop 1 ++ [(⟨n1, t, x, Sm⟩ : Ent)]) = true := by
        have h := rightE_iff.2 (app_right hok)
        rw [happ] at h
        exact h
      have hsz : ∀ j, j < 30 → (nthE (L_l.drop 1 ++ [(⟨n1, t, x, Sm⟩ : Ent)]) j).x.size ≤ 60000 := fun j hj => by
        by_cases hj2 : j < 29
        · rw [nthE_left _ _ _ (by rw [List.length_drop, HN_l.out]; omega)]
          rw [nthE_drop]; exact HS_l.out _ (by omega)
        · have e : j = ((L_l.drop 1)).length := by rw [List.length_drop, HN_l.out]; omega
          rw [e, nthE_last]
          exact (show x.size ≤ 60000 by omega)
      obtain ⟨f0, hf0⟩ : ∃ f0, (nthE L_l 0).m = f0 := ⟨_, rfl⟩
      rw [hf0] at happ hr
      have HApp := Lib.hid (fun A c W hc hA => Append_n (p' := f0) (l' := (L_l.drop 1 ++ [(⟨n1, t, x, Sm⟩ : Ent)])) (M := 30) (k := 0) A c happ (appC_ok hok) hlen HN_l.out (by omega) hc HS_l.out (by omega) W hA)
      have HRm := Lib.hid (fun A c W hA => by
        have h := Right_any a b f0 A c (L_l.drop 1 ++ [(⟨n1, t, x, Sm⟩ : Ent)]) 30 hlen (by omega) hsz W hA
        rw [hr] at h
        exact h)
      have HLl := Lib.hid (fun A c W hA => Last_any p A c L_l 30 HN_l.out (by omega) W hA)
      have HHl := Lib.hid (fun A c W hA => Head_any p A c L_l 30 HN_l.out (by omega) W hA)
      rw [hz] at HLl HHl
      have HLm := Lib.hid (fun A c W hA => Last_any f0 A c (L_l.drop 1 ++ [(⟨n1, t, x, Sm⟩ : Ent)]) 30 hlen (by omega) W hA)
      have HHm := Lib.hid (fun A c W hA => Head_any f0 A c (L_l.drop 1 ++ [(⟨n1, t, x, Sm⟩ : Ent)]) 30 hlen (by omega) W hA)
      rw [lastE_snoc] at HLm HHm
      have HEnt := Lib.hid (fun A A' c c' W hA hA' => by
        have h := entries_any A A' c c' ((L_l.drop 1 ++ [(⟨n1, t, x, Sm⟩ : Ent)]).take 29) ((L_l.drop 1)) 29 29 (by rw [List.length_take, hlen]; omega) (by rw [List.length_drop, HN_l.out]) (by omega) W hA hA'
        rw [show (L_l.drop 1 ++ [(⟨n1, t, x, Sm⟩ : Ent)]).take 29 = (L_l.drop 1) from by rw [List.take_left' (by rw [List.length_drop, HN_l.out])], decide_eq_true rfl] at h
        exact h)
      have HLast : Hid (nthE (L_l.drop 1 ++ [(⟨n1, t, x, Sm⟩ : Ent)]) 29 = ⟨n1, t, x, Sm⟩) := Lib.hid (by
        have h := nthE_last ((L_l.drop 1)) (⟨n1, t, x, Sm⟩ : Ent)
        rw [show ((L_l.drop 1)).length = 29 from by rw [List.length_drop, HN_l.out]] at h
        exact h)
      have HLn := Lib.hid hlen
      clear happ hlen hr hsz hok he hz hf0
      go_enter Try.func6, Try.ntmps6
      have hB : Below w.heap.size w w := Below.refl _ w
      go_wp2_with fail
      have hA : Below w.heap.size w ((w.alloc (.cells #[.int .u64 (U a), .int .u64 (U b)] 24)).alloc (.cells #[.int .u64 (U p), .slice A n0_l c] 27)) := ((Below.refl _ w).alloc (Nat.le_refl _) _).alloc (by simp) _
      have hq0 := hB.size
      replace hB := hB.trans (hA.mono hB.size)
      have k_k : ((w.alloc (.cells #[.int .u64 (U a), .int .u64 (U b)] 24)).alloc (.cells #[.int .u64 (U p), .slice A n0_l c] 27)).heap[w.heap.size]? = some (.cells #[.int .u64 (U a), .int .u64 (U b)] 24 (0, 0)) := old_at (new_at _ _ _ rfl)
      have k_l : ((w.alloc (.cells #[.int .u64 (U a), .int .u64 (U b)] 24)).alloc (.cells #[.int .u64 (U p), .slice A n0_l c] 27)).heap[w.heap.size + 1]? = some (.cells #[.int .u64 (U p), .slice A n0_l c] 27 (0, 0)) := new_at _ _ _ (by simp)
      obtain ⟨b_l, hb1⟩ : ∃ b, w.heap.size + 1 = b := ⟨_, rfl⟩
      have q_l : w.heap.size ≤ b_l := by omega
      rw [hb1] at k_l ⊢
      obtain ⟨b_k, hb0⟩ : ∃ b, w.heap.size = b := ⟨_, rfl⟩
      have q_k : w.heap.size ≤ b_k := by omega
      rw [hb0] at k_k ⊢
      have lt_k_l : b_k < b_l := by omega
      clear hA hq0 hb0 hb1
      generalize ((w.alloc (.cells #[.int .u64 (U a), .int .u64 (U b)] 24)).alloc (.cells #[.int .u64 (U p), .slice A n0_l c] 27)) = u1 at *
      refine (shown_any _).mono ?_
      rintro e u2 ⟨rfl, hC⟩
      replace k_k := keep k_k hC
      replace k_l := keep k_l hC
      replace hB := hB.trans (hC.mono hB.size)
      clear hC
      have x_l_0 := cell_at k_l 0
      have x_l_1 := cell_at k_l 1
      go_wp2_with fail
      clear x_l_0 x_l_1
      refine (HF_l.out _ ((HX.out.below hB).mono hB.size)).mono ?_
      rintro e u3 ⟨hC, A_l, c_l, rfl, n_l, a_l⟩
      replace a_l := a_l.mono (show b_l + 1 ≤ _ from (Array.getElem?_eq_some_iff.1 k_l).1)
      replace k_k := keep k_k hC
      replace k_l := keep k_l hC
      replace hB := hB.trans (hC.mono hB.size)
      clear hC
      have x_l_0 := cell_at k_l 0
      have fr_0 := free_at k_l 0
      have x_l_1 := cell_at k_l 1
      have fr_1 := free_at k_l 1
      have hP : Put u3 ((u3.setCell ⟨b_l, 0, none⟩ (.int .u64 (U p))).setCell ⟨b_l, 1, none⟩ (.slice A_l 30 c_l)) b_l (.cells #[.int .u64 (U p), .slice A_l 30 c_l] 27 (0, 0)) := ((Put.refl k_l).set 0 (.int .u64 (U p))).set 1 (.slice A_l 30 c_l)
      have HP := Lib.hid hP
      clear hP
      go_wp2_with fail
      clear x_l_0 x_l_1 fr_0 fr_1
      have hP := HP.out
      replace hB := hB.trans (hP.below (by omega))
      replace k_k := (hP.other (by omega)).trans k_k
      replace a_l := a_l.put hP (by omega)
      replace k_l := hP.get (Array.getElem?_eq_some_iff.1 k_l).1
      clear hP HP
      generalize ((u3.setCell ⟨b_l, 0, none⟩ (.int .u64 (U p))).setCell ⟨b_l, 1, none⟩ (.slice A_l 30 c_l)) = u4 at *
      clear u3
      have l_k_0 : ∀ s : Later u4.heap.size u4, s.W.cell? ⟨b_k, 0, none⟩ = some _ := fun s => s.cell (cell_at k_k 0) (Array.getElem?_eq_some_iff.1 k_k).1
      have l_k_1 : ∀ s : Later u4.heap.size u4, s.W.cell? ⟨b_k, 1, none⟩ = some _ := fun s => s.cell (cell_at k_k 1) (Array.getElem?_eq_some_iff.1 k_k).1
      have l_l_0 : ∀ s : Later u4.heap.size u4, s.W.cell? ⟨b_l, 0, none⟩ = some _ := fun s => s.cell (cell_at k_l 0) (Array.getElem?_eq_some_iff.1 k_l).1
      have l_l_1 : ∀ s : Later u4.heap.size u4, s.W.cell? ⟨b_l, 1, none⟩ = some _ := fun s => s.cell (cell_at k_l 1) (Array.getElem?_eq_some_iff.1 k_l).1
      refine wp_join_f3 ?f_m1 (fun (B : Nat) (A6 : Option Addr) (c6 : Nat) W => Below u4.heap.size u4 W ∧ u4.heap.size ≤ B ∧ W.heap[B]? = some (.cells #[.int .u64 (U f0), .slice A6 30 c6] 27 (0, 0)) ∧ Hid (30 ≤ c6 ∧ LieE W u4.heap.size A6 (L_l.drop 1 ++ [(⟨n1, t, x, Sm⟩ : Ent)]))) ?h_m1 ?k_m1
      case h_m1 =>
        refine region_plan_plain (C := fun W' => ∃ s : Later u4.heap.size u4, W' = s.W) [0, 0, 3, 3, 1, 1, 3, 3, 3, 1, 2, 3] (.calm 0 (.calm 1 (.calm 2 (.calm 3 (.fork 4 (.fork 5 (.calm 6 (.calm 7 (.calm 8 (.one 9 (.one 10 (.calm 11 .done)))))) 9 (.one 5 (.calm 6 (.calm 7 (.calm 8 (.one 10 (.calm 11 .done))))))) 9 (.one 4 (.one 5 (.calm 6 (.calm 7 (.calm 8 (.one 10 (.calm 11 .done)))))))))))) (by kernel_rfl) (by kernel_rfl) (by kernel_rfl) (by kernel_rfl) (by kernel_rfl) ⟨⟨u4.drew, (Below.refl _ u4).drew⟩, rfl⟩ ?_
        have hb0 : Below u4.heap.size u4 u4.drew := (Below.refl _ u4).drew
        refine wpP_calm rfl rfl (fun K hK => ?_); go_simp; refine hK _ ?_; clear hK K
        refine wpP_calm rfl rfl (fun K hK => ?_); go_simp; refine hK _ ?_; clear hK K
        refine wpP_plain rfl rfl (fun K hK => ?_); go_simp; refine hK _ ?_; clear hK K
        refine wpP_plain rfl rfl (fun K hK => ?_); go_simp; refine hK _ ?_; clear hK K
        refine wpP_fork ?_ ?_
        · refine wpP_eff rfl rfl rfl (fun K hK => ?_)
          go_simp
          refine ⟨trivial, (callsIn_wide.2 (HCut.out u4.drew)).mono ?_⟩
          rintro e v1 ⟨rfl, hC⟩
          have hb1 : Below u4.heap.size u4 v1 := hb0.trans (hC.mono hb0.size)
          refine ⟨_, rfl, hK _ _ ⟨⟨_, hb1⟩, rfl⟩ ?_⟩
          clear hK K hC
          refine wpP_fork ?_ ?_
          · refine wpP_eff rfl rfl rfl (fun K hK => ?_)
            go_simp
            refine ⟨trivial, (callsIn_wide.2 (HApp.out _ c_l v1 n_l ((a_l.later hb1).at_))).mono ?_⟩
            rintro e v2 ⟨hC, A6, c6, rfl, n6, a6⟩
            have hb2 : Below u4.heap.size u4 v2 := hb1.trans (hC.mono hb1.size)
            replace a6 := a6.mono hb1.size
            refine ⟨_, rfl, hK _ _ ⟨⟨_, hb2⟩, rfl⟩ ?_⟩
            clear hK K hC
            refine wpP_plain rfl rfl (fun K hK => ?_); go_simp; refine hK _ ?_; clear hK K
            refine wpP_plain rfl rfl (fun K hK => ?_); go_simp; refine hK _ ?_; clear hK K
            refine wpP_plain rfl rfl (fun K hK => ?_); go_simp; refine hK _ ?_; clear hK K
            refine wpP_eff rfl rfl rfl (fun K hK => ?_)
            go_simp
            have hb3 : Below u4.heap.size u4 (v2.alloc (.cells #[.int .u64 0, .slice none 0 0] 27)) := hb2.alloc hb2.size _
            have kB := new_at v2 (.cells #[.int .u64 0, .slice none 0 0] 27) _ rfl
            have qB := hb2.size
            refine hK _ _ ⟨⟨_, hb3⟩, rfl⟩ ?_
            clear hK K
            have hb39 := hb2
            obtain ⟨B, hB9⟩ : ∃ B, v2.heap.size = B := ⟨_, rfl⟩
            have hbn : Below u4.heap.size u4 (v2.alloc (.cells #[.int .u64 (U f0), .slice A6 30 c6] 27)) := hb39.alloc hb39.size _
            have kBn := new_at v2 (.cells #[.int .u64 (U f0), .slice A6 30 c6] 27) _ rfl
            have a7 := a6.later ((Below.refl _ v2).alloc (Nat.le_refl _) (.cells #[.int .u64 (U f0), .slice A6 30 c6] 27))
            have xB0 := cell_at kB 0
            have xB1 := cell_at kB 1
            have fB0 := free_at kB 0
            have fB1 := free_at kB 1
            rw [hB9] at kB qB xB0 xB1 fB0 fB1 kBn
            rw [hB9]
            have HbN := Lib.hid hbn
            have HkN := Lib.hid kBn
            have HA7 := Lib.hid a7
            clear hbn kBn a7 a6
            refine wpP_last rfl rfl rfl (fun K hK => ?_)
            go_simp
            refine hK _ _ ?_
            clear hK K xB0 xB1 fB0 fB1
            refine wpP_plain rfl rfl (fun K hK => ?_); go_simp; refine hK _ ?_; clear hK K
            refine wpP_done ?_
            refine ⟨rfl, B, A6, c6, ?_, HbN.out, qB, HkN.out, Lib.hid ⟨n6, HA7.out⟩⟩
            rfl
          · refine wpP_eff rfl rfl rfl (fun K hK => ?_)
            go_simp
            have hb4 : Below u4.heap.size u4 (v1.alloc (.cells #[.int .u64 0, .slice none 0 0] 27)) := hb1.alloc hb1.size _
            have kB := new_at v1 (.cells #[.int .u64 0, .slice none 0 0] 27) _ rfl
            have qB := hb1.size
            refine hK _ _ ⟨⟨_, hb4⟩, rfl⟩ ?_
            clear hK K
            obtain ⟨B, hB9⟩ : ∃ B, v1.heap.size = B := ⟨_, rfl⟩
            rw [hB9] at kB qB ⊢
            generalize (v1.alloc (.cells #[.int .u64 0, .slice none 0 0] 27)) = v4 at *
            have ltB := (Array.getElem?_eq_some_iff.1 kB).1
            refine wpP_eff rfl rfl rfl (fun K hK => ?_)
            go_simp
            refine ⟨trivial, (callsIn_wide.2 (HApp.out _ c_l v4 n_l ((a_l.later hb4).at_))).mono ?_⟩
            rintro e v5 ⟨hC, A6, c6, rfl, n6, a6⟩
            have hb5 : Below u4.heap.size u4 v5 := hb4.trans (hC.mono hb4.size)
            replace kB := keep kB hC
            replace a6 := a6.mono (show B + 1 ≤ _ from ltB)
            refine ⟨_, rfl, hK _ _ ⟨⟨_, hb5⟩, rfl⟩ ?_⟩
            clear hK K hC
            refine wpP_plain rfl rfl (fun K hK => ?_); go_simp; refine hK _ ?_; clear hK K
            refine wpP_plain rfl rfl (fun K hK => ?_); go_simp; refine hK _ ?_; clear hK K
            refine wpP_plain rfl rfl (fun K hK => ?_); go_simp; refine hK _ ?_; clear hK K
            have hP : Put v5 ((v5.setCell ⟨B, 0, none⟩ (.int .u64 (U f0))).setCell ⟨B, 1, none⟩ (.slice A6 30 c6)) B (.cells #[.int .u64 (U f0), .slice A6 30 c6] 27 (0, 0)) := ((Put.refl kB).set 0 _).set 1 _
            have a7 := (a6.put hP (Nat.lt_succ_self B)).mono (show u4.heap.size ≤ B + 1 by omega)
            have xB0 := cell_at kB 0
            have xB1 := cell_at kB 1
            have fB0 := free_at kB 0
            have fB1 := free_at kB 1
            have hlt9 := (Array.getElem?_eq_some_iff.1 kB).1
            have HP := Lib.hid hP
            have HA7 := Lib.hid a7
            clear hP a7 a6
            refine wpP_last rfl rfl rfl (fun K hK => ?_)
            go_simp
            refine hK _ _ ?_
            clear hK K xB0 xB1 fB0 fB1
            refine wpP_plain rfl rfl (fun K hK => ?_); go_simp; refine hK _ ?_; clear hK K
            refine wpP_done ?_
            refine ⟨rfl, B, A6, c6, rfl, hb5.trans (HP.out.below qB), qB, HP.out.get hlt9, Lib.hid ⟨n6, HA7.out⟩⟩
        · refine wpP_eff rfl rfl rfl (fun K hK => ?_)
          go_simp
          have hb6 : Below u4.heap.size u4 (u4.alloc (.cells #[.int .u64 0, .slice none 0 0] 27)).drew := ((Below.refl _ u4).alloc (Nat.le_refl _) _).drew
          have kB : (u4.alloc (.cells #[.int .u64 0, .slice none 0 0] 27)).drew.heap[u4.heap.size]? = some (.cells #[.int .u64 0, .slice none 0 0] 27 (0, 0)) := new_at u4 _ _ rfl
          have qB : u4.heap.size ≤ u4.heap.size := Nat.le_refl _
          refine hK _ _ ⟨⟨_, hb6⟩, rfl⟩ ?_
          clear hK K
          generalize (u4.alloc (.cells #[.int .u64 0, .slice none 0 0] 27)).drew = v6 at *
          have ltB := (Array.getElem?_eq_some_iff.1 kB).1
          refine wpP_eff rfl rfl rfl (fun K hK => ?_)
          go_simp
          refine ⟨trivial, (callsIn_wide.2 (HCut.out v6)).mono ?_⟩
          rintro e v7 ⟨rfl, hC⟩
          have hb7 : Below u4.heap.size u4 v7 := hb6.trans (hC.mono hb6.size)
          replace kB := keep kB hC
          replace ltB := (Array.getElem?_eq_some_iff.1 kB).1
          refine ⟨_, rfl, hK _ _ ⟨⟨_, hb7⟩, rfl⟩ ?_⟩
          clear hK K hC
          refine wpP_eff rfl rfl rfl (fun K hK => ?_)
          go_simp
          refine ⟨trivial, (callsIn_wide.2 (HApp.out _ c_l v7 n_l ((a_l.later hb7).at_))).mono ?_⟩
          rintro e v8 ⟨hC, A6, c6, rfl, n6, a6⟩
          have hb8 : Below u4.heap.size u4 v8 := hb7.trans (hC.mono hb7.size)
          replace kB := keep kB hC
          replace a6 := a6.mono (show u4.heap.size + 1 ≤ _ from ltB)
          refine ⟨_, rfl, hK _ _ ⟨⟨_, hb8⟩, rfl⟩ ?_⟩
          clear hK K hC
          refine wpP_plain rfl rfl (fun K hK => ?_); go_simp; refine hK _ ?_; clear hK K
          refine wpP_plain rfl rfl (fun K hK => ?_); go_simp; refine hK _ ?_; clear hK K
          refine wpP_plain rfl rfl (fun K hK => ?_); go_simp; refine hK _ ?_; clear hK K
          have hP : Put v8 ((v8.setCell ⟨u4.heap.size, 0, none⟩ (.int .u64 (U f0))).setCell ⟨u4.heap.size, 1, none⟩ (.slice A6 30 c6)) u4.heap.size (.cells #[.int .u64 (U f0), .slice A6 30 c6] 27 (0, 0)) := ((Put.refl kB).set 0 _).set 1 _
          have a7 := (a6.put hP (Nat.lt_succ_self u4.heap.size)).mono (show u4.heap.size ≤ u4.heap.size + 1 by omega)
          have xB0 := cell_at kB 0
          have xB1 := cell_at kB 1
          have fB0 := free_at kB 0
          have fB1 := free_at kB 1
          have hlt9 := (Array.getElem?_eq_some_iff.1 kB).1
          have HP := Lib.hid hP
          have HA7 := Lib.hid a7
          clear hP a7 a6
          refine wpP_last rfl rfl rfl (fun K hK => ?_)
          go_simp
          refine hK _ _ ?_
          clear hK K xB0 xB1 fB0 fB1
          refine wpP_plain rfl rfl (fun K hK => ?_); go_simp; refine hK _ ?_; clear hK K
          refine wpP_done ?_
          refine ⟨rfl, u4.heap.size, A6, c6, rfl, hb8.trans (HP.out.below qB), qB, HP.out.get hlt9, Lib.hid ⟨n6, HA7.out⟩⟩
      rintro b_m A_m c_m u5 ⟨hC, q_m, k_m, ⟨n_m, a_m⟩⟩
      clear l_k_0 l_k_1 l_l_0 l_l_1
      have lt_k_m : b_k < b_m := by have := (Array.getElem?_eq_some_iff.1 k_k).1; omega
      have lt_l_m : b_l < b_m := by have := (Array.getElem?_eq_some_iff.1 k_l).1; omega
      replace k_k := keep k_k hC
      replace k_l := keep k_l hC
      replace a_l := a_l.later hC
      replace hB := hB.trans (hC.mono hB.size)
      clear hC
      obtain ⟨g_m, o_m, cs_m, rfl, lo_m, hh_m, hf_m⟩ := a_m (by rw [HLn.out]; omega)
      have y := hf_m 29 (by rw [HLn.out]; omega)
      rw [HLast.out] at y
      obtain ⟨y0, y1, y2, y3⟩ := y
      clear hf_m
      have x_k_0 := cell_at k_k 0
      have x_k_1 := cell_at k_k 1
      have x_l_0 := cell_at k_l 0
      have x_l_1 := cell_at k_l 1
      have x_m_0 := cell_at k_m 0
      have x_m_1 := cell_at k_m 1
      go_wp2_with fail
      clear x_k_0 x_k_1 x_l_0 x_l_1 x_m_0 x_m_1 y0 y1 y2 y3
      refine (HRm.out _ _ _ a_m.at_).mono ?_
      rintro e u6 ⟨rfl, hC⟩
      replace k_k := keep k_k hC
      replace k_l := keep k_l hC
      replace a_l := a_l.later hC
      replace k_m := keep k_m hC
      replace a_m := a_m.later hC
      replace hB := hB.trans (hC.mono hB.size)
      clear hC
      have y := (a_m.at_ (by rw [HLn.out]; omega))
      obtain ⟨g9, o9, e9, lt9, hf9⟩ := y
      injection e9 with e9
      injection e9 with e8 e7 e6
      subst e8
      subst e7
      have y := hf9 29 (by rw [HLn.out]; omega)
      rw [HLast.out] at y
      obtain ⟨y0, y1, y2, y3⟩ := y
      clear hf9 e6
      have x_m_1 := cell_at k_m 1
      go_wp2_with fail
      clear x_m_1 y0 y1 y2 y3
      have hA : Below u6.heap.size u6 (u6.alloc (.cells #[.int .u64 (U n1), .int .u64 (U t), .string x, .int .u64 (U Sm)] 41)) := (Below.refl _ u6).alloc (Nat.le_refl _) _
      replace k_k := keep k_k hA
      replace k_l := keep k_l hA
      replace a_l := a_l.later hA
      replace k_m := keep k_m hA
      replace a_m := a_m.later hA
      replace hB := hB.trans (hA.mono hB.size)
      have k_x := new_at u6 (.cells #[.int .u64 (U n1), .int .u64 (U t), .string x, .int .u64 (U Sm)] 41) _ rfl
      obtain ⟨b_x, hb⟩ : ∃ b, u6.heap.size = b := ⟨_, rfl⟩
      rw [hb] at k_x ⊢
      clear hA hb
      generalize u6.alloc (.cells #[.int .u64 (U n1), .int .u64 (U t), .string x, .int .u64 (U Sm)] 41) = u7 at *
      have HAm := Lib.hid (fun s : Later u7.heap.size u7 => (a_m.later s.below).at_.take 29)
      obtain ⟨g_l, o_l, -, rfl, -, -, -⟩ := a_l (by rw [HN_l.out]; omega)
      have HAl := Lib.hid (fun s : Later u7.heap.size u7 => (a_l.later s.below).at_.drop 1)
      have hcl : ¬ c_l = 1 := by omega
      have hcm : (29 : Int) ≤ (c_m : Int) := by omega
      refine wp_region_later u7.heap.size (by kernel_rfl) (by kernel_rfl) ?_
      have l_l_0 : ∀ s : Later u7.heap.size u7, s.W.cell? ⟨b_l, 0, none⟩ = some _ := fun s => s.cell (cell_at k_l 0) (Array.getElem?_eq_some_iff.1 k_l).1
      have l_l_1 : ∀ s : Later u7.heap.size u7, s.W.cell? ⟨b_l, 1, none⟩ = some _ := fun s => s.cell (cell_at k_l 1) (Array.getElem?_eq_some_iff.1 k_l).1
      have l_m_0 : ∀ s : Later u7.heap.size u7, s.W.cell? ⟨b_m, 0, none⟩ = some _ := fun s => s.cell (cell_at k_m 0) (Array.getElem?_eq_some_iff.1 k_m).1
      have l_m_1 : ∀ s : Later u7.heap.size u7, s.W.cell? ⟨b_m, 1, none⟩ = some _ := fun s => s.cell (cell_at k_m 1) (Array.getElem?_eq_some_iff.1 k_m).1
      repeat (go_big_quiet_step (first | (go_at_call 19; with_reducible first | exact Calls.later (Nat.le_refl _) (HEnt.out _ _ _ _ _ (HAm.out _) (HAl.out _)))))
      refine wpQuiet_nil ?_
      rintro _ ⟨s, rfl⟩
      clear l_l_0 l_l_1 l_m_0 l_m_1
      have hC := s.below
      replace k_k := keep k_k hC
      replace k_l := keep k_l hC
      replace a_l := a_l.later hC
      replace k_m := keep k_m hC
      replace a_m := a_m.later hC
      replace k_x := keep k_x hC
      replace hB := hB.trans (hC.mono hB.size)
      clear hC
      have hadd := HAdd.out
      go_wp2_with fail
      have HBm := Lib.hid (fun s9 : Later s.W.heap.size s.W => (a_m.later s9.below).at_)
      have HBl := Lib.hid (fun s9 : Later s.W.heap.size s.W => (a_l.later s9.below).at_)
      refine wp_region_later s.W.heap.size (by kernel_rfl) (by kernel_rfl) ?_
      have l_k_0 : ∀ s : Later s.W.heap.size s.W, s.W.cell? ⟨b_k, 0, none⟩ = some _ := fun s => s.cell (cell_at k_k 0) (Array.getElem?_eq_some_iff.1 k_k).1
      have l_k_1 : ∀ s : Later s.W.heap.size s.W, s.W.cell? ⟨b_k, 1, none⟩ = some _ := fun s => s.cell (cell_at k_k 1) (Array.getElem?_eq_some_iff.1 k_k).1
      have l_l_0 : ∀ s : Later s.W.heap.size s.W, s.W.cell? ⟨b_l, 0, none⟩ = some _ := fun s => s.cell (cell_at k_l 0) (Array.getElem?_eq_some_iff.1 k_l).1
      have l_l_1 : ∀ s : Later s.W.heap.size s.W, s.W.cell? ⟨b_l, 1, none⟩ = some _ := fun s => s.cell (cell_at k_l 1) (Array.getElem?_eq_some_iff.1 k_l).1
      have l_m_0 : ∀ s : Later s.W.heap.size s.W, s.W.cell? ⟨b_m, 0, none⟩ = some _ := fun s => s.cell (cell_at k_m 0) (Array.getElem?_eq_some_iff.1 k_m).1
      have l_m_1 : ∀ s : Later s.W.heap.size s.W, s.W.cell? ⟨b_m, 1, none⟩ = some _ := fun s => s.cell (cell_at k_m 1) (Array.getElem?_eq_some_iff.1 k_m).1
      have l_x_0 : ∀ s : Later s.W.heap.size s.W, s.W.cell? ⟨b_x, 0, none⟩ = some _ := fun s => s.cell (cell_at k_x 0) (Array.getElem?_eq_some_iff.1 k_x).1
      have l_x_1 : ∀ s : Later s.W.heap.size s.W, s.W.cell? ⟨b_x, 1, none⟩ = some _ := fun s => s.cell (cell_at k_x 1) (Array.getElem?_eq_some_iff.1 k_x).1
      have l_x_2 : ∀ s : Later s.W.heap.size s.W, s.W.cell? ⟨b_x, 2, none⟩ = some _ := fun s => s.cell (cell_at k_x 2) (Array.getElem?_eq_some_iff.1 k_x).1
      have l_x_3 : ∀ s : Later s.W.heap.size s.W, s.W.cell? ⟨b_x, 3, none⟩ = some _ := fun s => s.cell (cell_at k_x 3) (Array.getElem?_eq_some_iff.1 k_x).1
      repeat (go_big_quiet_step (first | (go_at_call 20; with_reducible first | exact Calls.later (Nat.le_refl _) (HLl.out _ _ _ (HBl.out _)) | exact Calls.later (Nat.le_refl _) (HLm.out _ _ _ (HBm.out _))) | (go_at_call 22; with_reducible first | exact Calls.later (Nat.le_refl _) (HHl.out _ _ _ (HBl.out _)) | exact Calls.later (Nat.le_refl _) (HHm.out _ _ _ (HBm.out _))) | (go_at_call 13; with_reducible first | exact Calls.later (Nat.le_refl _) (HCut.out _)) | (go_at_call 21; with_reducible first | exact Calls.later (Nat.le_refl _) (HSum.out _))))
      refine wpQuiet_nil ?_
      rintro _ ⟨s, rfl⟩
      clear l_k_0 l_k_1 l_l_0 l_l_1 l_m_0 l_m_1 l_x_0 l_x_1 l_x_2 l_x_3
      have hC := s.below
      replace k_k := keep k_k hC
      replace k_l := keep k_l hC
      replace a_l := a_l.later hC
      replace k_m := keep k_m hC
      replace a_m := a_m.later hC
      replace k_x := keep k_x hC
      replace hB := hB.trans (hC.mono hB.size)
      clear hC
      clear hadd
      go_wp2_with fail
      go_ret
      exact ⟨rfl, hB⟩
  · obtain ⟨q1, q2⟩ := app_none hok
    have HApp := Lib.hid (fun A c W hc hA => Append_n (p' := 0#64) (l' := []) (M := 0) (k := 160) A c q1 q2 rfl HN_l.out (by omega) hc HS_l.out (by omega) W hA)
    clear q1 q2 hok
    go_enter Try.func6, Try.ntmps6
    have hB : Below w.heap.size w w := Below.refl _ w
    go_wp2_with fail
    have hA : Below w.heap.size w ((w.alloc (.cells #[.int .u64 (U a), .int .u64 (U b)] 24)).alloc (.cells #[.int .u64 (U p), .slice A n0_l c] 27)) := ((Below.refl _ w).alloc (Nat.le_refl _) _).alloc (by simp) _
    have hq0 := hB.size
    replace hB := hB.trans (hA.mono hB.size)
    have k_k : ((w.alloc (.cells #[.int .u64 (U a), .int .u64 (U b)] 24)).alloc (.cells #[.int .u64 (U p), .slice A n0_l c] 27)).heap[w.heap.size]? = some (.cells #[.int .u64 (U a), .int .u64 (U b)] 24 (0, 0)) := old_at (new_at _ _ _ rfl)
    have k_l : ((w.alloc (.cells #[.int .u64 (U a), .int .u64 (U b)] 24)).alloc (.cells #[.int .u64 (U p), .slice A n0_l c] 27)).heap[w.heap.size + 1]? = some (.cells #[.int .u64 (U p), .slice A n0_l c] 27 (0, 0)) := new_at _ _ _ (by simp)
    obtain ⟨b_l, hb1⟩ : ∃ b, w.heap.size + 1 = b := ⟨_, rfl⟩
    have q_l : w.heap.size ≤ b_l := by omega
    rw [hb1] at k_l ⊢
    obtain ⟨b_k, hb0⟩ : ∃ b, w.heap.size = b := ⟨_, rfl⟩
    have q_k : w.heap.size ≤ b_k := by omega
    rw [hb0] at k_k ⊢
    have lt_k_l : b_k < b_l := by omega
    clear hA hq0 hb0 hb1
    generalize ((w.alloc (.cells #[.int .u64 (U a), .int .u64 (U b)] 24)).alloc (.cells #[.int .u64 (U p), .slice A n0_l c] 27)) = u1 at *
    refine (shown_any _).mono ?_
    rintro e u2 ⟨rfl, hC⟩
    replace k_k := keep k_k hC
    replace k_l := keep k_l hC
    replace hB := hB.trans (hC.mono hB.size)
    clear hC
    have x_l_0 := cell_at k_l 0
    have x_l_1 := cell_at k_l 1
    go_wp2_with fail
    clear x_l_0 x_l_1
    refine (HF_l.out _ ((HX.out.below hB).mono hB.size)).mono ?_
    rintro e u3 ⟨hC, A_l, c_l, rfl, n_l, a_l⟩
    replace a_l := a_l.mono (show b_l + 1 ≤ _ from (Array.getElem?_eq_some_iff.1 k_l).1)
    replace k_k := keep k_k hC
    replace k_l := keep k_l hC
    replace hB := hB.trans (hC.mono hB.size)
    clear hC
    have x_l_0 := cell_at k_l 0
    have fr_0 := free_at k_l 0
    have x_l_1 := cell_at k_l 1
    have fr_1 := free_at k_l 1
    have hP : Put u3 ((u3.setCell ⟨b_l, 0, none⟩ (.int .u64 (U p))).setCell ⟨b_l, 1, none⟩ (.slice A_l N_l c_l)) b_l (.cells #[.int .u64 (U p), .slice A_l N_l c_l] 27 (0, 0)) := ((Put.refl k_l).set 0 (.int .u64 (U p))).set 1 (.slice A_l N_l c_l)
    have HP := Lib.hid hP
    clear hP
    go_wp2_with fail
    clear x_l_0 x_l_1 fr_0 fr_1
    have hP := HP.out
    replace hB := hB.trans (hP.below (by omega))
    replace k_k := (hP.other (by omega)).trans k_k
    replace a_l := a_l.put hP (by omega)
    replace k_l := hP.get (Array.getElem?_eq_some_iff.1 k_l).1
    clear hP HP
    generalize ((u3.setCell ⟨b_l, 0, none⟩ (.int .u64 (U p))).setCell ⟨b_l, 1, none⟩ (.slice A_l N_l c_l)) = u4 at *
    clear u3
    have l_k_0 : ∀ s : Later u4.heap.size u4, s.W.cell? ⟨b_k, 0, none⟩ = some _ := fun s => s.cell (cell_at k_k 0) (Array.getElem?_eq_some_iff.1 k_k).1
    have l_k_1 : ∀ s : Later u4.heap.size u4, s.W.cell? ⟨b_k, 1, none⟩ = some _ := fun s => s.cell (cell_at k_k 1) (Array.getElem?_eq_some_iff.1 k_k).1
    have l_l_0 : ∀ s : Later u4.heap.size u4, s.W.cell? ⟨b_l, 0, none⟩ = some _ := fun s => s.cell (cell_at k_l 0) (Array.getElem?_eq_some_iff.1 k_l).1
    have l_l_1 : ∀ s : Later u4.heap.size u4, s.W.cell? ⟨b_l, 1, none⟩ = some _ := fun s => s.cell (cell_at k_l 1) (Array.getElem?_eq_some_iff.1 k_l).1
    refine wp_join_f3 ?f_m2 (fun (B : Nat) (A6 : Option Addr) (c6 : Nat) W => Below u4.heap.size u4 W ∧ u4.heap.size ≤ B ∧ W.heap[B]? = some (.cells #[.int .u64 (U 0#64), .slice A6 0 c6] 27 (0, 0)) ∧ Hid (0 ≤ c6 ∧ LieE W u4.heap.size A6 [])) ?h_m2 ?k_m2
    case h_m2 =>
      refine region_plan_plain (C := fun W' => ∃ s : Later u4.heap.size u4, W' = s.W) [0, 0, 3, 3, 1, 1, 3, 3, 3, 1, 2, 3] (.calm 0 (.calm 1 (.calm 2 (.calm 3 (.fork 4 (.fork 5 (.calm 6 (.calm 7 (.calm 8 (.one 9 (.one 10 (.calm 11 .done)))))) 9 (.one 5 (.calm 6 (.calm 7 (.calm 8 (.one 10 (.calm 11 .done))))))) 9 (.one 4 (.one 5 (.calm 6 (.calm 7 (.calm 8 (.one 10 (.calm 11 .done)))))))))))) (by kernel_rfl) (by kernel_rfl) (by kernel_rfl) (by kernel_rfl) (by kernel_rfl) ⟨⟨u4.drew, (Below.refl _ u4).drew⟩, rfl⟩ ?_
      have hb0 : Below u4.heap.size u4 u4.drew := (Below.refl _ u4).drew
      refine wpP_calm rfl rfl (fun K hK => ?_); go_simp; refine hK _ ?_; clear hK K
      refine wpP_calm rfl rfl (fun K hK => ?_); go_simp; refine hK _ ?_; clear hK K
      refine wpP_plain rfl rfl (fun K hK => ?_); go_simp; refine hK _ ?_; clear hK K
      refine wpP_plain rfl rfl (fun K hK => ?_); go_simp; refine hK _ ?_; clear hK K
      refine wpP_fork ?_ ?_
      · refine wpP_eff rfl rfl rfl (fun K hK => ?_)
        go_simp
        refine ⟨trivial, (callsIn_wide.2 (HCut.out u4.drew)).mono ?_⟩
        rintro e v1 ⟨rfl, hC⟩
        have hb1 : Below u4.heap.size u4 v1 := hb0.trans (hC.mono hb0.size)
        refine ⟨_, rfl, hK _ _ ⟨⟨_, hb1⟩, rfl⟩ ?_⟩
        clear hK K hC
        refine wpP_fork ?_ ?_
        · refine wpP_eff rfl rfl rfl (fun K hK => ?_)
          go_simp
          refine ⟨trivial, (callsIn_wide.2 (HApp.out _ c_l v1 n_l ((a_l.later hb1).at_))).mono ?_⟩
          rintro e v2 ⟨hC, A6, c6, rfl, n6, a6⟩
          have hb2 : Below u4.heap.size u4 v2 := hb1.trans (hC.mono hb1.size)
          replace a6 := a6.mono hb1.size
          refine ⟨_, rfl, hK _ _ ⟨⟨_, hb2⟩, rfl⟩ ?_⟩
          clear hK K hC
          refine wpP_plain rfl rfl (fun K hK => ?_); go_simp; refine hK _ ?_; clear hK K
          refine wpP_plain rfl rfl (fun K hK => ?_); go_simp; refine hK _ ?_; clear hK K
          refine wpP_plain rfl rfl (fun K hK => ?_); go_simp; refine hK _ ?_; clear hK K
          refine wpP_eff rfl rfl rfl (fun K hK => ?_)
          go_simp
          have hb3 : Below u4.heap.size u4 (v2.alloc (.cells #[.int .u64 0, .slice none 0 0] 27)) := hb2.alloc hb2.size _
          have kB := new_at v2 (.cells #[.int .u64 0, .slice none 0 0] 27) _ rfl
          have qB := hb2.size
          refine hK _ _ ⟨⟨_, hb3⟩, rfl⟩ ?_
          clear hK K
          have hb39 := hb2
          obtain ⟨B, hB9⟩ : ∃ B, v2.heap.size = B := ⟨_, rfl⟩
          have hbn : Below u4.heap.size u4 (v2.alloc (.cells #[.int .u64 (U 0#64), .slice A6 0 c6] 27)) := hb39.alloc hb39.size _
          have kBn := new_at v2 (.cells #[.int .u64 (U 0#64), .slice A6 0 c6] 27) _ rfl
          have a7 := a6.later ((Below.refl _ v2).alloc (Nat.le_refl _) (.cells #[.int .u64 (U 0#64), .slice A6 0 c6] 27))
          have xB0 := cell_at kB 0
          have xB1 := cell_at kB 1
          have fB0 := free_at kB 0
          have fB1 := free_at kB 1
          rw [hB9] at kB qB xB0 xB1 fB0 fB1 kBn
          rw [hB9]
          have HbN := Lib.hid hbn
          have HkN := Lib.hid kBn
          have HA7 := Lib.hid a7
          clear hbn kBn a7 a6
          refine wpP_last rfl rfl rfl (fun K hK => ?_)
          go_simp
          refine hK _ _ ?_
          clear hK K xB0 xB1 fB0 fB1
          refine wpP_plain rfl rfl (fun K hK => ?_); go_simp; refine hK _ ?_; clear hK K
          refine wpP_done ?_
          refine ⟨rfl, B, A6, c6, ?_, HbN.out, qB, HkN.out, Lib.hid ⟨n6, HA7.out⟩⟩
          rfl
        · refine wpP_eff rfl rfl rfl (fun K hK => ?_)
          go_simp
          have hb4 : Below u4.heap.size u4 (v1.alloc (.cells #[.int .u64 0, .slice none 0 0] 27)) := hb1.alloc hb1.size _
          have kB := new_at v1 (.cells #[.int .u64 0, .slice none 0 0] 27) _ rfl
          have qB := hb1.size
          refine hK _ _ ⟨⟨_, hb4⟩, rfl⟩ ?_
          clear hK K
          obtain ⟨B, hB9⟩ : ∃ B, v1.heap.size = B := ⟨_, rfl⟩
          rw [hB9] at kB qB ⊢
          generalize (v1.alloc (.cells #[.int .u64 0, .slice none 0 0] 27)) = v4 at *
          have ltB := (Array.getElem?_eq_some_iff.1 kB).1
          refine wpP_eff rfl rfl rfl (fun K hK => ?_)
          go_simp
          refine ⟨trivial, (callsIn_wide.2 (HApp.out _ c_l v4 n_l ((a_l.later hb4).at_))).mono ?_⟩
          rintro e v5 ⟨hC, A6, c6, rfl, n6, a6⟩
          have hb5 : Below u4.heap.size u4 v5 := hb4.trans (hC.mono hb4.size)
          replace kB := keep kB hC
          replace a6 := a6.mono (show B + 1 ≤ _ from ltB)
          refine ⟨_, rfl, hK _ _ ⟨⟨_, hb5⟩, rfl⟩ ?_⟩
          clear hK K hC
          refine wpP_plain rfl rfl (fun K hK => ?_); go_simp; refine hK _ ?_; clear hK K
          refine wpP_plain rfl rfl (fun K hK => ?_); go_simp; refine hK _ ?_; clear hK K
          refine wpP_plain rfl rfl (fun K hK => ?_); go_simp; refine hK _ ?_; clear hK K
          have hP : Put v5 ((v5.setCell ⟨B, 0, none⟩ (.int .u64 (U 0#64))).setCell ⟨B, 1, none⟩ (.slice A6 0 c6)) B (.cells #[.int .u64 (U 0#64), .slice A6 0 c6] 27 (0, 0)) := ((Put.refl kB).set 0 _).set 1 _
          have a7 := (a6.put hP (Nat.lt_succ_self B)).mono (show u4.heap.size ≤ B + 1 by omega)
          have xB0 := cell_at kB 0
          have xB1 := cell_at kB 1
          have fB0 := free_at kB 0
          have fB1 := free_at kB 1
          have hlt9 := (Array.getElem?_eq_some_iff.1 kB).1
          have HP := Lib.hid hP
          have HA7 := Lib.hid a7
          clear hP a7 a6
          refine wpP_last rfl rfl rfl (fun K hK => ?_)
          go_simp
          refine hK _ _ ?_
          clear hK K xB0 xB1 fB0 fB1
          refine wpP_plain rfl rfl (fun K hK => ?_); go_simp; refine hK _ ?_; clear hK K
          refine wpP_done ?_
          refine ⟨rfl, B, A6, c6, rfl, hb5.trans (HP.out.below qB), qB, HP.out.get hlt9, Lib.hid ⟨n6, HA7.out⟩⟩
      · refine wpP_eff rfl rfl rfl (fun K hK => ?_)
        go_simp
        have hb6 : Below u4.heap.size u4 (u4.alloc (.cells #[.int .u64 0, .slice none 0 0] 27)).drew := ((Below.refl _ u4).alloc (Nat.le_refl _) _).drew
        have kB : (u4.alloc (.cells #[.int .u64 0, .slice none 0 0] 27)).drew.heap[u4.heap.size]? = some (.cells #[.int .u64 0, .slice none 0 0] 27 (0, 0)) := new_at u4 _ _ rfl
        have qB : u4.heap.size ≤ u4.heap.size := Nat.le_refl _
        refine hK _ _ ⟨⟨_, hb6⟩, rfl⟩ ?_
        clear hK K
        generalize (u4.alloc (.cells #[.int .u64 0, .slice none 0 0] 27)).drew = v6 at *
        have ltB := (Array.getElem?_eq_some_iff.1 kB).1
        refine wpP_eff rfl rfl rfl (fun K hK => ?_)
        go_simp
        refine ⟨trivial, (callsIn_wide.2 (HCut.out v6)).mono ?_⟩
        rintro e v7 ⟨rfl, hC⟩
        have hb7 : Below u4.heap.size u4 v7 := hb6.trans (hC.mono hb6.size)
        replace kB := keep kB hC
        replace ltB := (Array.getElem?_eq_some_iff.1 kB).1
        refine ⟨_, rfl, hK _ _ ⟨⟨_, hb7⟩, rfl⟩ ?_⟩
        clear hK K hC
        refine wpP_eff rfl rfl rfl (fun K hK => ?_)
        go_simp
        refine ⟨trivial, (callsIn_wide.2 (HApp.out _ c_l v7 n_l ((a_l.later hb7).at_))).mono ?_⟩
        rintro e v8 ⟨hC, A6, c6, rfl, n6, a6⟩
        have hb8 : Below u4.heap.size u4 v8 := hb7.trans (hC.mono hb7.size)
        replace kB := keep kB hC
        replace a6 := a6.mono (show u4.heap.size + 1 ≤ _ from ltB)
        refine ⟨_, rfl, hK _ _ ⟨⟨_, hb8⟩, rfl⟩ ?_⟩
        clear hK K hC
        refine wpP_plain rfl rfl (fun K hK => ?_); go_simp; refine hK _ ?_; clear hK K
        refine wpP_plain rfl rfl (fun K hK => ?_); go_simp; refine hK _ ?_; clear hK K
        refine wpP_plain rfl rfl (fun K hK => ?_); go_simp; refine hK _ ?_; clear hK K
        have hP : Put v8 ((v8.setCell ⟨u4.heap.size, 0, none⟩ (.int .u64 (U 0#64))).setCell ⟨u4.heap.size, 1, none⟩ (.slice A6 0 c6)) u4.heap.size (.cells #[.int .u64 (U 0#64), .slice A6 0 c6] 27 (0, 0)) := ((Put.refl kB).set 0 _).set 1 _
        have a7 := (a6.put hP (Nat.lt_succ_self u4.heap.size)).mono (show u4.heap.size ≤ u4.heap.size + 1 by omega)
        have xB0 := cell_at kB 0
        have xB1 := cell_at kB 1
        have fB0 := free_at kB 0
        have fB1 := free_at kB 1
        have hlt9 := (Array.getElem?_eq_some_iff.1 kB).1
        have HP := Lib.hid hP
        have HA7 := Lib.hid a7
        clear hP a7 a6
        refine wpP_last rfl rfl rfl (fun K hK => ?_)
        go_simp
        refine hK _ _ ?_
        clear hK K xB0 xB1 fB0 fB1
        refine wpP_plain rfl rfl (fun K hK => ?_); go_simp; refine hK _ ?_; clear hK K
        refine wpP_done ?_
        refine ⟨rfl, u4.heap.size, A6, c6, rfl, hb8.trans (HP.out.below qB), qB, HP.out.get hlt9, Lib.hid ⟨n6, HA7.out⟩⟩
    rintro b_m A_m c_m u5 ⟨hC, q_m, k_m, ⟨n_m, a_m⟩⟩
    clear l_k_0 l_k_1 l_l_0 l_l_1
    have lt_k_m : b_k < b_m := by have := (Array.getElem?_eq_some_iff.1 k_k).1; omega
    have lt_l_m : b_l < b_m := by have := (Array.getElem?_eq_some_iff.1 k_l).1; omega
    replace k_k := keep k_k hC
    replace k_l := keep k_l hC
    replace a_l := a_l.later hC
    replace hB := hB.trans (hC.mono hB.size)
    clear hC
    have x_m_0 := cell_at k_m 0
    have x_m_1 := cell_at k_m 1
    go_wp2_with fail
    clear x_m_0 x_m_1
    go_ret
    exact ⟨rfl, hB⟩
end Go.Proofs.Ytdhbomipffidlaa
