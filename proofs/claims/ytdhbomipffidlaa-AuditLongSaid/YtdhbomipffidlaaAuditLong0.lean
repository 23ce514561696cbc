/-
  The walk of AuditLong. Printed by gen_audl.py.
-/
import Derived.Test.YtdhbomipffidlaaAudV
import Derived.Test.YtdhbomipffidlaaU64L
namespace Go.Proofs.Ytdhbomipffidlaa
open Go.RowKit Go.Shelf
attribute [local go_sem] Oper.semAt_some calmOp calmUpon effOp effUpon

set_option maxRecDepth 100000 in
set_option maxHeartbeats 8000000 in
theorem walk_AuditLong (a b : BitVec 64) (n : Int) (s : ByteArray) (hs : s.size ≤ 9223372036854775807) (w : World) :
    Calls Try.prog 8 #[.agg #[.int .u64 (U a), .int .u64 (U b)], .int .i64 n, .string s] w fun e w' => e = .returned (.bool true) ∧ Below w.heap.size w w' := by
  by_cases h0 : n < 0
  · go_enter Try.func8, Try.ntmps8
    have hB : Below w.heap.size w w := Below.refl _ w
    go_wp2_with fail
    have hA : Below w.heap.size w (w.alloc (.cells #[.int .u64 (U a), .int .u64 (U b)] 24)) := (Below.refl _ w).alloc (Nat.le_refl _) _
    replace hB := hB.trans (hA.mono hB.size)
    have k_k := new_at w (.cells #[.int .u64 (U a), .int .u64 (U b)] 24) _ rfl
    obtain ⟨b_k, hb⟩ : ∃ b, w.heap.size = b := ⟨_, rfl⟩
    rw [hb] at k_k ⊢
    clear hA hb
    generalize w.alloc (.cells #[.int .u64 (U a), .int .u64 (U b)] 24) = u1 at *
    refine (shown_any _).mono ?_
    rintro e u2 ⟨rfl, hC⟩
    replace k_k := keep k_k hC
    replace hB := hB.trans (hC.mono hB.size)
    clear hC
    go_wp2_with fail
    go_ret
    exact ⟨rfl, hB⟩
  by_cases h1 : 60 < n
  · have h2 : 0 ≤ n := by omega
    go_enter Try.func8, Try.ntmps8
    have hB : Below w.heap.size w w := Below.refl _ w
    go_wp2_with fail
    have hA : Below w.heap.size w (w.alloc (.cells #[.int .u64 (U a), .int .u64 (U b)] 24)) := (Below.refl _ w).alloc (Nat.le_refl _) _
    replace hB := hB.trans (hA.mono hB.size)
    have k_k := new_at w (.cells #[.int .u64 (U a), .int .u64 (U b)] 24) _ rfl
    obtain ⟨b_k, hb⟩ : ∃ b, w.heap.size = b := ⟨_, rfl⟩
    rw [hb] at k_k ⊢
    clear hA hb
    generalize w.alloc (.cells #[.int .u64 (U a), .int .u64 (U b)] 24) = u1 at *
    refine (shown_any _).mono ?_
    rintro e u2 ⟨rfl, hC⟩
    replace k_k := keep k_k hC
    replace hB := hB.trans (hC.mono hB.size)
    clear hC
    go_wp2_with fail
    go_ret
    exact ⟨rfl, hB⟩
  obtain ⟨N, rfl⟩ : ∃ N : Nat, n = (N : Int) := ⟨n.toNat, by omega⟩
  have hN60 : N ≤ 60 := by omega
  have hT : ∀ i j : Nat, i ≤ j → ((fun _ : Nat => (7#64 : BitVec 64)) i).toNat ≤ ((fun _ : Nat => (7#64 : BitVec 64)) j).toNat := fun _ _ _ => Nat.le_refl _
  have hx200 : ∀ j : Nat, ((fun _ : Nat => cutT s) j).size ≤ 200 := fun j => cutT_size _
  have HApp := Lib.hid (fun j (hj : j < 60) => long_app (a := a) (b := b) hT hx200 j (by omega))
  have HLen := Lib.hid (fun j => long_length (a := a) (b := b) (T := fun _ => 7#64) (X := fun _ => cutT s) j)
  have HX2 := Lib.hid (fun n j => long_x (a := a) (b := b) (T := fun _ => 7#64) hx200 n j)
  have HSL := Lib.hid (fun j => longS_length (a := a) (b := b) (T := fun _ => 7#64) (X := fun _ => cutT s) j)
  have HSM := Lib.hid (fun j => longS_more (a := a) (b := b) (T := fun _ => 7#64) (X := fun _ => cutT s) j)
  have HPo := Lib.hid (fun j => longP_of (a := a) (b := b) (T := fun _ => 7#64) (X := fun _ => cutT s) j)
  have HPf := Lib.hid (fun j => longP_few (a := a) (b := b) (T := fun _ => 7#64) (X := fun _ => cutT s) j)
  have HFi := Lib.hid (fun j => long_first (a := a) (b := b) (T := fun _ => 7#64) (X := fun _ => cutT s) j)
  have HLs := Lib.hid (fun j => long_last_s (a := a) (b := b) (T := fun _ => 7#64) (X := fun _ => cutT s) j)
  have HFr := Lib.hid (fun j => long_from (a := a) (b := b) (T := fun _ => 7#64) (X := fun _ => cutT s) j)
  have hl0 : longL a b (fun _ => 7#64) (fun _ => cutT s) 0 = [] := rfl
  have hp0 : longP a b (fun _ => 7#64) (fun _ => cutT s) 0 = 0#64 := rfl
  have hs0 : longS a b (fun _ => 7#64) (fun _ => cutT s) 0 = [] := rfl
  obtain ⟨Lf, hLf⟩ : ∃ f, longL a b (fun _ => 7#64) (fun _ => cutT s) = f := ⟨_, rfl⟩
  obtain ⟨Pf, hPf⟩ : ∃ f, longP a b (fun _ => 7#64) (fun _ => cutT s) = f := ⟨_, rfl⟩
  obtain ⟨Sf, hSf⟩ : ∃ f, longS a b (fun _ => 7#64) (fun _ => cutT s) = f := ⟨_, rfl⟩
  rw [hLf] at HApp HLen HX2 HSM HFi HLs HFr hl0
  rw [hPf] at HApp HSM HPo HPf HLs hp0
  rw [hSf] at HSL HSM HPo hs0
  obtain ⟨Mf, hMf⟩ : ∃ f : Nat → Nat, ∀ j, f j = min j 30 := ⟨fun j => min j 30, fun _ => rfl⟩
  have HM := Lib.hid hMf
  have HLen2 := Lib.hid (fun j => (HLen.out j).trans (hMf j).symm)
  have HL0 := Lib.hid hl0
  have HP0 : Hid ((0 : Int) = U (Pf 0)) := Lib.hid (by rw [hp0]; decide +kernel)
  have HS0 := Lib.hid hs0
  have HM0 : Hid (Mf 0 = 0) := Lib.hid (by rw [hMf]; rfl)
  have u7 : U 7#64 = 7 := by decide +kernel
  have HApp2 := Lib.hid (fun j (hj : j < 60) A c W hc hA => by
    have h := Append_n (a := a) (b := b) (p := Pf j) (p' := Pf (j + 1)) (l := Lf j) (l' := Lf (j + 1)) (N := Mf j) (M := Mf (j + 1)) (k := 0) (t := 7#64) (x := cutT s) A c (HApp.out j hj).1 (HApp.out j hj).2 (HLen2.out _) (HLen2.out _) (by rw [hMf]; omega) hc (fun i _ => Nat.le_trans (HX2.out j i) (by decide)) (Nat.le_trans (cutT_size s) (by decide)) W hA
    rw [u7] at h
    exact h)
  have HHead := Lib.hid (fun j A c W hA => Head_any (Pf j) A c (Lf j) (Mf j) (HLen2.out j) (by rw [hMf]; omega) W hA)
  have HLast := Lib.hid (fun j A c W hA => by
    have h := Last_any (Pf j) A c (Lf j) (Mf j) (HLen2.out j) (by rw [hMf]; omega) W hA
    rw [HLs.out] at h
    exact h)
  have HFrom := Lib.hid (fun j A c W hA => From_any (Pf j) A c (Lf j) (Mf j) (HLen2.out j) (by rw [hMf]; omega) (BitVec.ofNat 64 j) W hA)
  have hm1 : min s.size 200 ≤ s.size := by omega
  have hcut : cutT s = s.extract 0 (min s.size 200) := rfl
  rw [hcut] at HApp2
  obtain ⟨m, hm⟩ : ∃ m, min s.size 200 = m := ⟨_, rfl⟩
  rw [hm] at HApp2 hm1
  have hmI : (if 200 < (s.size : Int) then (200 : Int) else (s.size : Int)) = (m : Int) := by split <;> omega
  have hm0 : (0 : Int) ≤ (m : Int) := by omega
  have hm3 : (m : Int) ≤ (s.size : Int) := by omega
  have HMI := Lib.hid hmI
  clear hT hx200 hl0 hp0 hs0 hLf hPf hSf hMf u7 hcut hm HApp HLen hmI
  go_enter Try.func8, Try.ntmps8
  have hB : Below w.heap.size w w := Below.refl _ w
  go_wp2_with fail
  have hA : Below w.heap.size w (w.alloc (.cells #[.int .u64 (U a), .int .u64 (U b)] 24)) := (Below.refl _ w).alloc (Nat.le_refl _) _
  replace hB := hB.trans (hA.mono hB.size)
  have k_k := new_at w (.cells #[.int .u64 (U a), .int .u64 (U b)] 24) _ rfl
  obtain ⟨b_k, hb⟩ : ∃ b, w.heap.size = b := ⟨_, rfl⟩
  rw [hb] at k_k ⊢
  clear hA hb
  generalize w.alloc (.cells #[.int .u64 (U a), .int .u64 (U b)] 24) = u1 at *
  refine (shown_any _).mono ?_
  rintro e u2 ⟨rfl, hC⟩
  replace k_k := keep k_k hC
  replace hB := hB.trans (hC.mono hB.size)
  clear hC
  have hn0 : ¬ (N : Int) < 0 := by omega
  have hn1 : ¬ 60 < (N : Int) := by omega
  have hq0 := hB.size
  have hkl0 := (Array.getElem?_eq_some_iff.1 k_k).1
  go_wp2_with fail
  have hA : Below u2.heap.size u2 (u2.alloc (.cells #[.int .u64 0, .slice none 0 0] 27)) := (Below.refl _ u2).alloc (Nat.le_refl _) _
  replace k_k := keep k_k hA
  replace hB := hB.trans (hA.mono hB.size)
  have k_l := new_at u2 (.cells #[.int .u64 0, .slice none 0 0] 27) _ rfl
  obtain ⟨b_l, hb⟩ : ∃ b, u2.heap.size = b := ⟨_, rfl⟩
  rw [hb] at k_l ⊢
  have q_l : w.heap.size ≤ b_l := by omega
  have hkl : b_k < b_l := by omega
  clear hq0 hkl0
  clear hA hb
  generalize u2.alloc (.cells #[.int .u64 0, .slice none 0 0] 27) = u3 at *
  clear u2
  clear hn0 hn1 h0 h1
  have k_l2 : u3.heap[b_l]? = some (.cells #[.int .u64 (U (Pf 0)), .slice none (Mf 0) 0] 27 (0, 0)) := by rw [← HP0.out, HM0.out]; exact k_l
  go_loopw [9, 10] (fun sv iv wr => ∃ j : Nat, j ≤ N ∧ iv = .int .i64 j ∧ Below w.heap.size w wr ∧ wr.heap[b_k]? = some (.cells #[.int .u64 (U a), .int .u64 (U b)] 24 (0, 0)) ∧ OwnL wr (b_l + 1) sv (Sf j) ∧ ∃ A_l c_l, wr.heap[b_l]? = some (.cells #[.int .u64 (U (Pf j)), .slice A_l (Mf j) c_l] 27 (0, 0)) ∧ Mf j ≤ c_l ∧ LieE wr (b_l + 1) A_l (Lf j)) (fun _ iv _ => N - (intOf iv).toNat)
  case atStart => exact ⟨0, Nat.zero_le _, rfl, hB, k_k, by rw [HS0.out]; exact OwnL.nil _ _, _, _, k_l2, by rw [HM0.out]; exact Nat.le_refl _, by rw [HL0.out]; exact LieE.nil⟩
  case round =>
    clear hB k_k k_l k_l2
    obtain ⟨j, hjN, rfl, hB, k_k, own, A_l, c_l, k_l, n_l, a_l⟩ := hrel
    obtain ⟨wo, rfl⟩ : ∃ wo : World, wo = wr := ⟨_, rfl⟩
    by_cases hjk : j < N
    · have hjI : (j : Int) < (N : Int) := by omega
      have HJ : Hid (j < 60) := Lib.hid (by omega)
      have hmI := HMI.out
      go_wp2_with fail
      have hlu := (Array.getElem?_eq_some_iff.1 k_l).1
      have hku := (Array.getElem?_eq_some_iff.1 k_k).1
      have HAl := Lib.hid a_l
      clear a_l
      have l_k_0 : ∀ s : Later wo.heap.size wo, s.W.cell? ⟨b_k, 0, none⟩ = some _ := fun s => s.cell (cell_at k_k 0) (Array.getElem?_eq_some_iff.1 k_k).1
      have l_k_1 : ∀ s : Later wo.heap.size wo, s.W.cell? ⟨b_k, 1, none⟩ = some _ := fun s => s.cell (cell_at k_k 1) (Array.getElem?_eq_some_iff.1 k_k).1
      have l_l_0 : ∀ s : Later wo.heap.size wo, s.W.cell? ⟨b_l, 0, none⟩ = some _ := fun s => s.cell (cell_at k_l 0) (Array.getElem?_eq_some_iff.1 k_l).1
      have l_l_1 : ∀ s : Later wo.heap.size wo, s.W.cell? ⟨b_l, 1, none⟩ = some _ := fun s => s.cell (cell_at k_l 1) (Array.getElem?_eq_some_iff.1 k_l).1
      refine wp_join_f3 ?f_n (fun (B : Nat) (A6 : Option Addr) (c6 : Nat) W => Below wo.heap.size wo W ∧ wo.heap.size ≤ B ∧ W.heap[B]? = some (.cells #[.int .u64 (U (Pf (j + 1))), .slice A6 (Mf (j + 1)) c6] 27 (0, 0)) ∧ Hid ((Mf (j + 1)) ≤ c6 ∧ LieE W wo.heap.size A6 (Lf (j + 1)))) ?h_n ?k_n
      case h_n =>
        refine region_plan_plain (C := fun W' => ∃ s : Later wo.heap.size wo, W' = s.W) [0, 0, 3, 3, 3, 3, 3, 1, 3, 3, 3, 1, 2, 3] (.calm 0 (.calm 1 (.calm 2 (.calm 3 (.calm 4 (.calm 5 (.calm 6 (.fork 7 (.calm 8 (.calm 9 (.calm 10 (.one 11 (.one 12 (.calm 13 .done)))))) 11 (.one 7 (.calm 8 (.calm 9 (.calm 10 (.one 12 (.calm 13 .done)))))))))))))) (by kernel_rfl) (by kernel_rfl) (by kernel_rfl) (by kernel_rfl) (by kernel_rfl) ⟨⟨wo.drew, (Below.refl _ wo).drew⟩, rfl⟩ ?_
        have hb0 : Below wo.heap.size wo wo.drew := (Below.refl _ wo).drew
        refine wpP_calm rfl rfl (fun K hK => ?_); go_simp; refine hK _ ?_; clear hK K
        refine wpP_calm rfl rfl (fun K hK => ?_); go_simp; refine hK _ ?_; clear hK K
        refine wpP_plain rfl rfl (fun K hK => ?_); go_simp; refine hK _ ?_; clear hK K
        refine wpP_plain rfl rfl (fun K hK => ?_); go_simp; refine hK _ ?_; clear hK K
        refine wpP_plain rfl rfl (fun K hK => ?_); go_simp; refine hK _ ?_; clear hK K
        refine wpP_plain rfl rfl (fun K hK => ?_); go_simp; refine hK _ ?_; clear hK K
        refine wpP_plain rfl rfl (fun K hK => ?_); go_simp; refine hK _ ?_; clear hK K
        refine wpP_fork ?_ ?_
        · refine wpP_eff rfl rfl rfl (fun K hK => ?_)
          go_simp
          refine ⟨trivial, (callsIn_wide.2 (HApp2.out j HJ.out _ c_l wo.drew n_l ((HAl.out.later hb0).at_))).mono ?_⟩
          rintro e v1 ⟨hC, A6, c6, rfl, n6, a6⟩
          have hb1 : Below wo.heap.size wo v1 := hb0.trans (hC.mono hb0.size)
          replace a6 := a6.mono hb0.size
          refine ⟨_, rfl, hK _ _ ⟨⟨_, hb1⟩, rfl⟩ ?_⟩
          clear hK K hC
          refine wpP_plain rfl rfl (fun K hK => ?_); go_simp; refine hK _ ?_; clear hK K
          refine wpP_plain rfl rfl (fun K hK => ?_); go_simp; refine hK _ ?_; clear hK K
          refine wpP_plain rfl rfl (fun K hK => ?_); go_simp; refine hK _ ?_; clear hK K
          refine wpP_eff rfl rfl rfl (fun K hK => ?_)
          go_simp
          have hb2 : Below wo.heap.size wo (v1.alloc (.cells #[.int .u64 0, .slice none 0 0] 27)) := hb1.alloc hb1.size _
          have kB := new_at v1 (.cells #[.int .u64 0, .slice none 0 0] 27) _ rfl
          have qB := hb1.size
          refine hK _ _ ⟨⟨_, hb2⟩, rfl⟩ ?_
          clear hK K
          have hb29 := hb1
          obtain ⟨B, hB9⟩ : ∃ B, v1.heap.size = B := ⟨_, rfl⟩
          have hbn : Below wo.heap.size wo (v1.alloc (.cells #[.int .u64 (U (Pf (j + 1))), .slice A6 (Mf (j + 1)) c6] 27)) := hb29.alloc hb29.size _
          have kBn := new_at v1 (.cells #[.int .u64 (U (Pf (j + 1))), .slice A6 (Mf (j + 1)) c6] 27) _ rfl
          have a7 := a6.later ((Below.refl _ v1).alloc (Nat.le_refl _) (.cells #[.int .u64 (U (Pf (j + 1))), .slice A6 (Mf (j + 1)) c6] 27))
          have xB0 := cell_at kB 0
          have xB1 := cell_at kB 1
          have fB0 := free_at kB 0
          have fB1 := free_at kB 1
          rw [hB9] at kB qB xB0 xB1 fB0 fB1 kBn
          rw [hB9]
          have HbN := Lib.hid hbn
          have HkN := Lib.hid kBn
          have HA7 := Lib.hid a7
          clear hbn kBn a7 a6
          refine wpP_last rfl rfl rfl (fun K hK => ?_)
          go_simp
          refine hK _ _ ?_
          clear hK K xB0 xB1 fB0 fB1
          refine wpP_plain rfl rfl (fun K hK => ?_); go_simp; refine hK _ ?_; clear hK K
          refine wpP_done ?_
          refine ⟨rfl, B, A6, c6, ?_, HbN.out, qB, HkN.out, Lib.hid ⟨n6, HA7.out⟩⟩
          rfl
        · refine wpP_eff rfl rfl rfl (fun K hK => ?_)
          go_simp
          have hb3 : Below wo.heap.size wo (wo.alloc (.cells #[.int .u64 0, .slice none 0 0] 27)).drew := ((Below.refl _ wo).alloc (Nat.le_refl _) _).drew
          have kB : (wo.alloc (.cells #[.int .u64 0, .slice none 0 0] 27)).drew.heap[wo.heap.size]? = some (.cells #[.int .u64 0, .slice none 0 0] 27 (0, 0)) := new_at wo _ _ rfl
          have qB : wo.heap.size ≤ wo.heap.size := Nat.le_refl _
          refine hK _ _ ⟨⟨_, hb3⟩, rfl⟩ ?_
          clear hK K
          generalize (wo.alloc (.cells #[.int .u64 0, .slice none 0 0] 27)).drew = v3 at *
          have ltB := (Array.getElem?_eq_some_iff.1 kB).1
          refine wpP_eff rfl rfl rfl (fun K hK => ?_)
          go_simp
          refine ⟨trivial, (callsIn_wide.2 (HApp2.out j HJ.out _ c_l v3 n_l ((HAl.out.later hb3).at_))).mono ?_⟩
          rintro e v4 ⟨hC, A6, c6, rfl, n6, a6⟩
          have hb4 : Below wo.heap.size wo v4 := hb3.trans (hC.mono hb3.size)
          replace kB := keep kB hC
          replace a6 := a6.mono (show wo.heap.size + 1 ≤ _ from ltB)
          refine ⟨_, rfl, hK _ _ ⟨⟨_, hb4⟩, rfl⟩ ?_⟩
          clear hK K hC
          refine wpP_plain rfl rfl (fun K hK => ?_); go_simp; refine hK _ ?_; clear hK K
          refine wpP_plain rfl rfl (fun K hK => ?_); go_simp; refine hK _ ?_; clear hK K
          refine wpP_plain rfl rfl (fun K hK => ?_); go_simp; refine hK _ ?_; clear hK K
          have hP : Put v4 ((v4.setCell ⟨wo.heap.size, 0, none⟩ (.int .u64 (U (Pf (j + 1))))).setCell ⟨wo.heap.size, 1, none⟩ (.slice A6 (Mf (j + 1)) c6)) wo.heap.size (.cells #[.int .u64 (U (Pf (j + 1))), .slice A6 (Mf (j + 1)) c6] 27 (0, 0)) := ((Put.refl kB).set 0 _).set 1 _
          have a7 := (a6.put hP (Nat.lt_succ_self wo.heap.size)).mono (show wo.heap.size ≤ wo.heap.size + 1 by omega)
          have xB0 := cell_at kB 0
          have xB1 := cell_at kB 1
          have fB0 := free_at kB 0
          have fB1 := free_at kB 1
          have hlt9 := (Array.getElem?_eq_some_iff.1 kB).1
          have HP := Lib.hid hP
          have HA7 := Lib.hid a7
          clear hP a7 a6
          refine wpP_last rfl rfl rfl (fun K hK => ?_)
          go_simp
          refine hK _ _ ?_
          clear hK K xB0 xB1 fB0 fB1
          refine wpP_plain rfl rfl (fun K hK => ?_); go_simp; refine hK _ ?_; clear hK K
          refine wpP_done ?_
          refine ⟨rfl, wo.heap.size, A6, c6, rfl, hb4.trans (HP.out.below qB), qB, HP.out.get hlt9, Lib.hid ⟨n6, HA7.out⟩⟩
      rintro b_n A_n c_n u4 ⟨hC, q_n, k_n, ⟨n_n, a_n⟩⟩
      clear l_k_0 l_k_1 l_l_0 l_l_1
      have lt_k_n : b_k < b_n := by have := (Array.getElem?_eq_some_iff.1 k_k).1; omega
      have lt_l_n : b_l < b_n := by have := (Array.getElem?_eq_some_iff.1 k_l).1; omega
      replace k_k := keep k_k hC
      replace k_l := keep k_l hC
      replace own := own.later hC
      replace hB := hB.trans (hC.mono hB.size)
      clear hC
      clear hmI
      replace a_n := a_n.mono (show b_l + 1 ≤ _ from hlu)
      have x_l_0 := cell_at k_l 0
      have x_l_1 := cell_at k_l 1
      have x_n_0 := cell_at k_n 0
      have x_n_1 := cell_at k_n 1
      have fr_0 := free_at k_l 0
      have fr_1 := free_at k_l 1
      have hP := ((Put.refl k_l).set 0 (.int .u64 (U (Pf (j + 1))))).set 1 (.slice A_n (Mf (j + 1)) c_n)
      have HP := Lib.hid hP
      clear hP
      go_wp2_with fail
      clear x_l_0 x_l_1 x_n_0 x_n_1 fr_0 fr_1
      have hP := HP.out
      replace hB := hB.trans (hP.below (by omega))
      replace k_k := (hP.other (by omega)).trans k_k
      replace own := own.put hP (by omega)
      replace k_n := (hP.other (by omega)).trans k_n
      replace a_n := a_n.put hP (by omega)
      replace k_l := hP.get (Array.getElem?_eq_some_iff.1 k_l).1
      clear hP HP
      generalize ((u4.setCell ⟨b_l, 0, none⟩ (.int .u64 (U (Pf (j + 1))))).setCell ⟨b_l, 1, none⟩ (.slice A_n (Mf (j + 1)) c_n)) = u5 at *
      refine (HHead.out (j + 1) _ c_n _ a_n.at_).mono ?_
      rintro e u6 ⟨rfl, hC⟩
      replace k_k := keep k_k hC
      replace k_l := keep k_l hC
      replace own := own.later hC
      replace k_n := keep k_n hC
      replace a_n := a_n.later hC
      replace hB := hB.trans (hC.mono hB.size)
      clear hC
      have hmore := HSM.out j
      obtain ⟨hd, hhd⟩ : ∃ x, (lastE (Pf (j + 1)) (Lf (j + 1))).m = x := ⟨_, rfl⟩
      rw [hhd] at hmore ⊢
      have hA : Below u6.heap.size u6 (u6.alloc (.cells #[.int .u64 (U hd)] 22)) := (Below.refl _ u6).alloc (Nat.le_refl _) _
      have hbl := (Array.getElem?_eq_some_iff.1 k_l).1
      obtain ⟨v', W, happ, hown', hB', hoth⟩ := append_one (u6.alloc (.cells #[.int .u64 (U hd)] 22)) (b_l + 1) _ (Sf j) hd u6.heap.size (own.later hA) (cell_at (new_at u6 (.cells #[.int .u64 (U hd)] 22) _ rfl) 0) (by have := hA.size; omega) (by rw [HSL.out]; omega)
      rw [← hmore] at hown'
      have HApp3 := Lib.hid happ
      have HO := Lib.hid hown'
      have HB3 := Lib.hid ((hB.trans (hA.mono hB.size)).trans (hB'.mono (by omega)))
      have HK := Lib.hid (hoth _ _ _ _ (keep k_k hA) (by decide))
      have HLb := Lib.hid (hoth _ _ _ _ (keep k_l hA) (by decide))
      have HLn := Lib.hid ((a_n.later hA).other hoth)
      clear happ hown' hB' hoth hmore hhd hA own
      go_wp2_with (at_builtin; refine wpList_append_run rfl (.tmp 42) (.tmp 45) _ rfl rfl rfl HApp3.out ?_)
      go_roundw
      case rel => exact ⟨j + 1, by omega, by go_num, HB3.out, HK.out, HO.out, _, _, HLb.out, n_n, HLn.out⟩
      case measure => simp [intOf]; omega
    · obtain rfl : N = j := by omega
      have hjI : ¬ (N : Int) < (N : Int) := by omega
      have hcv : IntKind.u64.wrap (N : Int) = U (BitVec.ofNat 64 N) := by
        unfold U
        rw [BitVec.toNat_ofNat, Nat.mod_eq_of_lt (by omega), IntKind.wrap_u64]
        omega
      have hM := HM.out N
      have hmn : (if 30 < (N : Int) then (30 : Int) else (N : Int)) = (Mf N : Int) := by split <;> omega
      obtain ⟨F, hF0⟩ : ∃ F, (fromE (Lf N) (BitVec.ofNat 64 N)).length = F := ⟨_, rfl⟩
      have hF1 := HFr.out N (by omega)
      rw [hF0] at hF1
      have hF : (if 1 < (N : Int) then (1 : Int) else (N : Int)) = (F : Int) := by split <;> omega
      have HF0 := Lib.hid hF0
      have HLastN := Lib.hid (HLast.out N)
      have HFromN := Lib.hid (HFrom.out N)
      have hs29 : IntKind.i64.wrap ((N : Int) - 29) = (N : Int) - 29 := by rw [IntKind.wrap_i64]; omega
      clear hF0 hF1
      by_cases hz : N = 0
      · have hb : U (Pf N) = 0 := by rw [HPf.out N (by omega)]; decide +kernel
        rw [hb] at k_l HLastN HFromN
        have hn30 : ¬ 30 < (N : Int) := by omega
        clear own
        have hlen : ¬ 0 < (Mf N : Int) := by omega
        have hFN : (F : Int) = (N : Int) := by rw [← hF]; split <;> omega
        clear hF hM hz hs29
        have x_l_0 := cell_at k_l 0
        have x_l_1 := cell_at k_l 1
        go_wp2_with fail
        clear x_l_0 x_l_1
        refine (HLastN.out _ c_l _ a_l.at_).mono ?_
        rintro e u1 ⟨rfl, hC⟩
        replace k_k := keep k_k hC
        replace k_l := keep k_l hC
        replace a_l := a_l.later hC
        replace hB := hB.trans (hC.mono hB.size)
        clear hC
        have x_l_0 := cell_at k_l 0
        have x_l_1 := cell_at k_l 1
        go_wp2_with fail
        clear x_l_0 x_l_1
        refine (HFromN.out _ c_l _ a_l.at_).mono ?_
        rintro e u2 ⟨hC, vF, rfl, ow⟩
        obtain ⟨A_f, c_f, rfl, -, -⟩ := ow.lie
        rw [HF0.out]
        clear ow
        replace k_k := keep k_k hC
        replace k_l := keep k_l hC
        replace a_l := a_l.later hC
        replace hB := hB.trans (hC.mono hB.size)
        clear hC
        go_wp2_with fail
        go_ret
        exact ⟨rfl, hB⟩
      by_cases h30 : N ≤ 30
      · have hb : U (Pf N) = 0 := by rw [HPf.out N (by omega)]; decide +kernel
        rw [hb] at k_l HLastN HFromN
        have hn30 : ¬ 30 < (N : Int) := by omega
        clear own
        have hlen : 0 < (Mf N : Int) := by omega
        have hfi := HFi.out N (by omega)
        obtain ⟨g_l, o_l, -, rfl, -, -, hf_l⟩ := a_l (by rw [HLen2.out, hM]; omega)
        have y0 := (hf_l 0 (by rw [HLen2.out, hM]; omega)).s
        rw [Nat.zero_mul, Nat.add_zero, hfi] at y0
        clear hf_l hfi
        rw [show N - 30 + 1 = 1 by omega, show U (BitVec.ofNat 64 1) = 1 by decide +kernel] at y0
        have hmx : (if 1 < (N : Int) - 29 then (N : Int) - 29 else 1) = 1 := by split <;> omega
        clear hM hz h30
        have x_l_0 := cell_at k_l 0
        have x_l_1 := cell_at k_l 1
        go_wp2_with fail
        clear x_l_0 x_l_1
        refine (HLastN.out _ c_l _ a_l.at_).mono ?_
        rintro e u1 ⟨rfl, hC⟩
        replace k_k := keep k_k hC
        replace k_l := keep k_l hC
        replace a_l := a_l.later hC
        replace hB := hB.trans (hC.mono hB.size)
        clear hC
        have x_l_0 := cell_at k_l 0
        have x_l_1 := cell_at k_l 1
        go_wp2_with fail
        clear x_l_0 x_l_1
        refine (HFromN.out _ c_l _ a_l.at_).mono ?_
        rintro e u2 ⟨hC, vF, rfl, ow⟩
        obtain ⟨A_f, c_f, rfl, -, -⟩ := ow.lie
        rw [HF0.out]
        clear ow
        replace k_k := keep k_k hC
        replace k_l := keep k_l hC
        replace a_l := a_l.later hC
        replace hB := hB.trans (hC.mono hB.size)
        clear hC
        go_wp2_with fail
        go_ret
        exact ⟨rfl, hB⟩
      · have hlen : 0 < (Mf N : Int) := by omega
        have hfi := HFi.out N (by omega)
        obtain ⟨g_l, o_l, -, rfl, -, -, hf_l⟩ := a_l (by rw [HLen2.out, hM]; omega)
        have y0 := (hf_l 0 (by rw [HLen2.out, hM]; omega)).s
        rw [Nat.zero_mul, Nat.add_zero, hfi] at y0
        clear hf_l hfi
        have hn30 : 30 < (N : Int) := by omega
        have hPo := HPo.out N (by omega)
        obtain ⟨A_s, c_s, rfl, -, at_s⟩ := own.at_
        rw [HSL.out]
        obtain ⟨g_s, o_s, rfl, -, hc_s⟩ := at_s (by rw [HSL.out]; omega)
        have y1 := hc_s (N - 31) (by rw [HSL.out]; omega)
        have hy : nth (Sf N) (N - 31) = Pf N := by unfold nth; rw [List.getD_eq_getElem?_getD, hPo]; rfl
        rw [hy] at y1
        obtain ⟨i, hi⟩ : ∃ i, N - 31 = i := ⟨_, rfl⟩
        rw [hi] at y1
        have hs31 : IntKind.i64.wrap ((N : Int) - 31) = (i : Int) := by rw [IntKind.wrap_i64]; omega
        have hi0 : (0 : Int) ≤ (i : Int) := by omega
        have hiN : (i : Int) < (N : Int) := by omega
        obtain ⟨k, hk⟩ : ∃ k, N - 30 + 1 = k := ⟨_, rfl⟩
        rw [hk] at y0
        replace hs29 : IntKind.i64.wrap ((N : Int) - 29) = (k : Int) := by rw [hs29]; omega
        have hk1 : (1 : Int) < (k : Int) := by omega
        have hFN : (F : Int) = 1 := by rw [← hF]; split <;> omega
        clear hF
        have hcv2 : IntKind.u64.wrap (k : Int) = U (BitVec.ofNat 64 k) := by
          unfold U
          rw [BitVec.toNat_ofNat, Nat.mod_eq_of_lt (by omega), IntKind.wrap_u64]
          omega
        clear hM hz h30 hPo hc_s hy hi hk own at_s
        have x_l_0 := cell_at k_l 0
        have x_l_1 := cell_at k_l 1
        go_wp2_with fail
        clear x_l_0 x_l_1
        refine (HLastN.out _ c_l _ a_l.at_).mono ?_
        rintro e u1 ⟨rfl, hC⟩
        replace k_k := keep k_k hC
        replace k_l := keep k_l hC
        replace a_l := a_l.later hC
        replace hB := hB.trans (hC.mono hB.size)
        clear hC
        have x_l_0 := cell_at k_l 0
        have x_l_1 := cell_at k_l 1
        go_wp2_with fail
        clear x_l_0 x_l_1
        refine (HFromN.out _ c_l _ a_l.at_).mono ?_
        rintro e u2 ⟨hC, vF, rfl, ow⟩
        obtain ⟨A_f, c_f, rfl, -, -⟩ := ow.lie
        rw [HF0.out]
        clear ow
        replace k_k := keep k_k hC
        replace k_l := keep k_l hC
        replace a_l := a_l.later hC
        replace hB := hB.trans (hC.mono hB.size)
        clear hC
        go_wp2_with fail
        go_ret
        exact ⟨rfl, hB⟩
end Go.Proofs.Ytdhbomipffidlaa
