/-
  The walk of AuditFinds. Printed by gen_audl.py.
-/
import Derived.Test.YtdhbomipffidlaaAudT
import Derived.Test.YtdhbomipffidlaaStrs
namespace Go.Proofs.Ytdhbomipffidlaa
open Go.RowKit Go.Shelf
attribute [local go_sem] Oper.semAt_some calmOp calmUpon effOp effUpon

set_option maxRecDepth 100000 in
set_option maxHeartbeats 8000000 in
theorem walk_AuditFinds {w : World} (a b : BitVec 64) (A : Option Addr) (c : Nat) (l : LS) (hm : l.length ≤ 9223372036854775807) (hl : ∀ s ∈ l, s.size ≤ 9223372036854775807) (hX : AtS w w.heap.size A l) (at_ : Int) (change : BitVec 64) :
    Calls Try.prog 4 #[.agg #[.int .u64 (U a), .int .u64 (U b)], .slice A l.length c, .int .i64 at_, .int .u64 (U change)] w fun e w' => e = .returned (.bool true) ∧ Below w.heap.size w w' := by
  have hT : ∀ i j, i ≤ j → (BitVec.ofNat 64 (min i 1000)).toNat ≤ (BitVec.ofNat 64 (min j 1000)).toNat := fun i j h => by
    rw [BitVec.toNat_ofNat, BitVec.toNat_ofNat, Nat.mod_eq_of_lt (by omega), Nat.mod_eq_of_lt (by omega)]
    omega
  have hx200 : ∀ j, (cutT (nthS l j)).size ≤ 200 := fun j => cutT_size _
  have hsz : ∀ j, j < l.length → (nthS l j).size ≤ 9223372036854775807 := fun j hj => hl _ (List.mem_of_getElem? (nthS_get hj))
  have HSz := Lib.hid hsz
  have HApp := Lib.hid (fun j (hj : j < 30) => made_app (a := a) (b := b) hT hx200 j hj)
  have HLen := Lib.hid (fun j => made_length (a := a) (b := b) (T := fun j => BitVec.ofNat 64 (min j 1000)) (X := fun j => cutT (nthS l j)) j)
  have HX2 := Lib.hid (fun n j => made_x (a := a) (b := b) (T := fun j => BitVec.ofNat 64 (min j 1000)) (X := fun j => cutT (nthS l j)) hx200 n j)
  have HGood := Lib.hid (fun n (hn : n ≤ 30) => made_good (a := a) (b := b) hT hx200 n (by omega))
  obtain ⟨Md, hMd⟩ : ∃ f, madeE a b (fun j => BitVec.ofNat 64 (min j 1000)) (fun j => cutT (nthS l j)) = f := ⟨_, rfl⟩
  have hnil : Md 0 = [] := by rw [← hMd]; rfl
  rw [hMd] at HApp HLen HX2 HGood
  have HNil := Lib.hid hnil
  obtain ⟨z0, hz0⟩ : ∃ z, 0#64 = z := ⟨_, rfl⟩
  have HZ : Hid ((0 : Int) = U z0) := Lib.hid (by rw [← hz0]; decide +kernel)
  rw [hz0] at HApp HGood
  have HXx := Lib.hid hX
  obtain ⟨N, hN⟩ : ∃ N, l.length = N := ⟨_, rfl⟩
  rw [hN] at HSz hm ⊢
  have HN := Lib.hid hN
  have HZ0 := Lib.hid hz0
  clear hT hx200 hl hsz hX hMd hnil hz0 hN
  go_enter Try.func4, Try.ntmps4
  have hB : Below w.heap.size w w := Below.refl _ w
  go_wp2_with fail
  have hA : Below w.heap.size w (w.alloc (.cells #[.int .u64 (U a), .int .u64 (U b)] 24)) := (Below.refl _ w).alloc (Nat.le_refl _) _
  replace hB := hB.trans (hA.mono hB.size)
  have k_k := new_at w (.cells #[.int .u64 (U a), .int .u64 (U b)] 24) _ rfl
  obtain ⟨b_k, hb⟩ : ∃ b, w.heap.size = b := ⟨_, rfl⟩
  rw [hb] at k_k ⊢
  clear hA hb
  generalize w.alloc (.cells #[.int .u64 (U a), .int .u64 (U b)] 24) = u1 at *
  refine (shown_any _).mono ?_
  rintro e u2 ⟨rfl, hC⟩
  replace k_k := keep k_k hC
  replace hB := hB.trans (hC.mono hB.size)
  clear hC
  have hq0 := hB.size
  have hkl0 := (Array.getElem?_eq_some_iff.1 k_k).1
  go_wp2_with fail
  have hA : Below u2.heap.size u2 (u2.alloc (.cells #[.int .u64 0, .slice none 0 0] 27)) := (Below.refl _ u2).alloc (Nat.le_refl _) _
  replace k_k := keep k_k hA
  replace hB := hB.trans (hA.mono hB.size)
  have k_l := new_at u2 (.cells #[.int .u64 0, .slice none 0 0] 27) _ rfl
  obtain ⟨b_l, hb⟩ : ∃ b, u2.heap.size = b := ⟨_, rfl⟩
  rw [hb] at k_l ⊢
  have q_l : w.heap.size ≤ b_l := by omega
  have hkl : b_k < b_l := by omega
  clear hq0 hkl0
  clear hA hb
  generalize u2.alloc (.cells #[.int .u64 0, .slice none 0 0] 27) = u3 at *
  clear u2
  have k_l2 : u3.heap[b_l]? = some (.cells #[.int .u64 (U z0), .slice none 0 0] 27 (0, 0)) := by rw [← HZ.out]; exact k_l
  go_loopw [11] (fun iv wr => ∃ j : Nat, j ≤ 30 ∧ j ≤ N ∧ iv = .int .i64 j ∧ Below w.heap.size w wr ∧ wr.heap[b_k]? = some (.cells #[.int .u64 (U a), .int .u64 (U b)] 24 (0, 0)) ∧ ∃ A_l c_l, wr.heap[b_l]? = some (.cells #[.int .u64 (U z0), .slice A_l j c_l] 27 (0, 0)) ∧ j ≤ c_l ∧ LieE wr (b_l + 1) A_l (Md j)) (fun iv _ => 30 - (intOf iv).toNat)
  case atStart => exact ⟨0, Nat.zero_le _, Nat.zero_le _, rfl, hB, k_k, _, _, k_l2, Nat.le_refl _, by rw [HNil.out]; exact LieE.nil⟩
  case round =>
    clear hB k_k k_l k_l2
    obtain ⟨j, hj30, hjN, rfl, hB, k_k, A_l, c_l, k_l, n_l, a_l⟩ := hrel
    obtain ⟨wo, rfl⟩ : ∃ wo : World, wo = wr := ⟨_, rfl⟩
    by_cases hjk : j < N
    · by_cases hj3 : j < 30
      · obtain ⟨g_t, o_t, rfl, lt_t, hc_t⟩ := HXx.out (by rw [HN.out]; omega)
        have y0 := (hB.cell (p := ⟨g_t, o_t + j, none⟩) lt_t).trans (hc_t j (by rw [HN.out]; exact hjk))
        have hsx := HSz.out j hjk
        obtain ⟨qa, qc⟩ := HApp.out j hj3
        have qx : cutT (nthS l j) = (nthS l j).extract 0 (min (nthS l j).size 200) := rfl
        have qs := cutT_size (nthS l j)
        rw [qx] at qa qc qs
        obtain ⟨x, hx⟩ : ∃ x, nthS l j = x := ⟨_, rfl⟩
        rw [hx] at qa qc qs hsx y0
        obtain ⟨m, hm⟩ : ∃ m, min x.size 200 = m := ⟨_, rfl⟩
        have hm1 : m ≤ x.size := by omega
        have hm2 : m ≤ 200 := by omega
        have hmI : (if 200 < (x.size : Int) then (200 : Int) else (x.size : Int)) = (m : Int) := by split <;> omega
        rw [hm] at qa qc qs
        have htj : min j 1000 = j := by omega
        rw [htj] at qa qc
        obtain ⟨tj, ht⟩ : ∃ t, BitVec.ofNat 64 j = t := ⟨_, rfl⟩
        have hcv : IntKind.u64.wrap (j : Int) = U tj := by
          rw [← ht]
          unfold U
          rw [BitVec.toNat_ofNat, Nat.mod_eq_of_lt (by omega), IntKind.wrap_u64]
          omega
        rw [ht] at qa qc
        have hjI : (j : Int) < (N : Int) := by omega
        have hjI0 : (0 : Int) ≤ (j : Int) := by omega
        have hj3I : (j : Int) < 30 := by omega
        have hm0 : (0 : Int) ≤ (m : Int) := by omega
        have hm3 : (m : Int) ≤ (x.size : Int) := by omega
        have HApp2 := Lib.hid (fun A c W hc hA => Append_n (p := z0) (p' := z0) (l := Md j) (l' := Md (j + 1)) (N := j) (M := j + 1) (k := 0) (t := tj) (x := x.extract 0 m) A c qa qc (HLen.out (j + 1)) (HLen.out j) (by omega) hc (fun i _ => Nat.le_trans (HX2.out j i) (by decide)) (by omega) W hA)
        have lt_to : g_t < wo.heap.size := Nat.lt_of_lt_of_le lt_t hB.size
        clear hc_t qa qc qx qs hx hm htj ht hsx
        go_wp2_with fail
        clear hj3I
        have lx : ∀ s : Later wo.heap.size wo, s.W.cell? ⟨g_t, o_t + j, none⟩ = some _ := fun s => s.cell y0 lt_to
        clear y0
        have hlu := (Array.getElem?_eq_some_iff.1 k_l).1
        have hku := (Array.getElem?_eq_some_iff.1 k_k).1
        have HAl := Lib.hid a_l
        clear a_l
        have l_k_0 : ∀ s : Later wo.heap.size wo, s.W.cell? ⟨b_k, 0, none⟩ = some _ := fun s => s.cell (cell_at k_k 0) (Array.getElem?_eq_some_iff.1 k_k).1
        have l_k_1 : ∀ s : Later wo.heap.size wo, s.W.cell? ⟨b_k, 1, none⟩ = some _ := fun s => s.cell (cell_at k_k 1) (Array.getElem?_eq_some_iff.1 k_k).1
        have l_l_0 : ∀ s : Later wo.heap.size wo, s.W.cell? ⟨b_l, 0, none⟩ = some _ := fun s => s.cell (cell_at k_l 0) (Array.getElem?_eq_some_iff.1 k_l).1
        have l_l_1 : ∀ s : Later wo.heap.size wo, s.W.cell? ⟨b_l, 1, none⟩ = some _ := fun s => s.cell (cell_at k_l 1) (Array.getElem?_eq_some_iff.1 k_l).1
        refine wp_join_f3 ?f_n (fun (B : Nat) (A6 : Option Addr) (c6 : Nat) W => Below wo.heap.size wo W ∧ wo.heap.size ≤ B ∧ W.heap[B]? = some (.cells #[.int .u64 (U z0), .slice A6 (j + 1) c6] 27 (0, 0)) ∧ Hid ((j + 1) ≤ c6 ∧ LieE W wo.heap.size A6 (Md (j + 1)))) ?h_n ?k_n
        case h_n =>
          refine region_plan_plain (C := fun W' => ∃ s : Later wo.heap.size wo, W' = s.W) [0, 0, 3, 3, 3, 3, 3, 0, 3, 3, 3, 0, 3, 3, 3, 1, 3, 3, 3, 1, 2, 3] (.calm 0 (.calm 1 (.calm 2 (.calm 3 (.calm 4 (.calm 5 (.calm 6 (.calm 7 (.calm 8 (.calm 9 (.calm 10 (.calm 11 (.calm 12 (.calm 13 (.calm 14 (.fork 15 (.calm 16 (.calm 17 (.calm 18 (.one 19 (.one 20 (.calm 21 .done)))))) 19 (.one 15 (.calm 16 (.calm 17 (.calm 18 (.one 20 (.calm 21 .done)))))))))))))))))))))) (by kernel_rfl) (by kernel_rfl) (by kernel_rfl) (by kernel_rfl) (by kernel_rfl) ⟨⟨wo.drew, (Below.refl _ wo).drew⟩, rfl⟩ ?_
          have hb0 : Below wo.heap.size wo wo.drew := (Below.refl _ wo).drew
          refine wpP_calm rfl rfl (fun K hK => ?_); go_simp; refine hK _ ?_; clear hK K
          refine wpP_calm rfl rfl (fun K hK => ?_); go_simp; refine hK _ ?_; clear hK K
          refine wpP_plain rfl rfl (fun K hK => ?_); go_simp; refine hK _ ?_; clear hK K
          refine wpP_plain rfl rfl (fun K hK => ?_); go_simp; refine hK _ ?_; clear hK K
          refine wpP_plain rfl rfl (fun K hK => ?_); go_simp; refine hK _ ?_; clear hK K
          refine wpP_plain rfl rfl (fun K hK => ?_); go_simp; refine hK _ ?_; clear hK K
          refine wpP_plain rfl rfl (fun K hK => ?_); go_simp; refine hK _ ?_; clear hK K
          refine wpP_calm rfl rfl (fun K hK => ?_); go_simp; refine hK _ ?_; clear hK K
          refine wpP_plain rfl rfl (fun K hK => ?_); go_simp; refine hK _ ?_; clear hK K
          refine wpP_plain rfl rfl (fun K hK => ?_); go_simp; refine hK _ ?_; clear hK K
          refine wpP_plain rfl rfl (fun K hK => ?_); go_simp; refine hK _ ?_; clear hK K
          refine wpP_calm rfl rfl (fun K hK => ?_); go_simp; refine hK _ ?_; clear hK K
          refine wpP_plain rfl rfl (fun K hK => ?_); go_simp; refine hK _ ?_; clear hK K
          refine wpP_plain rfl rfl (fun K hK => ?_); go_simp; refine hK _ ?_; clear hK K
          refine wpP_plain rfl rfl (fun K hK => ?_); go_simp; refine hK _ ?_; clear hK K
          refine wpP_fork ?_ ?_
          · refine wpP_eff rfl rfl rfl (fun K hK => ?_)
            go_simp
            refine ⟨trivial, (callsIn_wide.2 (HApp2.out _ c_l wo.drew n_l ((HAl.out.later hb0).at_))).mono ?_⟩
            rintro e v1 ⟨hC, A6, c6, rfl, n6, a6⟩
            have hb1 : Below wo.heap.size wo v1 := hb0.trans (hC.mono hb0.size)
            replace a6 := a6.mono hb0.size
            refine ⟨_, rfl, hK _ _ ⟨⟨_, hb1⟩, rfl⟩ ?_⟩
            clear hK K hC
            refine wpP_plain rfl rfl (fun K hK => ?_); go_simp; refine hK _ ?_; clear hK K
            refine wpP_plain rfl rfl (fun K hK => ?_); go_simp; refine hK _ ?_; clear hK K
            refine wpP_plain rfl rfl (fun K hK => ?_); go_simp; refine hK _ ?_; clear hK K
            refine wpP_eff rfl rfl rfl (fun K hK => ?_)
            go_simp
            have hb2 : Below wo.heap.size wo (v1.alloc (.cells #[.int .u64 0, .slice none 0 0] 27)) := hb1.alloc hb1.size _
            have kB := new_at v1 (.cells #[.int .u64 0, .slice none 0 0] 27) _ rfl
            have qB := hb1.size
            refine hK _ _ ⟨⟨_, hb2⟩, rfl⟩ ?_
            clear hK K
            have hb29 := hb1
            obtain ⟨B, hB9⟩ : ∃ B, v1.heap.size = B := ⟨_, rfl⟩
            have hbn : Below wo.heap.size wo (v1.alloc (.cells #[.int .u64 (U z0), .slice A6 (j + 1) c6] 27)) := hb29.alloc hb29.size _
            have kBn := new_at v1 (.cells #[.int .u64 (U z0), .slice A6 (j + 1) c6] 27) _ rfl
            have a7 := a6.later ((Below.refl _ v1).alloc (Nat.le_refl _) (.cells #[.int .u64 (U z0), .slice A6 (j + 1) c6] 27))
            have xB0 := cell_at kB 0
            have xB1 := cell_at kB 1
            have fB0 := free_at kB 0
            have fB1 := free_at kB 1
            rw [hB9] at kB qB xB0 xB1 fB0 fB1 kBn
            rw [hB9]
            have HbN := Lib.hid hbn
            have HkN := Lib.hid kBn
            have HA7 := Lib.hid a7
            clear hbn kBn a7 a6
            refine wpP_last rfl rfl rfl (fun K hK => ?_)
            go_simp
            refine hK _ _ ?_
            clear hK K xB0 xB1 fB0 fB1
            refine wpP_plain rfl rfl (fun K hK => ?_); go_simp; refine hK _ ?_; clear hK K
            refine wpP_done ?_
            refine ⟨rfl, B, A6, c6, ?_, HbN.out, qB, HkN.out, Lib.hid ⟨n6, HA7.out⟩⟩
            rfl
          · refine wpP_eff rfl rfl rfl (fun K hK => ?_)
            go_simp
            have hb3 : Below wo.heap.size wo (wo.alloc (.cells #[.int .u64 0, .slice none 0 0] 27)).drew := ((Below.refl _ wo).alloc (Nat.le_refl _) _).drew
            have kB : (wo.alloc (.cells #[.int .u64 0, .slice none 0 0] 27)).drew.heap[wo.heap.size]? = some (.cells #[.int .u64 0, .slice none 0 0] 27 (0, 0)) := new_at wo _ _ rfl
            have qB : wo.heap.size ≤ wo.heap.size := Nat.le_refl _
            refine hK _ _ ⟨⟨_, hb3⟩, rfl⟩ ?_
            clear hK K
            generalize (wo.alloc (.cells #[.int .u64 0, .slice none 0 0] 27)).drew = v3 at *
            have ltB := (Array.getElem?_eq_some_iff.1 kB).1
            refine wpP_eff rfl rfl rfl (fun K hK => ?_)
            go_simp
            refine ⟨trivial, (callsIn_wide.2 (HApp2.out _ c_l v3 n_l ((HAl.out.later hb3).at_))).mono ?_⟩
            rintro e v4 ⟨hC, A6, c6, rfl, n6, a6⟩
            have hb4 : Below wo.heap.size wo v4 := hb3.trans (hC.mono hb3.size)
            replace kB := keep kB hC
            replace a6 := a6.mono (show wo.heap.size + 1 ≤ _ from ltB)
            refine ⟨_, rfl, hK _ _ ⟨⟨_, hb4⟩, rfl⟩ ?_⟩
            clear hK K hC
            refine wpP_plain rfl rfl (fun K hK => ?_); go_simp; refine hK _ ?_; clear hK K
            refine wpP_plain rfl rfl (fun K hK => ?_); go_simp; refine hK _ ?_; clear hK K
            refine wpP_plain rfl rfl (fun K hK => ?_); go_simp; refine hK _ ?_; clear hK K
            have hP : Put v4 ((v4.setCell ⟨wo.heap.size, 0, none⟩ (.int .u64 (U z0))).setCell ⟨wo.heap.size, 1, none⟩ (.slice A6 (j + 1) c6)) wo.heap.size (.cells #[.int .u64 (U z0), .slice A6 (j + 1) c6] 27 (0, 0)) := ((Put.refl kB).set 0 _).set 1 _
            have a7 := (a6.put hP (Nat.lt_succ_self wo.heap.size)).mono (show wo.heap.size ≤ wo.heap.size + 1 by omega)
            have xB0 := cell_at kB 0
            have xB1 := cell_at kB 1
            have fB0 := free_at kB 0
            have fB1 := free_at kB 1
            have hlt9 := (Array.getElem?_eq_some_iff.1 kB).1
            have HP := Lib.hid hP
            have HA7 := Lib.hid a7
            clear hP a7 a6
            refine wpP_last rfl rfl rfl (fun K hK => ?_)
            go_simp
            refine hK _ _ ?_
            clear hK K xB0 xB1 fB0 fB1
            refine wpP_plain rfl rfl (fun K hK => ?_); go_simp; refine hK _ ?_; clear hK K
            refine wpP_done ?_
            refine ⟨rfl, wo.heap.size, A6, c6, rfl, hb4.trans (HP.out.below qB), qB, HP.out.get hlt9, Lib.hid ⟨n6, HA7.out⟩⟩
        rintro b_n A_n c_n u4 ⟨hC, q_n, k_n, ⟨n_n, a_n⟩⟩
        clear l_k_0 l_k_1 l_l_0 l_l_1
        have lt_k_n : b_k < b_n := by have := (Array.getElem?_eq_some_iff.1 k_k).1; omega
        have lt_l_n : b_l < b_n := by have := (Array.getElem?_eq_some_iff.1 k_l).1; omega
        replace k_k := keep k_k hC
        replace k_l := keep k_l hC
        replace hB := hB.trans (hC.mono hB.size)
        clear hC
        clear lx hmI hcv
        replace a_n := a_n.mono (show b_l + 1 ≤ _ from hlu)
        have x_l_0 := cell_at k_l 0
        have x_l_1 := cell_at k_l 1
        have x_n_0 := cell_at k_n 0
        have x_n_1 := cell_at k_n 1
        have fr_0 := free_at k_l 0
        have fr_1 := free_at k_l 1
        have hP := ((Put.refl k_l).set 0 (.int .u64 (U z0))).set 1 (.slice A_n (j + 1) c_n)
        have HP := Lib.hid hP
        clear hP
        go_wp2_with fail
        clear x_l_0 x_l_1 x_n_0 x_n_1 fr_0 fr_1
        have hP := HP.out
        replace hB := hB.trans (hP.below (by omega))
        replace k_k := (hP.other (by omega)).trans k_k
        replace k_n := (hP.other (by omega)).trans k_n
        replace a_n := a_n.put hP (by omega)
        replace k_l := hP.get (Array.getElem?_eq_some_iff.1 k_l).1
        clear hP HP
        generalize ((u4.setCell ⟨b_l, 0, none⟩ (.int .u64 (U z0))).setCell ⟨b_l, 1, none⟩ (.slice A_n (j + 1) c_n)) = u5 at *
        go_roundw
        case rel => exact ⟨j + 1, by omega, by omega, by go_num, hB, k_k, _, _, k_l, n_n, a_n⟩
        case measure => simp [intOf]; omega
      · have hj3I : ¬ (j : Int) < 30 := by omega
        have hjI : (j : Int) < (N : Int) := by omega
        have g0 := HGood.out j hj30
        rw [← HZ0.out] at g0
        have hch := chain_good g0
        rw [HLen.out] at hch
        have HC := Lib.hid (fun A c W hA => by
          have h := Chained_any a b 0#64 A c (Md j) j (HLen.out j) (by omega) (fun i _ => Nat.le_trans (HX2.out j i) (by decide)) W hA
          rw [hch, decide_eq_true (rfl : j = j), show U 0#64 = 0 by decide +kernel] at h
          exact h)
        have HG0 := Lib.hid g0
        clear g0 hch
        have x_k_0 := cell_at k_k 0
        have x_k_1 := cell_at k_k 1
        have x_l_0 := cell_at k_l 0
        have x_l_1 := cell_at k_l 1
        go_wp2_with fail
        clear x_k_0 x_k_1 x_l_0 x_l_1
        refine (HC.out _ _ _ a_l.at_).mono ?_
        rintro e u1 ⟨rfl, hC⟩
        replace k_k := keep k_k hC
        replace k_l := keep k_l hC
        replace a_l := a_l.later hC
        replace hB := hB.trans (hC.mono hB.size)
        clear hC
        by_cases h0 : at_ < 0
        · have x_l_0 := cell_at k_l 0
          have x_l_1 := cell_at k_l 1
          go_wp2_with fail
          clear x_l_0 x_l_1
          go_ret
          exact ⟨rfl, hB⟩
        by_cases h1 : (j : Int) ≤ at_
        · have x_l_0 := cell_at k_l 0
          have x_l_1 := cell_at k_l 1
          go_wp2_with fail
          clear x_l_0 x_l_1
          go_ret
          exact ⟨rfl, hB⟩
        by_cases h2 : U change = 0
        · have x_l_0 := cell_at k_l 0
          have x_l_1 := cell_at k_l 1
          go_wp2_with fail
          clear x_l_0 x_l_1
          go_ret
          exact ⟨rfl, hB⟩
        obtain ⟨i, rfl⟩ : ∃ i : Nat, at_ = (i : Int) := ⟨at_.toNat, by omega⟩
        have hij : i < j := by omega
        have hi0 : (0 : Int) ≤ (i : Int) := by omega
        have hijI : (i : Int) < (j : Int) := by omega
        have hc0 : change ≠ 0#64 := fun e => h2 (by rw [e]; decide +kernel)
        obtain ⟨tf1, tf2, tf3⟩ := turn_found HG0.out (by rw [HLen.out]; exact hij) hc0
        rw [HLen.out] at tf2
        have hsz2 : ∀ k, k < j → (nthE (turnE (Md j) i change) k).x.size ≤ 60000 := fun k hk => by
          rw [nthE_turn _ _ _ _ (by rw [HLen.out]; exact hij)]
          split
          · exact Nat.le_trans (HX2.out j i) (by decide)
          · exact Nat.le_trans (HX2.out j k) (by decide)
        have HC2 := Lib.hid (fun A c W hA => by
          have h := Chained_any a b 0#64 A c (turnE (Md j) i change) j tf2 (by omega) hsz2 W hA
          rw [tf1, decide_eq_false (by omega : ¬ i = j), show U 0#64 = 0 by decide +kernel] at h
          exact h)
        have HRi := Lib.hid (fun A c W hA => by
          have h := Right_any a b 0#64 A c (turnE (Md j) i change) j tf2 (by omega) hsz2 W hA
          rw [tf3, HZ0.out] at h
          exact h)
        obtain ⟨g_l, o_l, cs_l, rfl, lo_l, hh_l, hf_l⟩ := a_l (by rw [HLen.out]; omega)
        have y3 := (hf_l i (by rw [HLen.out]; exact hij)).m
        have fr := free_at hh_l (o_l + i * 4 + 3)
        have hgl := (Array.getElem?_eq_some_iff.1 hh_l).1
        have HTurn := Lib.hid (a_l.turn (c := change) (by rw [HLen.out]; exact hij))
        obtain ⟨ms, hms⟩ : ∃ ms, (nthE (Md j) i).m = ms := ⟨_, rfl⟩
        rw [hms] at y3 HTurn
        have hxr := U_xor ms change
        have h2b : (U change == 0) = false := by simpa using h2
        clear tf1 tf2 tf3 hsz2 hc0 hf_l hh_l hms
        clear a_l
        have x_l_0 := cell_at k_l 0
        have x_l_1 := cell_at k_l 1
        go_wp2_with fail
        clear x_l_0 x_l_1
        have l_l_0 : ∀ s : Later u1.heap.size u1, s.W.cell? ⟨b_l, 0, none⟩ = some _ := fun s => s.cell (cell_at k_l 0) (Array.getElem?_eq_some_iff.1 k_l).1
        have l_l_1 : ∀ s : Later u1.heap.size u1, s.W.cell? ⟨b_l, 1, none⟩ = some _ := fun s => s.cell (cell_at k_l 1) (Array.getElem?_eq_some_iff.1 k_l).1
        have l_y3 : ∀ s : Later u1.heap.size u1, s.W.cell? ⟨g_l, o_l + i * 4 + 3, none⟩ = some _ := fun s => s.cell y3 hgl
        refine region_plan_plain (C := fun W' => ∃ s : Later u1.heap.size u1, W' = s.W) [3, 0, 3, 3, 0, 3, 3, 3, 0, 3, 3, 3, 3, 2] (.calm 0 (.calm 1 (.calm 2 (.calm 3 (.calm 4 (.calm 5 (.calm 6 (.calm 7 (.calm 8 (.calm 9 (.calm 10 (.calm 11 (.calm 12 (.one 13 .done)))))))))))))) (by kernel_rfl) (by kernel_rfl) (by kernel_rfl) (by kernel_rfl) (by kernel_rfl) ⟨⟨u1.drew, (Below.refl _ u1).drew⟩, rfl⟩ ?_
        refine wpP_plain rfl rfl (fun K hK => ?_); go_simp; refine hK _ ?_; clear hK K
        refine wpP_calm rfl rfl (fun K hK => ?_); go_simp; refine hK _ ?_; clear hK K
        refine wpP_plain rfl rfl (fun K hK => ?_); go_simp; refine hK _ ?_; clear hK K
        refine wpP_plain rfl rfl (fun K hK => ?_); go_simp; refine hK _ ?_; clear hK K
        refine wpP_calm rfl rfl (fun K hK => ?_); go_simp; refine hK _ ?_; clear hK K
        refine wpP_plain rfl rfl (fun K hK => ?_); go_simp; refine hK _ ?_; clear hK K
        refine wpP_plain rfl rfl (fun K hK => ?_); go_simp; refine hK _ ?_; clear hK K
        refine wpP_plain rfl rfl (fun K hK => ?_); go_simp; refine hK _ ?_; clear hK K
        refine wpP_calm rfl rfl (fun K hK => ?_); go_simp; refine hK _ ?_; clear hK K
        refine wpP_plain rfl rfl (fun K hK => ?_); go_simp; refine hK _ ?_; clear hK K
        refine wpP_plain rfl rfl (fun K hK => ?_); go_simp; refine hK _ ?_; clear hK K
        refine wpP_plain rfl rfl (fun K hK => ?_); go_simp; refine hK _ ?_; clear hK K
        refine wpP_plain rfl rfl (fun K hK => ?_); go_simp; refine hK _ ?_; clear hK K
        refine wpP_last rfl rfl rfl (fun K hK => ?_)
        go_simp
        refine hK _ _ ?_
        clear hK K
        refine wpP_done ?_
        clear l_l_0 l_l_1 l_y3 y3 fr hxr
        have hdr := (Below.refl (u1.setCell ⟨g_l, o_l + i * 4 + 3, none⟩ (.int .u64 (U (ms ^^^ change)))).heap.size (u1.setCell ⟨g_l, o_l + i * 4 + 3, none⟩ (.int .u64 (U (ms ^^^ change))))).drew
        replace hB : Below w.heap.size w (u1.setCell ⟨g_l, o_l + i * 4 + 3, none⟩ (.int .u64 (U (ms ^^^ change)))) := hB.setCell (by show w.heap.size ≤ g_l; omega) _
        replace k_k : (u1.setCell ⟨g_l, o_l + i * 4 + 3, none⟩ (.int .u64 (U (ms ^^^ change)))).heap[b_k]? = some _ := (Below.heap_setCell u1 ⟨g_l, o_l + i * 4 + 3, none⟩ _ b_k (by show b_k ≠ g_l; omega)).trans k_k
        replace k_l : (u1.setCell ⟨g_l, o_l + i * 4 + 3, none⟩ (.int .u64 (U (ms ^^^ change)))).heap[b_l]? = some _ := (Below.heap_setCell u1 ⟨g_l, o_l + i * 4 + 3, none⟩ _ b_l (by show b_l ≠ g_l; omega)).trans k_l
        replace k_k := keep k_k hdr
        replace k_l := keep k_l hdr
        replace hB := hB.trans (hdr.mono hB.size)
        have HT2 := HTurn.out.later hdr
        clear HTurn hdr
        generalize (u1.setCell ⟨g_l, o_l + i * 4 + 3, none⟩ (.int .u64 (U (ms ^^^ change)))).drew = uT at *
        have x_k_0 := cell_at k_k 0
        have x_k_1 := cell_at k_k 1
        have x_l_0 := cell_at k_l 0
        have x_l_1 := cell_at k_l 1
        go_wp2_with fail
        clear x_k_0 x_k_1 x_l_0 x_l_1
        refine (HC2.out _ _ _ HT2.at_).mono ?_
        rintro e u2 ⟨rfl, hC⟩
        replace k_k := keep k_k hC
        replace k_l := keep k_l hC
        replace HT2 := HT2.later hC
        replace hB := hB.trans (hC.mono hB.size)
        clear hC
        have x_k_0 := cell_at k_k 0
        have x_k_1 := cell_at k_k 1
        have x_l_0 := cell_at k_l 0
        have x_l_1 := cell_at k_l 1
        go_wp2_with fail
        clear x_k_0 x_k_1 x_l_0 x_l_1
        refine (HRi.out _ _ _ HT2.at_).mono ?_
        rintro e u3 ⟨rfl, hC⟩
        replace k_k := keep k_k hC
        replace k_l := keep k_l hC
        replace HT2 := HT2.later hC
        replace hB := hB.trans (hC.mono hB.size)
        clear hC
        go_wp2_with fail
        go_ret
        exact ⟨rfl, hB⟩
    · have hjI : ¬ (j : Int) < (N : Int) := by omega
      have g0 := HGood.out j hj30
      rw [← HZ0.out] at g0
      have hch := chain_good g0
      rw [HLen.out] at hch
      have HC := Lib.hid (fun A c W hA => by
        have h := Chained_any a b 0#64 A c (Md j) j (HLen.out j) (by omega) (fun i _ => Nat.le_trans (HX2.out j i) (by decide)) W hA
        rw [hch, decide_eq_true (rfl : j = j), show U 0#64 = 0 by decide +kernel] at h
        exact h)
      have HG0 := Lib.hid g0
      clear g0 hch
      have x_k_0 := cell_at k_k 0
      have x_k_1 := cell_at k_k 1
      have x_l_0 := cell_at k_l 0
      have x_l_1 := cell_at k_l 1
      go_wp2_with fail
      clear x_k_0 x_k_1 x_l_0 x_l_1
      refine (HC.out _ _ _ a_l.at_).mono ?_
      rintro e u1 ⟨rfl, hC⟩
      replace k_k := keep k_k hC
      replace k_l := keep k_l hC
      replace a_l := a_l.later hC
      replace hB := hB.trans (hC.mono hB.size)
      clear hC
      by_cases h0 : at_ < 0
      · have x_l_0 := cell_at k_l 0
        have x_l_1 := cell_at k_l 1
        go_wp2_with fail
        clear x_l_0 x_l_1
        go_ret
        exact ⟨rfl, hB⟩
      by_cases h1 : (j : Int) ≤ at_
      · have x_l_0 := cell_at k_l 0
        have x_l_1 := cell_at k_l 1
        go_wp2_with fail
        clear x_l_0 x_l_1
        go_ret
        exact ⟨rfl, hB⟩
      by_cases h2 : U change = 0
      · have x_l_0 := cell_at k_l 0
        have x_l_1 := cell_at k_l 1
        go_wp2_with fail
        clear x_l_0 x_l_1
        go_ret
        exact ⟨rfl, hB⟩
      obtain ⟨i, rfl⟩ : ∃ i : Nat, at_ = (i : Int) := ⟨at_.toNat, by omega⟩
      have hij : i < j := by omega
      have hi0 : (0 : Int) ≤ (i : Int) := by omega
      have hijI : (i : Int) < (j : Int) := by omega
      have hc0 : change ≠ 0#64 := fun e => h2 (by rw [e]; decide +kernel)
      obtain ⟨tf1, tf2, tf3⟩ := turn_found HG0.out (by rw [HLen.out]; exact hij) hc0
      rw [HLen.out] at tf2
      have hsz2 : ∀ k, k < j → (nthE (turnE (Md j) i change) k).x.size ≤ 60000 := fun k hk => by
        rw [nthE_turn _ _ _ _ (by rw [HLen.out]; exact hij)]
        split
        · exact Nat.le_trans (HX2.out j i) (by decide)
        · exact Nat.le_trans (HX2.out j k) (by decide)
      have HC2 := Lib.hid (fun A c W hA => by
        have h := Chained_any a b 0#64 A c (turnE (Md j) i change) j tf2 (by omega) hsz2 W hA
        rw [tf1, decide_eq_false (by omega : ¬ i = j), show U 0#64 = 0 by decide +kernel] at h
        exact h)
      have HRi := Lib.hid (fun A c W hA => by
        have h := Right_any a b 0#64 A c (turnE (Md j) i change) j tf2 (by omega) hsz2 W hA
        rw [tf3, HZ0.out] at h
        exact h)
      obtain ⟨g_l, o_l, cs_l, rfl, lo_l, hh_l, hf_l⟩ := a_l (by rw [HLen.out]; omega)
      have y3 := (hf_l i (by rw [HLen.out]; exact hij)).m
      have fr := free_at hh_l (o_l + i * 4 + 3)
      have hgl := (Array.getElem?_eq_some_iff.1 hh_l).1
      have HTurn := Lib.hid (a_l.turn (c := change) (by rw [HLen.out]; exact hij))
      obtain ⟨ms, hms⟩ : ∃ ms, (nthE (Md j) i).m = ms := ⟨_, rfl⟩
      rw [hms] at y3 HTurn
      have hxr := U_xor ms change
      have h2b : (U change == 0) = false := by simpa using h2
      clear tf1 tf2 tf3 hsz2 hc0 hf_l hh_l hms
      clear a_l
      have x_l_0 := cell_at k_l 0
      have x_l_1 := cell_at k_l 1
      go_wp2_with fail
      clear x_l_0 x_l_1
      have l_l_0 : ∀ s : Later u1.heap.size u1, s.W.cell? ⟨b_l, 0, none⟩ = some _ := fun s => s.cell (cell_at k_l 0) (Array.getElem?_eq_some_iff.1 k_l).1
      have l_l_1 : ∀ s : Later u1.heap.size u1, s.W.cell? ⟨b_l, 1, none⟩ = some _ := fun s => s.cell (cell_at k_l 1) (Array.getElem?_eq_some_iff.1 k_l).1
      have l_y3 : ∀ s : Later u1.heap.size u1, s.W.cell? ⟨g_l, o_l + i * 4 + 3, none⟩ = some _ := fun s => s.cell y3 hgl
      refine region_plan_plain (C := fun W' => ∃ s : Later u1.heap.size u1, W' = s.W) [3, 0, 3, 3, 0, 3, 3, 3, 0, 3, 3, 3, 3, 2] (.calm 0 (.calm 1 (.calm 2 (.calm 3 (.calm 4 (.calm 5 (.calm 6 (.calm 7 (.calm 8 (.calm 9 (.calm 10 (.calm 11 (.calm 12 (.one 13 .done)))))))))))))) (by kernel_rfl) (by kernel_rfl) (by kernel_rfl) (by kernel_rfl) (by kernel_rfl) ⟨⟨u1.drew, (Below.refl _ u1).drew⟩, rfl⟩ ?_
      refine wpP_plain rfl rfl (fun K hK => ?_); go_simp; refine hK _ ?_; clear hK K
      refine wpP_calm rfl rfl (fun K hK => ?_); go_simp; refine hK _ ?_; clear hK K
      refine wpP_plain rfl rfl (fun K hK => ?_); go_simp; refine hK _ ?_; clear hK K
      refine wpP_plain rfl rfl (fun K hK => ?_); go_simp; refine hK _ ?_; clear hK K
      refine wpP_calm rfl rfl (fun K hK => ?_); go_simp; refine hK _ ?_; clear hK K
      refine wpP_plain rfl rfl (fun K hK => ?_); go_simp; refine hK _ ?_; clear hK K
      refine wpP_plain rfl rfl (fun K hK => ?_); go_simp; refine hK _ ?_; clear hK K
      refine wpP_plain rfl rfl (fun K hK => ?_); go_simp; refine hK _ ?_; clear hK K
      refine wpP_calm rfl rfl (fun K hK => ?_); go_simp; refine hK _ ?_; clear hK K
      refine wpP_plain rfl rfl (fun K hK => ?_); go_simp; refine hK _ ?_; clear hK K
      refine wpP_plain rfl rfl (fun K hK => ?_); go_simp; refine hK _ ?_; clear hK K
      refine wpP_plain rfl rfl (fun K hK => ?_); go_simp; refine hK _ ?_; clear hK K
      refine wpP_plain rfl rfl (fun K hK => ?_); go_simp; refine hK _ ?_; clear hK K
      refine wpP_last rfl rfl rfl (fun K hK => ?_)
      go_simp
      refine hK _ _ ?_
      clear hK K
      refine wpP_done ?_
      clear l_l_0 l_l_1 l_y3 y3 fr hxr
      have hdr := (Below.refl (u1.setCell ⟨g_l, o_l + i * 4 + 3, none⟩ (.int .u64 (U (ms ^^^ change)))).heap.size (u1.setCell ⟨g_l, o_l + i * 4 + 3, none⟩ (.int .u64 (U (ms ^^^ change))))).drew
      replace hB : Below w.heap.size w (u1.setCell ⟨g_l, o_l + i * 4 + 3, none⟩ (.int .u64 (U (ms ^^^ change)))) := hB.setCell (by show w.heap.size ≤ g_l; omega) _
      replace k_k : (u1.setCell ⟨g_l, o_l + i * 4 + 3, none⟩ (.int .u64 (U (ms ^^^ change)))).heap[b_k]? = some _ := (Below.heap_setCell u1 ⟨g_l, o_l + i * 4 + 3, none⟩ _ b_k (by show b_k ≠ g_l; omega)).trans k_k
      replace k_l : (u1.setCell ⟨g_l, o_l + i * 4 + 3, none⟩ (.int .u64 (U (ms ^^^ change)))).heap[b_l]? = some _ := (Below.heap_setCell u1 ⟨g_l, o_l + i * 4 + 3, none⟩ _ b_l (by show b_l ≠ g_l; omega)).trans k_l
      replace k_k := keep k_k hdr
      replace k_l := keep k_l hdr
      replace hB := hB.trans (hdr.mono hB.size)
      have HT2 := HTurn.out.later hdr
      clear HTurn hdr
      generalize (u1.setCell ⟨g_l, o_l + i * 4 + 3, none⟩ (.int .u64 (U (ms ^^^ change)))).drew = uT at *
      have x_k_0 := cell_at k_k 0
      have x_k_1 := cell_at k_k 1
      have x_l_0 := cell_at k_l 0
      have x_l_1 := cell_at k_l 1
      go_wp2_with fail
      clear x_k_0 x_k_1 x_l_0 x_l_1
      refine (HC2.out _ _ _ HT2.at_).mono ?_
      rintro e u2 ⟨rfl, hC⟩
      replace k_k := keep k_k hC
      replace k_l := keep k_l hC
      replace HT2 := HT2.later hC
      replace hB := hB.trans (hC.mono hB.size)
      clear hC
      have x_k_0 := cell_at k_k 0
      have x_k_1 := cell_at k_k 1
      have x_l_0 := cell_at k_l 0
      have x_l_1 := cell_at k_l 1
      go_wp2_with fail
      clear x_k_0 x_k_1 x_l_0 x_l_1
      refine (HRi.out _ _ _ HT2.at_).mono ?_
      rintro e u3 ⟨rfl, hC⟩
      replace k_k := keep k_k hC
      replace k_l := keep k_l hC
      replace HT2 := HT2.later hC
      replace hB := hB.trans (hC.mono hB.size)
      clear hC
      go_wp2_with fail
      go_ret
      exact ⟨rfl, hB⟩
end Go.Proofs.Ytdhbomipffidlaa
