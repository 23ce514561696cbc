/-
  The walk of AuditTells. Printed by gen_audl.py.
-/
import Derived.Test.YtdhbomipffidlaaAudS
namespace Go.Proofs.Ytdhbomipffidlaa
open Go.RowKit Go.Shelf
attribute [local go_sem] Oper.semAt_some calmOp calmUpon effOp effUpon

theorem wpP_effg {F : Fence} {n : Nat} {P : Program} {ops : Array Oper} {C : World → Prop} {Q : Act → World → Prop} {cs : List Nat} {i : Nat} {p : Plan} {a : Act} {w : World} {o : Oper} (h0 : ops[i]? = some o) (hc : cs.getD i 0 = 1)
    (h : ∀ K : Value → World → Prop, (∀ v w', C w' → wpP F n P ops C cs Q p (a.put o.dst v) w' → K v w') → if Region.wanted o (yielded ops a.tmps) = true then effOp F n P o a w K else False) : wpP F n P ops C cs Q (.one i p) a w := by
  have h := h (fun v w' => ((1 : Nat) = 2 ∨ C w') ∧ wpP F n P ops C cs Q p (a.put o.dst v) w') (fun _ _ h1 h2 => ⟨.inr h1, h2⟩)
  split at h
  · rename_i hw
    unfold wpP opL
    simp only [h0, hc]
    rw [if_pos hw, if_pos (by simp [isEff])]
    exact h
  · exact h.elim

set_option maxRecDepth 100000 in
set_option maxHeartbeats 8000000 in
theorem walk_AuditTells {w : World} (a b q : BitVec 64) (p : BitVec 64) (A : Option Addr) (c : Nat) (l : LE) (hlc : l.length ≤ 9223372036854775807) (hz : ∀ j, j < l.length → (nthE l j).x.size ≤ 9223372036854775807) (hX : AtE w w.heap.size A l) (sq : BitVec 64) (p' : BitVec 64) (A' : Option Addr) (c' : Nat) (l' : LE) (hlc' : l'.length ≤ 9223372036854775807) (hz' : ∀ j, j < l'.length → (nthE l' j).x.size ≤ 9223372036854775807) (hX' : AtE w w.heap.size A' l') :
    Calls Try.prog 9 #[.agg #[.int .u64 (U a), .int .u64 (U b)], .int .u64 (U q), .agg #[.int .u64 (U p), .slice A l.length c], .int .u64 (U sq), .agg #[.int .u64 (U p'), .slice A' l'.length c']] w fun e w' => e = .returned (.bool true) ∧ Below w.heap.size w w' := by
  have HF_l := Lib.hid (fun W h => Few_any p A c l l.length rfl hlc hz W h)
  have hsz_l := fewE_size l
  have hle_l := fewE_length l
  obtain ⟨L_l, hL_l⟩ : ∃ L, fewE l = L := ⟨_, rfl⟩
  rw [hL_l] at HF_l hsz_l hle_l
  obtain ⟨N_l, hN_l⟩ : ∃ N, L_l.length = N := ⟨_, rfl⟩
  rw [hN_l] at HF_l hsz_l hle_l
  have HN_l := Lib.hid hN_l
  have HS_l := Lib.hid (fun j hj => Nat.le_trans (hsz_l j hj) (show 210 ≤ 60000 by decide))
  obtain ⟨n0_l, hn0_l⟩ : ∃ n, l.length = n := ⟨_, rfl⟩
  rw [hn0_l] at HF_l ⊢
  clear hsz_l hL_l hN_l hn0_l hz
  have HF_m := Lib.hid (fun W h => Few_any p' A' c' l' l'.length rfl hlc' hz' W h)
  have hsz_m := fewE_size l'
  have hle_m := fewE_length l'
  obtain ⟨L_m, hL_m⟩ : ∃ L, fewE l' = L := ⟨_, rfl⟩
  rw [hL_m] at HF_m hsz_m hle_m
  obtain ⟨N_m, hN_m⟩ : ∃ N, L_m.length = N := ⟨_, rfl⟩
  rw [hN_m] at HF_m hsz_m hle_m
  have HN_m := Lib.hid hN_m
  obtain ⟨n0_m, hn0_m⟩ : ∃ n, l'.length = n := ⟨_, rfl⟩
  rw [hn0_m] at HF_m ⊢
  clear hsz_m hL_m hN_m hn0_m hz'
  have HC := Lib.hid (fun A c W hA => Chained_any a b q A c L_l N_l HN_l.out (by omega) HS_l.out W hA)
  have HRC := Lib.hid (fun A c W hA => refChained_any a b q A c L_l N_l HN_l.out (by omega) HS_l.out W hA)
  have HHl := Lib.hid (fun A c W hA => Head_any p A c L_l N_l HN_l.out (by omega) W hA)
  have HRHl := Lib.hid (fun A c W hA => refHead_any p A c L_l N_l HN_l.out (by omega) W hA)
  have HLl := Lib.hid (fun A c W hA => Last_any p A c L_l N_l HN_l.out (by omega) W hA)
  have HRLl := Lib.hid (fun A c W hA => refLast_any p A c L_l N_l HN_l.out (by omega) W hA)
  have HF := Lib.hid (fun A c W hA => From_any p A c L_l N_l HN_l.out (by omega) sq W hA)
  have HRF := Lib.hid (fun A c W hA => refFrom_any p A c L_l N_l HN_l.out (by omega) sq W hA)
  have hfl := fromE_length L_l sq
  rw [HN_l.out] at hfl
  obtain ⟨LF, hLF⟩ : ∃ l, fromE L_l sq = l := ⟨_, rfl⟩
  rw [hLF] at HF HRF hfl
  obtain ⟨NF, hNF⟩ : ∃ n, LF.length = n := ⟨_, rfl⟩
  rw [hNF] at hfl
  have HNF := Lib.hid hNF
  have HEnt := Lib.hid (fun A A' c c' W hA hA' => by
    have h := entries_any A A' c c' LF LF NF NF HNF.out HNF.out (by omega) W hA hA'
    rw [decide_eq_true rfl] at h
    exact h)
  have HS1 := Lib.hid (fun A A' c c' W hA hA' => Same_any p p' A A' c c' L_l L_m N_l N_m HN_l.out HN_m.out (by omega) W hA hA')
  have HS2 := Lib.hid (fun A A' c c' W hA hA' => refSame_any p p' A A' c c' L_l L_m N_l N_m HN_l.out HN_m.out (by omega) W hA hA')
  have HS3 := Lib.hid (fun A A' c c' W hA hA' => by
    have h := Same_any p p A A' c c' L_l L_l N_l N_l HN_l.out HN_l.out (by omega) W hA hA'
    rw [decide_eq_true (rfl : p = p), decide_eq_true (rfl : L_l = L_l), Bool.and_true] at h
    exact h)
  obtain ⟨R, hR⟩ : ∃ R, (decide (p = p') && decide (L_l = L_m)) = R := ⟨_, rfl⟩
  rw [hR] at HS1 HS2
  obtain ⟨C1, hC1⟩ : ∃ C, chainE a b q L_l = C := ⟨_, rfl⟩
  rw [hC1] at HC HRC
  obtain ⟨D1, hD1⟩ : ∃ D, decide (C1 = N_l) = D := ⟨_, rfl⟩
  rw [hD1] at HC HRC
  obtain ⟨z, hz9⟩ : ∃ z, lastE p L_l = z := ⟨_, rfl⟩
  rw [hz9] at HHl HRHl HLl HRLl
  have HX := Lib.hid hX
  have HX' := Lib.hid hX'
  clear hX hX' hLF hNF hR hC1 hD1 hz9
  go_enter Try.func9, Try.ntmps9
  have hB : Below w.heap.size w w := Below.refl _ w
  go_wp2_with fail
  have hA : Below w.heap.size w (((w.alloc (.cells #[.int .u64 (U a), .int .u64 (U b)] 24)).alloc (.cells #[.int .u64 (U p), .slice A n0_l c] 27)).alloc (.cells #[.int .u64 (U p'), .slice A' n0_m c'] 27)) := (((Below.refl _ w).alloc (Nat.le_refl _) _).alloc (by simp) _).alloc (by simp; omega) _
  have hq0 := hB.size
  replace hB := hB.trans (hA.mono hB.size)
  have k_k : (((w.alloc (.cells #[.int .u64 (U a), .int .u64 (U b)] 24)).alloc (.cells #[.int .u64 (U p), .slice A n0_l c] 27)).alloc (.cells #[.int .u64 (U p'), .slice A' n0_m c'] 27)).heap[w.heap.size]? = some (.cells #[.int .u64 (U a), .int .u64 (U b)] 24 (0, 0)) := old_at (old_at (new_at _ _ _ rfl))
  have k_l : (((w.alloc (.cells #[.int .u64 (U a), .int .u64 (U b)] 24)).alloc (.cells #[.int .u64 (U p), .slice A n0_l c] 27)).alloc (.cells #[.int .u64 (U p'), .slice A' n0_m c'] 27)).heap[w.heap.size + 1]? = some (.cells #[.int .u64 (U p), .slice A n0_l c] 27 (0, 0)) := old_at (new_at _ _ _ (by simp))
  have k_m : (((w.alloc (.cells #[.int .u64 (U a), .int .u64 (U b)] 24)).alloc (.cells #[.int .u64 (U p), .slice A n0_l c] 27)).alloc (.cells #[.int .u64 (U p'), .slice A' n0_m c'] 27)).heap[w.heap.size + 1 + 1]? = some (.cells #[.int .u64 (U p'), .slice A' n0_m c'] 27 (0, 0)) := new_at _ _ _ (by simp)
  obtain ⟨b_m, hb2⟩ : ∃ b, w.heap.size + 1 + 1 = b := ⟨_, rfl⟩
  have q_m : w.heap.size ≤ b_m := by omega
  rw [hb2] at k_m ⊢
  obtain ⟨b_l, hb1⟩ : ∃ b, w.heap.size + 1 = b := ⟨_, rfl⟩
  have q_l : w.heap.size ≤ b_l := by omega
  rw [hb1] at k_l ⊢
  obtain ⟨b_k, hb0⟩ : ∃ b, w.heap.size = b := ⟨_, rfl⟩
  have q_k : w.heap.size ≤ b_k := by omega
  rw [hb0] at k_k ⊢
  have lt_k_l : b_k < b_l := by omega
  have lt_l_m : b_l < b_m := by omega
  clear hA hq0 hb0 hb1 hb2
  generalize (((w.alloc (.cells #[.int .u64 (U a), .int .u64 (U b)] 24)).alloc (.cells #[.int .u64 (U p), .slice A n0_l c] 27)).alloc (.cells #[.int .u64 (U p'), .slice A' n0_m c'] 27)) = u1 at *
  refine (shown_any _).mono ?_
  rintro e u2 ⟨rfl, hC⟩
  replace k_k := keep k_k hC
  replace k_l := keep k_l hC
  replace k_m := keep k_m hC
  replace hB := hB.trans (hC.mono hB.size)
  clear hC
  have x_l_0 := cell_at k_l 0
  have x_l_1 := cell_at k_l 1
  go_wp2_with fail
  clear x_l_0 x_l_1
  refine (HF_l.out _ ((HX.out.below hB).mono hB.size)).mono ?_
  rintro e u3 ⟨hC, A_l, c_l, rfl, n_l, a_l⟩
  replace a_l := a_l.mono (show b_m + 1 ≤ _ from (Array.getElem?_eq_some_iff.1 k_m).1)
  replace k_k := keep k_k hC
  replace k_l := keep k_l hC
  replace k_m := keep k_m hC
  replace hB := hB.trans (hC.mono hB.size)
  clear hC
  have x_l_0 := cell_at k_l 0
  have fr_0 := free_at k_l 0
  have x_l_1 := cell_at k_l 1
  have fr_1 := free_at k_l 1
  have hP : Put u3 ((u3.setCell ⟨b_l, 0, none⟩ (.int .u64 (U p))).setCell ⟨b_l, 1, none⟩ (.slice A_l N_l c_l)) b_l (.cells #[.int .u64 (U p), .slice A_l N_l c_l] 27 (0, 0)) := ((Put.refl k_l).set 0 (.int .u64 (U p))).set 1 (.slice A_l N_l c_l)
  have HP := Lib.hid hP
  clear hP
  have x_m_0 := cell_at k_m 0
  have x_m_1 := cell_at k_m 1
  go_wp2_with fail
  clear x_m_0 x_m_1
  clear x_l_0 x_l_1 fr_0 fr_1
  have hP := HP.out
  replace hB := hB.trans (hP.below (by omega))
  replace k_k := (hP.other (by omega)).trans k_k
  replace k_m := (hP.other (by omega)).trans k_m
  replace a_l := a_l.put hP (by omega)
  replace k_l := hP.get (Array.getElem?_eq_some_iff.1 k_l).1
  clear hP HP
  generalize ((u3.setCell ⟨b_l, 0, none⟩ (.int .u64 (U p))).setCell ⟨b_l, 1, none⟩ (.slice A_l N_l c_l)) = u4 at *
  clear u3
  refine (HF_m.out _ ((HX'.out.below hB).mono hB.size)).mono ?_
  rintro e u5 ⟨hC, A_m, c_m, rfl, n_m, a_m⟩
  replace a_m := a_m.mono (show b_m + 1 ≤ _ from (Array.getElem?_eq_some_iff.1 k_m).1)
  replace k_k := keep k_k hC
  replace k_l := keep k_l hC
  replace k_m := keep k_m hC
  replace a_l := a_l.later hC
  replace hB := hB.trans (hC.mono hB.size)
  clear hC
  have x_m_0 := cell_at k_m 0
  have fr_0 := free_at k_m 0
  have x_m_1 := cell_at k_m 1
  have fr_1 := free_at k_m 1
  have hP : Put u5 ((u5.setCell ⟨b_m, 0, none⟩ (.int .u64 (U p'))).setCell ⟨b_m, 1, none⟩ (.slice A_m N_m c_m)) b_m (.cells #[.int .u64 (U p'), .slice A_m N_m c_m] 27 (0, 0)) := ((Put.refl k_m).set 0 (.int .u64 (U p'))).set 1 (.slice A_m N_m c_m)
  have HP := Lib.hid hP
  clear hP
  have x_k_0 := cell_at k_k 0
  have x_k_1 := cell_at k_k 1
  have x_l_0 := cell_at k_l 0
  have x_l_1 := cell_at k_l 1
  go_wp2_with fail
  clear x_k_0 x_k_1 x_l_0 x_l_1
  clear x_m_0 x_m_1 fr_0 fr_1
  have hP := HP.out
  replace hB := hB.trans (hP.below (by omega))
  replace k_k := (hP.other (by omega)).trans k_k
  replace k_l := (hP.other (by omega)).trans k_l
  replace a_l := a_l.put hP (by omega)
  replace a_m := a_m.put hP (by omega)
  replace k_m := hP.get (Array.getElem?_eq_some_iff.1 k_m).1
  clear hP HP
  generalize ((u5.setCell ⟨b_m, 0, none⟩ (.int .u64 (U p'))).setCell ⟨b_m, 1, none⟩ (.slice A_m N_m c_m)) = u6 at *
  clear u5
  refine (HC.out _ c_l _ a_l.at_).mono ?_
  rintro e u7 ⟨rfl, hC⟩
  replace k_k := keep k_k hC
  replace k_l := keep k_l hC
  replace k_m := keep k_m hC
  replace a_l := a_l.later hC
  replace a_m := a_m.later hC
  replace hB := hB.trans (hC.mono hB.size)
  clear hC
  have x_k_0 := cell_at k_k 0
  have x_k_1 := cell_at k_k 1
  have x_l_0 := cell_at k_l 0
  have x_l_1 := cell_at k_l 1
  go_wp2_with fail
  clear x_k_0 x_k_1 x_l_0 x_l_1
  refine (HRC.out _ c_l _ a_l.at_).mono ?_
  rintro e u8 ⟨rfl, hC⟩
  replace k_k := keep k_k hC
  replace k_l := keep k_l hC
  replace k_m := keep k_m hC
  replace a_l := a_l.later hC
  replace a_m := a_m.later hC
  replace hB := hB.trans (hC.mono hB.size)
  clear hC
  go_wp2_with fail
  go_loopw [16] (fun iv wr => ∃ j : Nat, j ≤ N_l ∧ iv = .int .i64 j ∧ Below w.heap.size w wr ∧ wr.heap[b_k]? = some (.cells #[.int .u64 (U a), .int .u64 (U b)] 24 (0, 0)) ∧ wr.heap[b_l]? = some (.cells #[.int .u64 (U p), .slice A_l N_l c_l] 27 (0, 0)) ∧ wr.heap[b_m]? = some (.cells #[.int .u64 (U p'), .slice A_m N_m c_m] 27 (0, 0)) ∧ LieE wr (b_m + 1) A_l L_l ∧ LieE wr (b_m + 1) A_m L_m) (fun iv _ => N_l - (intOf iv).toNat)
  case atStart => exact ⟨0, Nat.zero_le _, rfl, hB, k_k, k_l, k_m, a_l, a_m⟩
  case round =>
    clear hB k_k k_l k_m a_l a_m
    obtain ⟨j, hj, rfl, hB, k_k, k_l, k_m, a_l, a_m⟩ := hrel
    obtain ⟨wo, rfl⟩ : ∃ wo : World, wo = wr := ⟨_, rfl⟩
    by_cases hjk : j < N_l
    · have hjI : (j : Int) < (N_l : Int) := by omega
      have hjI0 : (0 : Int) ≤ (j : Int) := by omega
      obtain ⟨g_l, o_l, cs_l, rfl, lo_l, hh_l, hf_l⟩ := a_l (by rw [HN_l.out]; omega)
      have hgl := (Array.getElem?_eq_some_iff.1 hh_l).1
      obtain ⟨y0, y1, y2, y3⟩ := hf_l j (by rw [HN_l.out]; exact hjk)
      have HSu := Lib.hid (fun W => Sum_any a b q (nthE L_l j) (HS_l.out j hjk) W)
      have HRSu := Lib.hid (fun W => refSum2_any a b q (nthE L_l j) (HS_l.out j hjk) W)
      unfold Ent.val at HSu HRSu
      obtain ⟨Z, hZ⟩ : ∃ Z, sumE a b q (nthE L_l j) = Z := ⟨_, rfl⟩
      rw [hZ] at HSu HRSu
      clear hf_l hZ hh_l lo_l
      have x_l_0 := cell_at k_l 0
      have x_l_1 := cell_at k_l 1
      go_wp2_with fail
      clear x_l_0 x_l_1
      have ly0 : ∀ s : Later wo.heap.size wo, s.W.cell? ⟨g_l, o_l + j * 4, none⟩ = some (_) := fun s => s.cell (y0) (hgl)
      have ly1 : ∀ s : Later wo.heap.size wo, s.W.cell? ⟨g_l, o_l + j * 4 + 1, none⟩ = some (_) := fun s => s.cell (y1) (hgl)
      have ly2 : ∀ s : Later wo.heap.size wo, s.W.cell? ⟨g_l, o_l + j * 4 + 2, none⟩ = some (_) := fun s => s.cell (y2) (hgl)
      have ly3 : ∀ s : Later wo.heap.size wo, s.W.cell? ⟨g_l, o_l + j * 4 + 3, none⟩ = some (_) := fun s => s.cell (y3) (hgl)
      refine wp_region_later wo.heap.size (by kernel_rfl) (by kernel_rfl) ?_
      have l_k_0 : ∀ s : Later wo.heap.size wo, s.W.cell? ⟨b_k, 0, none⟩ = some _ := fun s => s.cell (cell_at k_k 0) (Array.getElem?_eq_some_iff.1 k_k).1
      have l_k_1 : ∀ s : Later wo.heap.size wo, s.W.cell? ⟨b_k, 1, none⟩ = some _ := fun s => s.cell (cell_at k_k 1) (Array.getElem?_eq_some_iff.1 k_k).1
      have l_l_0 : ∀ s : Later wo.heap.size wo, s.W.cell? ⟨b_l, 0, none⟩ = some _ := fun s => s.cell (cell_at k_l 0) (Array.getElem?_eq_some_iff.1 k_l).1
      have l_l_1 : ∀ s : Later wo.heap.size wo, s.W.cell? ⟨b_l, 1, none⟩ = some _ := fun s => s.cell (cell_at k_l 1) (Array.getElem?_eq_some_iff.1 k_l).1
      repeat (go_big_quiet_step (first | (go_at_call 21; with_reducible first | exact Calls.later (Nat.le_refl _) (HSu.out _)) | (go_at_call 25; with_reducible first | exact Calls.later (Nat.le_refl _) (HRSu.out _))))
      refine wpQuiet_nil ?_
      rintro _ ⟨s, rfl⟩
      clear ly0 ly1 ly2 ly3 l_k_0 l_k_1 l_l_0 l_l_1
      have hC := s.below
      replace k_k := keep k_k hC
      replace k_l := keep k_l hC
      replace k_m := keep k_m hC
      replace a_l := a_l.later hC
      replace a_m := a_m.later hC
      replace hB := hB.trans (hC.mono hB.size)
      clear hC
      clear y0 y1 y2 y3
      go_wp2_with fail
      go_roundw
      case rel => exact ⟨j + 1, by omega, by go_num, hB, k_k, k_l, k_m, a_l, a_m⟩
      case measure => simp [intOf]; omega
    · obtain rfl : N_l = j := by omega
      have x_l_0 := cell_at k_l 0
      have x_l_1 := cell_at k_l 1
      go_wp2_with fail
      clear x_l_0 x_l_1
      have l_l_0 : ∀ s : Later wo.heap.size wo, s.W.cell? ⟨b_l, 0, none⟩ = some _ := fun s => s.cell (cell_at k_l 0) (Array.getElem?_eq_some_iff.1 k_l).1
      have l_l_1 : ∀ s : Later wo.heap.size wo, s.W.cell? ⟨b_l, 1, none⟩ = some _ := fun s => s.cell (cell_at k_l 1) (Array.getElem?_eq_some_iff.1 k_l).1
      have l_m_0 : ∀ s : Later wo.heap.size wo, s.W.cell? ⟨b_m, 0, none⟩ = some _ := fun s => s.cell (cell_at k_m 0) (Array.getElem?_eq_some_iff.1 k_m).1
      have l_m_1 : ∀ s : Later wo.heap.size wo, s.W.cell? ⟨b_m, 1, none⟩ = some _ := fun s => s.cell (cell_at k_m 1) (Array.getElem?_eq_some_iff.1 k_m).1
      have HAl := Lib.hid a_l
      have HAm := Lib.hid a_m
      have HB := Lib.hid hB
      clear hB k_k k_l k_m a_l a_m
      refine region_plan_plain (C := fun W' => ∃ s : Later wo.heap.size wo, W' = s.W) [3, 3, 3, 3, 3, 3, 3, 3, 3, 3, 3, 3, 0, 1, 0, 1, 3, 3, 3, 0, 1, 0, 1, 3, 3, 3, 0, 3, 1, 0, 3, 1, 1, 3, 3, 0, 0, 1, 0, 0, 1, 3, 3, 3, 0, 0, 1, 3, 3] (.calm 0 (.calm 1 (.calm 2 (.calm 3 (.calm 4 (.calm 5 (.calm 6 (.calm 7 (.calm 8 (.calm 9 (.calm 10 (.calm 11 (.calm 12 (.calm 14 (.one 13 (.one 15 (.calm 16 (.calm 17 (.calm 18 (.calm 19 (.calm 21 (.one 20 (.one 22 (.calm 23 (.calm 24 (.calm 25 (.calm 26 (.calm 27 (.calm 29 (.calm 30 (.one 28 (.one 31 (.one 32 (.calm 33 (.calm 34 (.calm 35 (.calm 36 (.calm 38 (.calm 39 (.one 37 (.one 40 (.calm 41 (.calm 42 (.calm 43 (.calm 44 (.calm 45 (.one 46 (.calm 47 (.calm 48 .done))))))))))))))))))))))))))))))))))))))))))))))))) (by kernel_rfl) (by kernel_rfl) (by kernel_rfl) (by kernel_rfl) (by kernel_rfl) ⟨⟨wo.drew, (Below.refl _ wo).drew⟩, rfl⟩ ?_
      have hb0 : Below wo.heap.size wo wo.drew := (Below.refl _ wo).drew
      refine wpP_plain rfl rfl (fun K hK => ?_); go_simp; refine hK _ ?_; clear hK K
      refine wpP_plain rfl rfl (fun K hK => ?_); go_simp; refine hK _ ?_; clear hK K
      refine wpP_plain rfl rfl (fun K hK => ?_); go_simp; refine hK _ ?_; clear hK K
      refine wpP_plain rfl rfl (fun K hK => ?_); go_simp; refine hK _ ?_; clear hK K
      refine wpP_plain rfl rfl (fun K hK => ?_); go_simp; refine hK _ ?_; clear hK K
      refine wpP_plain rfl rfl (fun K hK => ?_); go_simp; refine hK _ ?_; clear hK K
      refine wpP_plain rfl rfl (fun K hK => ?_); go_simp; refine hK _ ?_; clear hK K
      refine wpP_plain rfl rfl (fun K hK => ?_); go_simp; refine hK _ ?_; clear hK K
      refine wpP_plain rfl rfl (fun K hK => ?_); go_simp; refine hK _ ?_; clear hK K
      refine wpP_plain rfl rfl (fun K hK => ?_); go_simp; refine hK _ ?_; clear hK K
      refine wpP_plain rfl rfl (fun K hK => ?_); go_simp; refine hK _ ?_; clear hK K
      refine wpP_plain rfl rfl (fun K hK => ?_); go_simp; refine hK _ ?_; clear hK K
      refine wpP_calm rfl rfl (fun K hK => ?_); go_simp; refine hK _ ?_; clear hK K
      refine wpP_calm rfl rfl (fun K hK => ?_); go_simp; refine hK _ ?_; clear hK K
      refine wpP_effg rfl rfl (fun K hK => ?_)
      go_simp
      refine ⟨trivial, (callsIn_wide.2 (HHl.out _ c_l wo.drew ((HAl.out.later hb0).at_))).mono ?_⟩
      rintro e v1 ⟨rfl, hC⟩
      have hb1 : Below wo.heap.size wo v1 := hb0.trans (hC.mono hb0.size)
      refine ⟨_, rfl, hK _ _ ⟨⟨_, hb1⟩, rfl⟩ ?_⟩
      clear hK K hC
      refine wpP_effg rfl rfl (fun K hK => ?_)
      go_simp
      refine ⟨trivial, (callsIn_wide.2 (HRHl.out _ c_l v1 ((HAl.out.later hb1).at_))).mono ?_⟩
      rintro e v2 ⟨rfl, hC⟩
      have hb2 : Below wo.heap.size wo v2 := hb1.trans (hC.mono hb1.size)
      refine ⟨_, rfl, hK _ _ ⟨⟨_, hb2⟩, rfl⟩ ?_⟩
      clear hK K hC
      refine wpP_plain rfl rfl (fun K hK => ?_); go_simp; refine hK _ ?_; clear hK K
      refine wpP_plain rfl rfl (fun K hK => ?_); go_simp; refine hK _ ?_; clear hK K
      refine wpP_plain rfl rfl (fun K hK => ?_); go_simp; refine hK _ ?_; clear hK K
      refine wpP_calm rfl rfl (fun K hK => ?_); go_simp; refine hK _ ?_; clear hK K
      refine wpP_calm rfl rfl (fun K hK => ?_); go_simp; refine hK _ ?_; clear hK K
      refine wpP_effg rfl rfl (fun K hK => ?_)
      go_simp
      refine ⟨trivial, (callsIn_wide.2 (HLl.out _ c_l v2 ((HAl.out.later hb2).at_))).mono ?_⟩
      rintro e v3 ⟨rfl, hC⟩
      have hb3 : Below wo.heap.size wo v3 := hb2.trans (hC.mono hb2.size)
      refine ⟨_, rfl, hK _ _ ⟨⟨_, hb3⟩, rfl⟩ ?_⟩
      clear hK K hC
      refine wpP_effg rfl rfl (fun K hK => ?_)
      go_simp
      refine ⟨trivial, (callsIn_wide.2 (HRLl.out _ c_l v3 ((HAl.out.later hb3).at_))).mono ?_⟩
      rintro e v4 ⟨rfl, hC⟩
      have hb4 : Below wo.heap.size wo v4 := hb3.trans (hC.mono hb3.size)
      refine ⟨_, rfl, hK _ _ ⟨⟨_, hb4⟩, rfl⟩ ?_⟩
      clear hK K hC
      refine wpP_plain rfl rfl (fun K hK => ?_); go_simp; refine hK _ ?_; clear hK K
      refine wpP_plain rfl rfl (fun K hK => ?_); go_simp; refine hK _ ?_; clear hK K
      refine wpP_plain rfl rfl (fun K hK => ?_); go_simp; refine hK _ ?_; clear hK K
      refine wpP_calm rfl rfl (fun K hK => ?_); go_simp; refine hK _ ?_; clear hK K
      refine wpP_plain rfl rfl (fun K hK => ?_); go_simp; refine hK _ ?_; clear hK K
      refine wpP_calm rfl rfl (fun K hK => ?_); go_simp; refine hK _ ?_; clear hK K
      refine wpP_plain rfl rfl (fun K hK => ?_); go_simp; refine hK _ ?_; clear hK K
      refine wpP_effg rfl rfl (fun K hK => ?_)
      go_simp
      refine ⟨trivial, (callsIn_wide.2 (HF.out _ c_l v4 ((HAl.out.later hb4).at_))).mono ?_⟩
      rintro e v5 ⟨hC, vv, rfl, ow⟩
      obtain ⟨A_f, c_f, rfl, -, a_f⟩ := ow.lie
      clear ow
      rw [HNF.out]
      have hb5 : Below wo.heap.size wo v5 := hb4.trans (hC.mono hb4.size)
      refine ⟨_, rfl, hK _ _ ⟨⟨_, hb5⟩, rfl⟩ ?_⟩
      clear hK K hC
      refine wpP_effg rfl rfl (fun K hK => ?_)
      go_simp
      refine ⟨trivial, (callsIn_wide.2 (HRF.out _ c_l v5 ((HAl.out.later hb5).at_))).mono ?_⟩
      rintro e v6 ⟨hC, vv, rfl, ow⟩
      obtain ⟨A_g, c_g, rfl, -, a_g⟩ := ow.lie
      clear ow
      rw [HNF.out]
      replace a_f := a_f.later hC
      have hb6 : Below wo.heap.size wo v6 := hb5.trans (hC.mono hb5.size)
      refine ⟨_, rfl, hK _ _ ⟨⟨_, hb6⟩, rfl⟩ ?_⟩
      clear hK K hC
      refine wpP_effg rfl rfl (fun K hK => ?_)
      go_simp
      refine ⟨trivial, (callsIn_wide.2 (HEnt.out _ _ c_f c_g v6 a_f.at_ a_g.at_)).mono ?_⟩
      rintro e v7 ⟨rfl, hC⟩
      have hb7 : Below wo.heap.size wo v7 := hb6.trans (hC.mono hb6.size)
      refine ⟨_, rfl, hK _ _ ⟨⟨_, hb7⟩, rfl⟩ ?_⟩
      clear hK K hC
      refine wpP_plain rfl rfl (fun K hK => ?_); go_simp; refine hK _ ?_; clear hK K
      refine wpP_plain rfl rfl (fun K hK => ?_); go_simp; refine hK _ ?_; clear hK K
      refine wpP_calm rfl rfl (fun K hK => ?_); go_simp; refine hK _ ?_; clear hK K
      refine wpP_calm rfl rfl (fun K hK => ?_); go_simp; refine hK _ ?_; clear hK K
      refine wpP_calm rfl rfl (fun K hK => ?_); go_simp; refine hK _ ?_; clear hK K
      refine wpP_calm rfl rfl (fun K hK => ?_); go_simp; refine hK _ ?_; clear hK K
      refine wpP_effg rfl rfl (fun K hK => ?_)
      go_simp
      refine ⟨trivial, (callsIn_wide.2 (HS1.out _ _ c_l c_m v7 ((HAl.out.later hb7).at_) ((HAm.out.later hb7).at_))).mono ?_⟩
      rintro e v8 ⟨rfl, hC⟩
      have hb8 : Below wo.heap.size wo v8 := hb7.trans (hC.mono hb7.size)
      refine ⟨_, rfl, hK _ _ ⟨⟨_, hb8⟩, rfl⟩ ?_⟩
      clear hK K hC
      refine wpP_effg rfl rfl (fun K hK => ?_)
      go_simp
      refine ⟨trivial, (callsIn_wide.2 (HS2.out _ _ c_l c_m v8 ((HAl.out.later hb8).at_) ((HAm.out.later hb8).at_))).mono ?_⟩
      rintro e v9 ⟨rfl, hC⟩
      have hb9 : Below wo.heap.size wo v9 := hb8.trans (hC.mono hb8.size)
      refine ⟨_, rfl, hK _ _ ⟨⟨_, hb9⟩, rfl⟩ ?_⟩
      clear hK K hC
      refine wpP_plain rfl rfl (fun K hK => ?_); go_simp; refine hK _ ?_; clear hK K
      refine wpP_plain rfl rfl (fun K hK => ?_); go_simp; refine hK _ ?_; clear hK K
      refine wpP_plain rfl rfl (fun K hK => ?_); go_simp; refine hK _ ?_; clear hK K
      refine wpP_calm rfl rfl (fun K hK => ?_); go_simp; refine hK _ ?_; clear hK K
      refine wpP_calm rfl rfl (fun K hK => ?_); go_simp; refine hK _ ?_; clear hK K
      refine wpP_effg rfl rfl (fun K hK => ?_)
      go_simp
      refine ⟨trivial, (callsIn_wide.2 (HS3.out _ _ c_l c_l v9 ((HAl.out.later hb9).at_) ((HAl.out.later hb9).at_))).mono ?_⟩
      rintro e v10 ⟨rfl, hC⟩
      have hb10 : Below wo.heap.size wo v10 := hb9.trans (hC.mono hb9.size)
      refine ⟨_, rfl, hK _ _ ⟨⟨_, hb10⟩, rfl⟩ ?_⟩
      clear hK K hC
      refine wpP_plain rfl rfl (fun K hK => ?_); go_simp; refine hK _ ?_; clear hK K
      refine wpP_plain rfl rfl (fun K hK => ?_); go_simp; refine hK _ ?_; clear hK K
      refine wpP_done ?_
      have hB := HB.out.trans (hb10.mono HB.out.size)
      clear l_l_0 l_l_1 l_m_0 l_m_1
      go_wp2_with fail
      go_ret
      exact ⟨rfl, hB⟩
end Go.Proofs.Ytdhbomipffidlaa
