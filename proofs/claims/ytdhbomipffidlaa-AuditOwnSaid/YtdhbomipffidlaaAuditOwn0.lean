/-
  The walk of AuditOwn. Printed by gen_audl.py.
-/
import Derived.Test.YtdhbomipffidlaaAudS
namespace Go.Proofs.Ytdhbomipffidlaa
open Go.RowKit Go.Shelf
attribute [local go_sem] Oper.semAt_some calmOp calmUpon effOp effUpon

/-- A list that stays where it lies, below B. -/
def Stays (W : World) (B : Nat) (A : Option Addr) (l : LE) : Prop := B ≤ W.heap.size ∧ AtE W B A l
theorem Stays.later {W W' : World} {B : Nat} {A : Option Addr} {l : LE} (h : Stays W B A l) (hb : Below W.heap.size W W') : Stays W' B A l := ⟨Nat.le_trans h.1 hb.size, h.2.below (hb.mono h.1)⟩
theorem Stays.set {W : World} {B g : Nat} {A : Option Addr} {l : LE} (h : Stays W B A l) (hg : B ≤ g) (j : Nat) (v : Value) : Stays (W.setCell ⟨g, j, none⟩ v) B A l :=
  have hb : Below B W (W.setCell ⟨g, j, none⟩ v) := (Below.refl B W).setCell hg _
  ⟨Nat.le_trans h.1 hb.size, h.2.below hb⟩
theorem Stays.at_ {W : World} {B : Nat} {A : Option Addr} {l : LE} (h : Stays W B A l) : AtE W W.heap.size A l := h.2.mono h.1
/-- n entries that may be written. -/
def Writes (W : World) (g o n : Nat) : Prop := ∃ cs, W.heap[g]? = some (.cells cs 41 (0, 0)) ∧ o + n * 4 ≤ cs.size
theorem Writes.later {W W' : World} {g o n : Nat} (h : Writes W g o n) (hb : Below W.heap.size W W') : Writes W' g o n := by
  obtain ⟨cs, h1, h2⟩ := h
  exact ⟨cs, keep h1 hb, h2⟩
theorem Writes.cell {W : World} {g o n j k : Nat} (h : Writes W g o n) (hj : j < n) (hk : k < 4) : ∃ v, W.cell? ⟨g, o + j * 4 + k, none⟩ = some v := by
  obtain ⟨cs, h1, h2⟩ := h
  exact ⟨_, (cell_at h1 _).trans (Array.getElem?_eq_getElem (by omega))⟩
theorem Writes.free {W : World} {g o n : Nat} (h : Writes W g o n) (i : Nat) : W.frozen? ⟨g, i, none⟩ = false := by
  obtain ⟨cs, h1, -⟩ := h
  exact free_at h1 i
theorem Writes.lt {W : World} {g o n : Nat} (h : Writes W g o n) : g < W.heap.size := by
  obtain ⟨cs, h1, -⟩ := h
  exact (Array.getElem?_eq_some_iff.1 h1).1
theorem Writes.set {W : World} {g o n : Nat} (h : Writes W g o n) (i : Nat) (v : Value) : Writes (W.setCell ⟨g, i, none⟩ v) g o n := by
  have hlt := h.lt
  obtain ⟨cs, h1, h2⟩ := h
  exact ⟨_, ((Put.refl h1).set i v).get hlt, by simpa using h2⟩
theorem other_set {W : World} {g j k : Nat} {v : Value} {o : Obj} (h : W.heap[k]? = some o) (hk : k ≠ g) : (W.setCell ⟨g, j, none⟩ v).heap[k]? = some o := (Below.heap_setCell W ⟨g, j, none⟩ v k hk).trans h
theorem Writes.other {W : World} {g o n g' : Nat} (h : Writes W g o n) (hg : g ≠ g') (i : Nat) (v : Value) : Writes (W.setCell ⟨g', i, none⟩ v) g o n := by
  obtain ⟨cs, h1, h2⟩ := h
  exact ⟨cs, other_set h1 hg, h2⟩
theorem LieE.writes {W : World} {lo n : Nat} {A : Option Addr} {l : LE} (h : LieE W lo A l) (hn : l.length = n) : ∃ g o, lo ≤ g ∧ (0 < n → A = some ⟨g, o, none⟩ ∧ Writes W g o n) := by
  by_cases h0 : 0 < n
  · obtain ⟨g, o, cs, e, h1, h2, h3⟩ := h (by omega)
    refine ⟨g, o, h1, fun _ => ⟨e, cs, h2, ?_⟩⟩
    have h4 := (h3 (n - 1) (by omega)).m
    rw [cell_at h2] at h4
    have h5 := (Array.getElem?_eq_some_iff.1 h4).1
    omega
  · exact ⟨lo, 0, Nat.le_refl _, fun h => absurd h h0⟩
theorem cutE_small {s : ByteArray} (h : s.size ≤ 210) : cutE s = s := by
  unfold cutE
  rw [show min s.size 210 = s.size by omega]
  exact extract_all s
theorem fewE_small {l : LE} (h : l.length ≤ 40) (hz : ∀ j, j < l.length → (nthE l j).x.size ≤ 210) : fewE l = l := by
  unfold fewE
  rw [List.take_of_length_le h]
  refine nthE_ext (List.length_map _) (fun j hj => ?_)
  rw [List.length_map] at hj
  rw [nthE_map _ _ hj]
  unfold cutX
  rw [cutE_small (hz j hj)]

set_option maxRecDepth 100000 in
set_option maxHeartbeats 8000000 in
theorem walk_AuditOwn {w : World} (a b : BitVec 64) (p : BitVec 64) (A : Option Addr) (c : Nat) (l : LE) (hlc : l.length ≤ 9223372036854775807) (hz : ∀ j, j < l.length → (nthE l j).x.size ≤ 9223372036854775807) (hX : AtE w w.heap.size A l) (t : BitVec 64) (s : ByteArray) (hs : s.size ≤ 9223372036854775807) :
    Calls Try.prog 7 #[.agg #[.int .u64 (U a), .int .u64 (U b)], .agg #[.int .u64 (U p), .slice A l.length c], .int .u64 (U t), .string s] w fun e w' => e = .returned (.bool true) ∧ Below w.heap.size w w' := by
  have HF_l := Lib.hid (fun W h => Few_any p A c l l.length rfl hlc hz W h)
  have hsz_l := fewE_size l
  have hle_l := fewE_length l
  obtain ⟨L_l, hL_l⟩ : ∃ L, fewE l = L := ⟨_, rfl⟩
  rw [hL_l] at HF_l hsz_l hle_l
  obtain ⟨N_l, hN_l⟩ : ∃ N, L_l.length = N := ⟨_, rfl⟩
  rw [hN_l] at HF_l hsz_l hle_l
  have HN_l := Lib.hid hN_l
  have HS_l := Lib.hid (fun j hj => Nat.le_trans (hsz_l j hj) (show 210 ≤ 60000 by decide))
  have HFS := Lib.hid (fun A c W hA => by
    have h := Few_any p A c L_l N_l HN_l.out (by omega) (fun j hj => Nat.le_trans (hsz_l j hj) (by decide)) W hA
    rw [fewE_small (by omega) (fun j hj => hsz_l j (by omega)), HN_l.out] at h
    exact h)
  obtain ⟨n0_l, hn0_l⟩ : ∃ n, l.length = n := ⟨_, rfl⟩
  rw [hn0_l] at HF_l ⊢
  clear hsz_l hL_l hN_l hn0_l hz
  have HCut := Lib.hid (fun W => cut_any s hs W)
  have hcs := cutE_size s
  obtain ⟨x, hx⟩ : ∃ x, cutE s = x := ⟨_, rfl⟩
  rw [hx] at HCut hcs
  clear hx
  have happ : ∃ p2 l2 k2, appL a b p L_l t x = ⟨p2, l2⟩ ∧ appC a b p L_l t x = k2 ∧ (k2 = 0 ∨ k2 = 160) := ⟨_, _, _, rfl, rfl, by
    by_cases hok : appOk a b p L_l t x = true
    · exact .inl (appC_ok hok)
    · exact .inr (app_none hok).2⟩
  obtain ⟨p2, l2, k2, ht2, hk2, hk3⟩ := happ
  obtain ⟨M2, hM2⟩ : ∃ M, l2.length = M := ⟨_, rfl⟩
  have HApp := Lib.hid (fun A c W hc hA => Append_n A c ht2 hk2 hM2 HN_l.out (by omega) hc HS_l.out (by omega) W hA)
  have HM2 := Lib.hid hM2
  have HK := Lib.hid hk3
  have hM3 : M2 ≤ 65535 := by
    rw [← hM2]
    by_cases hok : appOk a b p L_l t x = true
    · have h2 := (app_right hok).1
      rw [ht2] at h2
      exact Nat.le_trans h2 (by decide)
    · have h2 := (app_none hok).1
      rw [ht2] at h2
      injection h2 with h2 h3
      rw [h3]
      exact Nat.zero_le _
  have HFrom := Lib.hid (fun A c W hA => by
    have h := From_any p A c L_l N_l HN_l.out (by omega) 0#64 W hA
    rw [show U 0#64 = 0 by decide +kernel] at h
    exact h)
  have hfl := fromE_length L_l 0#64
  rw [HN_l.out] at hfl
  obtain ⟨LF, hLF⟩ : ∃ l, fromE L_l 0#64 = l := ⟨_, rfl⟩
  rw [hLF] at HFrom hfl
  obtain ⟨NF, hNF⟩ : ∃ n, LF.length = n := ⟨_, rfl⟩
  rw [hNF] at hfl
  have HNF := Lib.hid hNF
  have HSame := Lib.hid (fun A A' c c' W hA hA' => by
    have h := refSame_any p p A A' c c' L_l L_l N_l N_l HN_l.out HN_l.out (by omega) W hA hA'
    rw [decide_eq_true (rfl : p = p), decide_eq_true (rfl : L_l = L_l), Bool.and_true] at h
    exact h)
  have HX := Lib.hid hX
  clear ht2 hk2 hk3 hM2 hX hLF hNF
  go_enter Try.func7, Try.ntmps7
  have hB : Below w.heap.size w w := Below.refl _ w
  go_wp2_with fail
  have hA : Below w.heap.size w ((w.alloc (.cells #[.int .u64 (U a), .int .u64 (U b)] 24)).alloc (.cells #[.int .u64 (U p), .slice A n0_l c] 27)) := ((Below.refl _ w).alloc (Nat.le_refl _) _).alloc (by simp) _
  have hq0 := hB.size
  replace hB := hB.trans (hA.mono hB.size)
  have k_k : ((w.alloc (.cells #[.int .u64 (U a), .int .u64 (U b)] 24)).alloc (.cells #[.int .u64 (U p), .slice A n0_l c] 27)).heap[w.heap.size]? = some (.cells #[.int .u64 (U a), .int .u64 (U b)] 24 (0, 0)) := old_at (new_at _ _ _ rfl)
  have k_l : ((w.alloc (.cells #[.int .u64 (U a), .int .u64 (U b)] 24)).alloc (.cells #[.int .u64 (U p), .slice A n0_l c] 27)).heap[w.heap.size + 1]? = some (.cells #[.int .u64 (U p), .slice A n0_l c] 27 (0, 0)) := new_at _ _ _ (by simp)
  obtain ⟨b_l, hb1⟩ : ∃ b, w.heap.size + 1 = b := ⟨_, rfl⟩
  have q_l : w.heap.size ≤ b_l := by omega
  rw [hb1] at k_l ⊢
  obtain ⟨b_k, hb0⟩ : ∃ b, w.heap.size = b := ⟨_, rfl⟩
  have q_k : w.heap.size ≤ b_k := by omega
  rw [hb0] at k_k ⊢
  have lt_k_l : b_k < b_l := by omega
  clear hA hq0 hb0 hb1
  generalize ((w.alloc (.cells #[.int .u64 (U a), .int .u64 (U b)] 24)).alloc (.cells #[.int .u64 (U p), .slice A n0_l c] 27)) = u1 at *
  refine (shown_any _).mono ?_
  rintro e u2 ⟨rfl, hC⟩
  replace k_k := keep k_k hC
  replace k_l := keep k_l hC
  replace hB := hB.trans (hC.mono hB.size)
  clear hC
  have x_l_0 := cell_at k_l 0
  have x_l_1 := cell_at k_l 1
  go_wp2_with fail
  clear x_l_0 x_l_1
  refine (HF_l.out _ ((HX.out.below hB).mono hB.size)).mono ?_
  rintro e u3 ⟨hC, A_l, c_l, rfl, n_l, a_l⟩
  replace a_l := a_l.mono (show b_l + 1 ≤ _ from (Array.getElem?_eq_some_iff.1 k_l).1)
  replace k_k := keep k_k hC
  replace k_l := keep k_l hC
  replace hB := hB.trans (hC.mono hB.size)
  clear hC
  have x_l_0 := cell_at k_l 0
  have fr_0 := free_at k_l 0
  have x_l_1 := cell_at k_l 1
  have fr_1 := free_at k_l 1
  have hP : Put u3 ((u3.setCell ⟨b_l, 0, none⟩ (.int .u64 (U p))).setCell ⟨b_l, 1, none⟩ (.slice A_l N_l c_l)) b_l (.cells #[.int .u64 (U p), .slice A_l N_l c_l] 27 (0, 0)) := ((Put.refl k_l).set 0 (.int .u64 (U p))).set 1 (.slice A_l N_l c_l)
  have HP := Lib.hid hP
  clear hP
  go_wp2_with fail
  clear x_l_0 x_l_1 fr_0 fr_1
  have hP := HP.out
  replace hB := hB.trans (hP.below (by omega))
  replace k_k := (hP.other (by omega)).trans k_k
  replace a_l := a_l.put hP (by omega)
  replace k_l := hP.get (Array.getElem?_eq_some_iff.1 k_l).1
  clear hP HP
  generalize ((u3.setCell ⟨b_l, 0, none⟩ (.int .u64 (U p))).setCell ⟨b_l, 1, none⟩ (.slice A_l N_l c_l)) = u4 at *
  clear u3
  refine (HFS.out _ c_l _ a_l.at_).mono ?_
  rintro e u5 ⟨hC, A_s, c_s, rfl, -, a_s⟩
  replace k_k := keep k_k hC
  replace k_l := keep k_l hC
  replace a_l := a_l.later hC
  replace hB := hB.trans (hC.mono hB.size)
  clear hC
  go_wp2_with fail
  have hA : Below u5.heap.size u5 (u5.alloc (.cells #[.int .u64 (U p), .slice A_s N_l c_s] 27)) := (Below.refl _ u5).alloc (Nat.le_refl _) _
  replace k_k := keep k_k hA
  replace k_l := keep k_l hA
  replace a_l := a_l.later hA
  replace a_s := a_s.later hA
  replace hB := hB.trans (hA.mono hB.size)
  have k_s := new_at u5 (.cells #[.int .u64 (U p), .slice A_s N_l c_s] 27) _ rfl
  obtain ⟨b_s, hb⟩ : ∃ b, u5.heap.size = b := ⟨_, rfl⟩
  rw [hb] at k_s ⊢
  clear hA hb
  generalize u5.alloc (.cells #[.int .u64 (U p), .slice A_s N_l c_s] 27) = u6 at *
  clear u5
  have t_l : Stays u6 u6.heap.size A_l L_l := ⟨Nat.le_refl _, a_l.at_⟩
  have t_s : Stays u6 u6.heap.size A_s L_l := ⟨Nat.le_refl _, a_s.at_⟩
  have hl0 := (Array.getElem?_eq_some_iff.1 k_l).1
  have hs0 := (Array.getElem?_eq_some_iff.1 k_s).1
  have hw0 := hB.size
  obtain ⟨B0, hB0⟩ : ∃ B, u6.heap.size = B := ⟨_, rfl⟩
  rw [hB0] at t_l t_s hl0 hs0 hw0
  have HB0 := Lib.hid hB0
  clear hB0 a_s
  have l_k_0 : ∀ s : Later u6.heap.size u6, s.W.cell? ⟨b_k, 0, none⟩ = some _ := fun s => s.cell (cell_at k_k 0) (Array.getElem?_eq_some_iff.1 k_k).1
  have l_k_1 : ∀ s : Later u6.heap.size u6, s.W.cell? ⟨b_k, 1, none⟩ = some _ := fun s => s.cell (cell_at k_k 1) (Array.getElem?_eq_some_iff.1 k_k).1
  have l_l_0 : ∀ s : Later u6.heap.size u6, s.W.cell? ⟨b_l, 0, none⟩ = some _ := fun s => s.cell (cell_at k_l 0) (Array.getElem?_eq_some_iff.1 k_l).1
  have l_l_1 : ∀ s : Later u6.heap.size u6, s.W.cell? ⟨b_l, 1, none⟩ = some _ := fun s => s.cell (cell_at k_l 1) (Array.getElem?_eq_some_iff.1 k_l).1
  refine wp_join_f3 ?f_m (fun (B : Nat) (A6 : Option Addr) (c6 : Nat) W => Below u6.heap.size u6 W ∧ u6.heap.size ≤ B ∧ W.heap[B]? = some (.cells #[.int .u64 (U p2), .slice A6 M2 c6] 27 (0, 0)) ∧ Hid (M2 ≤ c6 ∧ LieE W u6.heap.size A6 l2)) ?h_m ?k_m
  case h_m =>
    refine region_plan_plain (C := fun W' => ∃ s : Later u6.heap.size u6, W' = s.W) [0, 0, 3, 3, 1, 1, 3, 3, 3, 1, 2, 3] (.calm 0 (.calm 1 (.calm 2 (.calm 3 (.fork 4 (.fork 5 (.calm 6 (.calm 7 (.calm 8 (.one 9 (.one 10 (.calm 11 .done)))))) 9 (.one 5 (.calm 6 (.calm 7 (.calm 8 (.one 10 (.calm 11 .done))))))) 9 (.one 4 (.one 5 (.calm 6 (.calm 7 (.calm 8 (.one 10 (.calm 11 .done)))))))))))) (by kernel_rfl) (by kernel_rfl) (by kernel_rfl) (by kernel_rfl) (by kernel_rfl) ⟨⟨u6.drew, (Below.refl _ u6).drew⟩, rfl⟩ ?_
    have hb0 : Below u6.heap.size u6 u6.drew := (Below.refl _ u6).drew
    refine wpP_calm rfl rfl (fun K hK => ?_); go_simp; refine hK _ ?_; clear hK K
    refine wpP_calm rfl rfl (fun K hK => ?_); go_simp; refine hK _ ?_; clear hK K
    refine wpP_plain rfl rfl (fun K hK => ?_); go_simp; refine hK _ ?_; clear hK K
    refine wpP_plain rfl rfl (fun K hK => ?_); go_simp; refine hK _ ?_; clear hK K
    refine wpP_fork ?_ ?_
    · refine wpP_eff rfl rfl rfl (fun K hK => ?_)
      go_simp
      refine ⟨trivial, (callsIn_wide.2 (HCut.out u6.drew)).mono ?_⟩
      rintro e v1 ⟨rfl, hC⟩
      have hb1 : Below u6.heap.size u6 v1 := hb0.trans (hC.mono hb0.size)
      refine ⟨_, rfl, hK _ _ ⟨⟨_, hb1⟩, rfl⟩ ?_⟩
      clear hK K hC
      refine wpP_fork ?_ ?_
      · refine wpP_eff rfl rfl rfl (fun K hK => ?_)
        go_simp
        refine ⟨trivial, (callsIn_wide.2 (HApp.out _ c_l v1 n_l ((a_l.later hb1).at_))).mono ?_⟩
        rintro e v2 ⟨hC, A6, c6, rfl, n6, a6⟩
        have hb2 : Below u6.heap.size u6 v2 := hb1.trans (hC.mono hb1.size)
        replace a6 := a6.mono hb1.size
        refine ⟨_, rfl, hK _ _ ⟨⟨_, hb2⟩, rfl⟩ ?_⟩
        clear hK K hC
        refine wpP_plain rfl rfl (fun K hK => ?_); go_simp; refine hK _ ?_; clear hK K
        refine wpP_plain rfl rfl (fun K hK => ?_); go_simp; refine hK _ ?_; clear hK K
        refine wpP_plain rfl rfl (fun K hK => ?_); go_simp; refine hK _ ?_; clear hK K
        refine wpP_eff rfl rfl rfl (fun K hK => ?_)
        go_simp
        have hb3 : Below u6.heap.size u6 (v2.alloc (.cells #[.int .u64 0, .slice none 0 0] 27)) := hb2.alloc hb2.size _
        have kB := new_at v2 (.cells #[.int .u64 0, .slice none 0 0] 27) _ rfl
        have qB := hb2.size
        refine hK _ _ ⟨⟨_, hb3⟩, rfl⟩ ?_
        clear hK K
        have hb39 := hb2
        obtain ⟨B, hB9⟩ : ∃ B, v2.heap.size = B := ⟨_, rfl⟩
        have hbn : Below u6.heap.size u6 (v2.alloc (.cells #[.int .u64 (U p2), .slice A6 M2 c6] 27)) := hb39.alloc hb39.size _
        have kBn := new_at v2 (.cells #[.int .u64 (U p2), .slice A6 M2 c6] 27) _ rfl
        have a7 := a6.later ((Below.refl _ v2).alloc (Nat.le_refl _) (.cells #[.int .u64 (U p2), .slice A6 M2 c6] 27))
        have xB0 := cell_at kB 0
        have xB1 := cell_at kB 1
        have fB0 := free_at kB 0
        have fB1 := free_at kB 1
        rw [hB9] at kB qB xB0 xB1 fB0 fB1 kBn
        rw [hB9]
        have HbN := Lib.hid hbn
        have HkN := Lib.hid kBn
        have HA7 := Lib.hid a7
        clear hbn kBn a7 a6
        refine wpP_last rfl rfl rfl (fun K hK => ?_)
        go_simp
        refine hK _ _ ?_
        clear hK K xB0 xB1 fB0 fB1
        refine wpP_plain rfl rfl (fun K hK => ?_); go_simp; refine hK _ ?_; clear hK K
        refine wpP_done ?_
        refine ⟨rfl, B, A6, c6, ?_, HbN.out, qB, HkN.out, Lib.hid ⟨n6, HA7.out⟩⟩
        rfl
      · refine wpP_eff rfl rfl rfl (fun K hK => ?_)
        go_simp
        have hb4 : Below u6.heap.size u6 (v1.alloc (.cells #[.int .u64 0, .slice none 0 0] 27)) := hb1.alloc hb1.size _
        have kB := new_at v1 (.cells #[.int .u64 0, .slice none 0 0] 27) _ rfl
        have qB := hb1.size
        refine hK _ _ ⟨⟨_, hb4⟩, rfl⟩ ?_
        clear hK K
        obtain ⟨B, hB9⟩ : ∃ B, v1.heap.size = B := ⟨_, rfl⟩
        rw [hB9] at kB qB ⊢
        generalize (v1.alloc (.cells #[.int .u64 0, .slice none 0 0] 27)) = v4 at *
        have ltB := (Array.getElem?_eq_some_iff.1 kB).1
        refine wpP_eff rfl rfl rfl (fun K hK => ?_)
        go_simp
        refine ⟨trivial, (callsIn_wide.2 (HApp.out _ c_l v4 n_l ((a_l.later hb4).at_))).mono ?_⟩
        rintro e v5 ⟨hC, A6, c6, rfl, n6, a6⟩
        have hb5 : Below u6.heap.size u6 v5 := hb4.trans (hC.mono hb4.size)
        replace kB := keep kB hC
        replace a6 := a6.mono (show B + 1 ≤ _ from ltB)
        refine ⟨_, rfl, hK _ _ ⟨⟨_, hb5⟩, rfl⟩ ?_⟩
        clear hK K hC
        refine wpP_plain rfl rfl (fun K hK => ?_); go_simp; refine hK _ ?_; clear hK K
        refine wpP_plain rfl rfl (fun K hK => ?_); go_simp; refine hK _ ?_; clear hK K
        refine wpP_plain rfl rfl (fun K hK => ?_); go_simp; refine hK _ ?_; clear hK K
        have hP : Put v5 ((v5.setCell ⟨B, 0, none⟩ (.int .u64 (U p2))).setCell ⟨B, 1, none⟩ (.slice A6 M2 c6)) B (.cells #[.int .u64 (U p2), .slice A6 M2 c6] 27 (0, 0)) := ((Put.refl kB).set 0 _).set 1 _
        have a7 := (a6.put hP (Nat.lt_succ_self B)).mono (show u6.heap.size ≤ B + 1 by omega)
        have xB0 := cell_at kB 0
        have xB1 := cell_at kB 1
        have fB0 := free_at kB 0
        have fB1 := free_at kB 1
        have hlt9 := (Array.getElem?_eq_some_iff.1 kB).1
        have HP := Lib.hid hP
        have HA7 := Lib.hid a7
        clear hP a7 a6
        refine wpP_last rfl rfl rfl (fun K hK => ?_)
        go_simp
        refine hK _ _ ?_
        clear hK K xB0 xB1 fB0 fB1
        refine wpP_plain rfl rfl (fun K hK => ?_); go_simp; refine hK _ ?_; clear hK K
        refine wpP_done ?_
        refine ⟨rfl, B, A6, c6, rfl, hb5.trans (HP.out.below qB), qB, HP.out.get hlt9, Lib.hid ⟨n6, HA7.out⟩⟩
    · refine wpP_eff rfl rfl rfl (fun K hK => ?_)
      go_simp
      have hb6 : Below u6.heap.size u6 (u6.alloc (.cells #[.int .u64 0, .slice none 0 0] 27)).drew := ((Below.refl _ u6).alloc (Nat.le_refl _) _).drew
      have kB : (u6.alloc (.cells #[.int .u64 0, .slice none 0 0] 27)).drew.heap[u6.heap.size]? = some (.cells #[.int .u64 0, .slice none 0 0] 27 (0, 0)) := new_at u6 _ _ rfl
      have qB : u6.heap.size ≤ u6.heap.size := Nat.le_refl _
      refine hK _ _ ⟨⟨_, hb6⟩, rfl⟩ ?_
      clear hK K
      generalize (u6.alloc (.cells #[.int .u64 0, .slice none 0 0] 27)).drew = v6 at *
      have ltB := (Array.getElem?_eq_some_iff.1 kB).1
      refine wpP_eff rfl rfl rfl (fun K hK => ?_)
      go_simp
      refine ⟨trivial, (callsIn_wide.2 (HCut.out v6)).mono ?_⟩
      rintro e v7 ⟨rfl, hC⟩
      have hb7 : Below u6.heap.size u6 v7 := hb6.trans (hC.mono hb6.size)
      replace kB := keep kB hC
      replace ltB := (Array.getElem?_eq_some_iff.1 kB).1
      refine ⟨_, rfl, hK _ _ ⟨⟨_, hb7⟩, rfl⟩ ?_⟩
      clear hK K hC
      refine wpP_eff rfl rfl rfl (fun K hK => ?_)
      go_simp
      refine ⟨trivial, (callsIn_wide.2 (HApp.out _ c_l v7 n_l ((a_l.later hb7).at_))).mono ?_⟩
      rintro e v8 ⟨hC, A6, c6, rfl, n6, a6⟩
      have hb8 : Below u6.heap.size u6 v8 := hb7.trans (hC.mono hb7.size)
      replace kB := keep kB hC
      replace a6 := a6.mono (show u6.heap.size + 1 ≤ _ from ltB)
      refine ⟨_, rfl, hK _ _ ⟨⟨_, hb8⟩, rfl⟩ ?_⟩
      clear hK K hC
      refine wpP_plain rfl rfl (fun K hK => ?_); go_simp; refine hK _ ?_; clear hK K
      refine wpP_plain rfl rfl (fun K hK => ?_); go_simp; refine hK _ ?_; clear hK K
      refine wpP_plain rfl rfl (fun K hK => ?_); go_simp; refine hK _ ?_; clear hK K
      have hP : Put v8 ((v8.setCell ⟨u6.heap.size, 0, none⟩ (.int .u64 (U p2))).setCell ⟨u6.heap.size, 1, none⟩ (.slice A6 M2 c6)) u6.heap.size (.cells #[.int .u64 (U p2), .slice A6 M2 c6] 27 (0, 0)) := ((Put.refl kB).set 0 _).set 1 _
      have a7 := (a6.put hP (Nat.lt_succ_self u6.heap.size)).mono (show u6.heap.size ≤ u6.heap.size + 1 by omega)
      have xB0 := cell_at kB 0
      have xB1 := cell_at kB 1
      have fB0 := free_at kB 0
      have fB1 := free_at kB 1
      have hlt9 := (Array.getElem?_eq_some_iff.1 kB).1
      have HP := Lib.hid hP
      have HA7 := Lib.hid a7
      clear hP a7 a6
      refine wpP_last rfl rfl rfl (fun K hK => ?_)
      go_simp
      refine hK _ _ ?_
      clear hK K xB0 xB1 fB0 fB1
      refine wpP_plain rfl rfl (fun K hK => ?_); go_simp; refine hK _ ?_; clear hK K
      refine wpP_done ?_
      refine ⟨rfl, u6.heap.size, A6, c6, rfl, hb8.trans (HP.out.below qB), qB, HP.out.get hlt9, Lib.hid ⟨n6, HA7.out⟩⟩
  rintro b_m A_m c_m u7 ⟨hC, q_m, k_m, ⟨n_m, a_m⟩⟩
  clear l_k_0 l_k_1 l_l_0 l_l_1
  have lt_k_m : b_k < b_m := by have := (Array.getElem?_eq_some_iff.1 k_k).1; omega
  have lt_l_m : b_l < b_m := by have := (Array.getElem?_eq_some_iff.1 k_l).1; omega
  have lt_s_m : b_s < b_m := by have := (Array.getElem?_eq_some_iff.1 k_s).1; omega
  replace k_k := keep k_k hC
  replace k_l := keep k_l hC
  replace a_l := a_l.later hC
  replace k_s := keep k_s hC
  replace t_l := t_l.later hC
  replace t_s := t_s.later hC
  replace hB := hB.trans (hC.mono hB.size)
  clear hC
  rw [HB0.out] at a_m
  clear HB0
  have x_l_0 := cell_at k_l 0
  have x_l_1 := cell_at k_l 1
  go_wp2_with fail
  clear x_l_0 x_l_1
  obtain ⟨B1, hB1⟩ : ∃ B, u7.heap.size = B := ⟨_, rfl⟩
  have HB1 := Lib.hid hB1
  have hmB := (Array.getElem?_eq_some_iff.1 k_m).1
  have h01 := t_l.1
  rw [hB1] at hmB h01
  obtain ⟨g_m, o_m, lo_m, hW_m⟩ := a_m.writes HM2.out
  have HGM : Hid (0 < M2 → A_m = some ⟨g_m, o_m, none⟩ ∧ g_m ≠ b_m ∧ g_m < B1) := Lib.hid (fun h => by
    obtain ⟨e1, e2⟩ := hW_m h
    have h3 := e2.lt
    rw [hB1] at h3
    refine ⟨e1, fun e => ?_, h3⟩
    obtain ⟨cs, h4, -⟩ := e2
    rw [e, k_m] at h4
    injection h4 with h4
    injection h4 with h5 h6
    exact absurd h6 (by decide))
  have HWM : Hid (0 < M2 → Writes u7 g_m o_m M2) := Lib.hid (fun h => (hW_m h).2)
  clear hB1 hW_m a_m
  refine (HFrom.out _ c_l _ a_l.at_).mono ?_
  rintro e u8 ⟨hC, vF, rfl, ow⟩
  obtain ⟨A_f, c_f, rfl, -, a_f⟩ := ow.lie
  rw [HB1.out] at a_f
  obtain ⟨g_f, o_f, lo_f, hW_f⟩ := a_f.writes HNF.out
  have HWM2 : Hid (0 < M2 → Writes u8 g_m o_m M2) := Lib.hid (fun h => (HWM.out h).later hC)
  have HGF : Hid (0 < NF → A_f = some ⟨g_f, o_f, none⟩) := Lib.hid (fun h => (hW_f h).1)
  have HWF : Hid (0 < NF → Writes u8 g_f o_f NF) := Lib.hid (fun h => (hW_f h).2)
  rw [HNF.out]
  clear hW_f a_f ow HWM HB1
  replace k_k := keep k_k hC
  replace k_l := keep k_l hC
  replace a_l := a_l.later hC
  replace k_s := keep k_s hC
  replace t_l := t_l.later hC
  replace t_s := t_s.later hC
  replace k_m := keep k_m hC
  replace hB := hB.trans (hC.mono hB.size)
  clear hC a_l
  go_wp2_with fail
  go_loopw [14] (fun iv wr => ∃ j : Nat, j ≤ M2 ∧ iv = .int .i64 j ∧ Below w.heap.size w wr ∧ wr.heap[b_l]? = some (.cells #[.int .u64 (U p), .slice A_l N_l c_l] 27 (0, 0)) ∧ wr.heap[b_s]? = some (.cells #[.int .u64 (U p), .slice A_s N_l c_s] 27 (0, 0)) ∧ wr.heap[b_m]? = some (.cells #[.int .u64 (U p2), .slice A_m M2 c_m] 27 (0, 0)) ∧ Stays wr B0 A_l L_l ∧ Stays wr B0 A_s L_l ∧ (0 < M2 → Writes wr g_m o_m M2) ∧ (0 < NF → Writes wr g_f o_f NF)) (fun iv _ => M2 - (intOf iv).toNat)
  case atStart => exact ⟨0, Nat.zero_le _, rfl, hB, k_l, k_s, k_m, t_l, t_s, HWM2.out, HWF.out⟩
  case round =>
    obtain ⟨j, hj, rfl, hB2, kl2, ks2, km2, tl2, ts2, hm2, hf2⟩ := hrel
    clear hB k_l k_s k_m t_l t_s HWM2 HWF k_k
    obtain ⟨wo, rfl⟩ : ∃ wo : World, wo = wr := ⟨_, rfl⟩
    have y0 := cell_at km2 0
    have y1 := cell_at km2 1
    by_cases hjk : j < M2
    · obtain ⟨rfl, hne, hlt⟩ := HGM.out (by omega)
      have hm3 := hm2 (by omega)
      obtain ⟨v9, hx⟩ := hm3.cell hjk (show 2 < 4 by decide)
      have fr := hm3.free (o_m + j * 4 + 2)
      have HF2 := Lib.hid hf2
      have hjI : (j : Int) < (M2 : Int) := by omega
      have hjI0 : (0 : Int) ≤ (j : Int) := by omega
      have HM3 := Lib.hid hm3
      clear hm2 hf2 hm3
      go_wp2_with fail
      go_roundw
      case rel => exact ⟨j + 1, by omega, by go_num, hB2.setCell (by show w.heap.size ≤ g_m; omega) _, other_set kl2 (by omega), other_set ks2 (by omega), other_set km2 (by omega), tl2.set lo_m _ _, ts2.set lo_m _ _, fun _ => HM3.out.set _ _, fun h => (HF2.out h).other (by omega) _ _⟩
      case measure => simp [intOf]; omega
    · obtain rfl : M2 = j := by omega
      have HF2 := Lib.hid hf2
      clear hm2 hf2 HGM
      go_wp2_with fail
      clear y0 y1 km2
      go_loopw [15] (fun iv wr => ∃ j : Nat, j ≤ NF ∧ iv = .int .i64 j ∧ Below w.heap.size w wr ∧ wr.heap[b_l]? = some (.cells #[.int .u64 (U p), .slice A_l N_l c_l] 27 (0, 0)) ∧ wr.heap[b_s]? = some (.cells #[.int .u64 (U p), .slice A_s N_l c_s] 27 (0, 0)) ∧ Stays wr B0 A_l L_l ∧ Stays wr B0 A_s L_l ∧ (0 < NF → Writes wr g_f o_f NF)) (fun iv _ => NF - (intOf iv).toNat)
      case atStart => exact ⟨0, Nat.zero_le _, rfl, hB2, kl2, ks2, tl2, ts2, HF2.out⟩
      case round =>
        obtain ⟨j, hj, rfl, hB3, kl3, ks3, tl3, ts3, hf3⟩ := hrel
        clear hB2 kl2 ks2 tl2 ts2 HF2
        obtain ⟨wq, rfl⟩ : ∃ wo : World, wo = wr := ⟨_, rfl⟩
        by_cases hjk : j < NF
        · obtain rfl := HGF.out (by omega)
          have hm3 := hf3 (by omega)
          obtain ⟨v9, hx⟩ := hm3.cell hjk (show 0 < 4 by decide)
          rw [Nat.add_zero] at hx
          have fr := hm3.free (o_f + j * 4)
          have hjI : (j : Int) < (NF : Int) := by omega
          have hjI0 : (0 : Int) ≤ (j : Int) := by omega
          have HM3 := Lib.hid hm3
          clear hf3 hm3
          go_wp2_with fail
          go_roundw
          case rel => exact ⟨j + 1, by omega, by go_num, hB3.setCell (by show w.heap.size ≤ g_f; omega) _, other_set kl3 (by omega), other_set ks3 (by omega), tl3.set (by omega) _ _, ts3.set (by omega) _ _, fun _ => HM3.out.set _ _⟩
          case measure => simp [intOf]; omega
        · obtain rfl : NF = j := by omega
          clear hf3 HGF
          have z0 := cell_at kl3 0
          have z1 := cell_at kl3 1
          have z2 := cell_at ks3 0
          have z3 := cell_at ks3 1
          have hta := tl3.at_
          have htb := ts3.at_
          rcases HK.out with rfl | rfl
          · go_wp2_with fail
            refine (HSame.out _ _ c_l c_s _ hta htb).mono ?_
            rintro e w9 ⟨rfl, hC⟩
            replace hB3 := hB3.trans (hC.mono hB3.size)
            clear hC
            go_wp2_with fail
            go_ret
            exact ⟨rfl, hB3⟩
          · go_wp2_with fail
            refine (HSame.out _ _ c_l c_s _ hta htb).mono ?_
            rintro e w9 ⟨rfl, hC⟩
            replace hB3 := hB3.trans (hC.mono hB3.size)
            clear hC
            go_wp2_with fail
            go_ret
            exact ⟨rfl, hB3⟩
end Go.Proofs.Ytdhbomipffidlaa
