/-
  What is merged, there, counted, by definition: the reference's.
-/
import Derived.Test.YthnnbpmpaeddgaaExaH
namespace Go.Proofs.Ythnnbpmpaeddgaa
open Go.RowKit Go.Shelf
attribute [local go_sem] calmOp calmUpon effOp effUpon

set_option maxRecDepth 100000 in
set_option maxHeartbeats 4000000 in
theorem refMerge_gives (A A' : Option Addr) (c c' : Nat) (l l' : L64) (n n' : Nat) (hn : l.length = n) (hn' : l'.length = n') (hl : n ≤ 60000) (hl' : n' ≤ 60000) (w : World) (hA : At w w.heap.size A l) (hA' : At w w.heap.size A' l') :
    Calls Try.prog 15 #[.agg #[.slice A n c], .agg #[.slice A' n' c']] w (GivesX (mergeX l l') w) := by
  unfold mergeX
  obtain ⟨x, hx⟩ : ∃ x, rightX l = x := ⟨_, rfl⟩
  obtain ⟨y, hy⟩ : ∃ y, rightX l' = y := ⟨_, rfl⟩
  rw [hx, hy]
  have hlen : x = true → n ≤ 64 := fun h => by rw [← hn]; exact rightX_len (by rw [hx, h])
  have hlen' : y = true → n' ≤ 64 := fun h => by rw [← hn']; exact rightX_len (by rw [hy, h])
  have HX := Lib.hid hx
  have HY := Lib.hid hy
  have HN := Lib.hid hn
  have HN' := Lib.hid hn'
  have HLen := Lib.hid hlen
  have HLen' := Lib.hid hlen'
  clear hx hy hn hn' hlen hlen'
  go_enter Try.func15, Try.ntmps15
  go_wp2_with fail
  have hb3 : Below w.heap.size w (((w.alloc (.cells #[.slice A n c] 24)).alloc (.cells #[.slice A' n' c'] 24)).alloc (.cells #[.slice none 0 0] 24)) := (((Below.refl _ w).alloc (Nat.le_refl _) _).alloc (by simp) _).alloc (by simp; omega) _
  have hR := refRight_any A c l n HN.out (by omega) _ (hA.later hb3)
  rw [HX.out] at hR
  refine hR.mono ?_
  rintro e w1 ⟨rfl, hB1⟩
  obtain ⟨kx, ky, kr, hBw1, hs1⟩ := trio1 hB1
  clear hb3 hB1 hR
  have y0 := cell_at ky 0
  cases x with
  | false =>
    have d0 := cell_at kr 0
    have f0 := free_at kr 0
    go_wp2_with fail
    refine bodyPost_ret (v := .tuple #[.agg #[.slice none 0 0], .int .i64 60]) ?_ rfl (GivesX.bad _ _ (hBw1.setCell (by simp; omega) _))
    simp [results, Try.results15, go_sem, d0]
  | true =>
    have hn64 := HLen.out rfl
    go_wp2_with fail
    have hR := refRight_any A' c' l' n' HN'.out (by omega) w1 (hA'.later hBw1)
    rw [HY.out] at hR
    refine hR.mono ?_
    rintro e w2 ⟨rfl, hB2⟩
    have kx2 := keep kx hB2
    have ky2 := keep ky hB2
    have kr2 := keep kr hB2
    have hB := hBw1.trans (hB2.mono hBw1.size)
    have hs2 := hB2.size
    clear y0 hR kx ky kr hB2
    cases y with
    | false =>
      have d0 := cell_at kr2 0
      have f0 := free_at kr2 0
      go_wp2_with fail
      refine bodyPost_ret (v := .tuple #[.agg #[.slice none 0 0], .int .i64 60]) ?_ rfl (GivesX.bad _ _ (hB.setCell (by simp; omega) _))
      simp [results, Try.results15, go_sem, d0]
    | true =>
      have hn64' := HLen'.out rfl
      go_wp2_with fail
      have l0 : ∀ s : Later w2.heap.size w2, s.W.cell? ⟨w.heap.size, 0, none⟩ = some _ := fun s => s.cell (cell_at kx2 0) (by show w.heap.size < _; omega)
      have l1 : ∀ s : Later w2.heap.size w2, s.W.cell? ⟨w.heap.size + 1, 0, none⟩ = some _ := fun s => s.cell (cell_at ky2 0) (by show w.heap.size + 1 < _; omega)
      refine region_mix_last_plain (C := fun W' => ∃ s : Later w2.heap.size w2, W' = s.W) [0, 0, 0, 1, 0, 0, 1, 1, 0, 3, 2, 3] (by kernel_rfl) (by kernel_rfl) (by kernel_rfl) (by kernel_rfl) (by kernel_rfl) ⟨⟨w2.drew, (Below.refl _ w2).drew⟩, rfl⟩ ?_
      refine wpL_calm (fun K hK => ?_); go_simp; refine hK _ ?_; clear hK K
      refine wpL_calm (fun K hK => ?_); go_simp; refine hK _ ?_; clear hK K
      refine wpL_calm (fun K hK => ?_); go_simp; refine hK _ ?_; clear hK K
      have hBd : Below w2.heap.size w2 w2.drew := (Below.refl _ w2).drew
      obtain ⟨v3, w3, happ, hown3, hB3⟩ := append_list w2.drew w2.heap.size (.slice none 0 0) [] l A n c (OwnL.nil _ _) HN.out ((hA.later hB).later hBd) (Nat.le_refl _) (by simp; omega)
      rw [List.nil_append] at hown3
      refine wpL_eff rfl (fun K hK => ?_)
      refine effOp_append_run (.tmp 16) (.tmp 18) _ rfl rfl rfl happ ?_
      have hB23 := hBd.trans hB3
      refine hK _ _ ⟨⟨_, hB23⟩, rfl⟩ ?_
      clear hK K happ
      refine wpL_calm (fun K hK => ?_); go_simp; refine hK _ ?_; clear hK K
      refine wpL_calm (fun K hK => ?_); go_simp; refine hK _ ?_; clear hK K
      obtain ⟨v4, w4, happ, hown4, hB4⟩ := append_list w3 w2.heap.size v3 l l' A' n' c' hown3 HN'.out ((hA'.later hB).later hB23) hB23.size (by rw [HN.out]; omega)
      refine wpL_eff rfl (fun K hK => ?_)
      refine effOp_append_run (.tmp 19) (.tmp 21) _ rfl rfl rfl happ ?_
      have hB24 := hB23.trans hB4
      refine hK _ _ ⟨⟨_, hB24⟩, rfl⟩ ?_
      clear hK K happ hown3 hB3 hB23 hB4
      obtain ⟨A5, c5, hv5, -, hAt5⟩ := hown4.at_
      have hll : (l ++ l').length = n + n' := by rw [List.length_append, HN.out, HN'.out]
      rw [hll] at hv5
      subst hv5
      refine wpL_eff rfl (fun K hK => ?_)
      go_simp
      refine ⟨trivial, (callsIn_wide.2 (refOf_gives A5 c5 (l ++ l') (n + n') hll (by omega) w4 hAt5)).mono ?_⟩
      rintro e w5 ⟨hB5, A6, c6, rfl, hown6⟩
      have hB25 := hB24.trans (hB5.mono hB24.size)
      refine ⟨_, rfl, hK _ _ ⟨⟨_, hB25⟩, rfl⟩ ?_⟩
      clear hK K hll hown4 hAt5
      refine wpL_calm (fun K hK => ?_); go_simp; refine hK _ ?_; clear hK K
      refine wpL_plain (fun K hK => ?_); go_simp; refine hK _ ?_; clear hK K l0 l1
      have mr := keep kr2 hB25
      have x0 := cell_at mr 0
      have f0 := free_at mr 0
      obtain ⟨t, ht⟩ : ∃ t, capX (ofX (l ++ l')) = t := ⟨_, rfl⟩
      rw [ht] at hown6 ⊢
      have hP := (Put.refl mr).set 0 (.slice A6 t.l.length c6)
      have HP := Lib.hid hP
      have HT := Lib.hid ht
      have HO := Lib.hid hown6
      clear hP ht hown6
      refine wpL_last rfl (fun K hK => ?_)
      go_simp
      refine hK _ _ ?_
      clear hK K x0 f0
      refine wpL_plain (fun K hK => ?_); go_simp; refine hK _ ?_; clear hK K
      refine wpL_nil ?_
      have hs4 := hB24.size
      go_wp2_with fail
      have hP := HP.out
      have mr2 := hP.get (Array.getElem?_eq_some_iff.1 mr).1
      have d0 := cell_at mr2 0
      refine bodyPost_ret (v := .tuple #[.agg #[.slice A6 t.l.length c6], .int .i64 t.e]) ?_ rfl ?_
      · simp [results, Try.results15, go_sem, d0]
      · rw [show pickX (true && true) (capX (ofX (l ++ l'))) = t from HT.out]
        refine ⟨(hB.trans (hB25.mono hB.size)).trans (hP.below (by omega)), A6, c6, rfl, ?_⟩
        exact OwnL.mono (Nat.le_trans hB.size hs4) (HO.out.of (fun k hk _ => hP.other (by omega)))

set_option maxRecDepth 100000 in
set_option maxHeartbeats 2000000 in
theorem refHas_any (A : Option Addr) (c : Nat) (l : L64) (n : Nat) (hn : l.length = n) (hl : n ≤ 65536) (x : BitVec 64) (w : World) (hA : At w w.heap.size A l) :
    Calls Try.prog 24 #[.agg #[.slice A n c], .int .u64 (U x)] w fun e w' => e = .returned (.bool (hasX l x)) ∧ Below w.heap.size w w' := by
  have HN := Lib.hid hn
  clear hn
  have hbx : Below w.heap.size w (w.alloc (.cells #[.slice A n c] 24)) := (Below.refl _ w).alloc (Nat.le_refl _) _
  go_enter Try.func24, Try.ntmps24
  go_wp2_with fail
  have kx := new_at w (.cells #[.slice A n c] 24) _ rfl
  have hAx := hA.later hbx
  generalize w.alloc (.cells #[.slice A n c] 24) = u at *
  have x0 := cell_at kx 0
  go_loop [5] (fun iv => ∃ j : Nat, j ≤ n ∧ iv = .int .i64 j ∧ Hid (∀ i, i < j → nth l i ≠ x)) (fun iv => n - (intOf iv).toNat)
  case atStart => exact ⟨0, Nat.zero_le _, rfl, Lib.hid (fun i hi => absurd hi (by omega))⟩
  case round =>
    obtain ⟨j, hj, rfl, H⟩ := hrel
    by_cases hjn : j < n
    · have hAx2 := Lib.hid hAx
      obtain ⟨b, o, rfl, hb, hc⟩ := hAx (by rw [HN.out]; omega)
      have y := hc j (by rw [HN.out]; exact hjn)
      have hu := U_beq (nth l j) x
      by_cases hx : nth l j = x
      · have e : (nth l j == x) = true := by rw [beq_iff_eq]; exact hx
        rw [e] at hu
        have HM : Hid (hasX l x = rightX l) := Lib.hid (by
          have : x ∈ l := by rw [← hx]; exact nth_mem (by rw [HN.out]; exact hjn)
          unfold hasX; rw [decide_eq_true this, Bool.and_true])
        clear hc hx e
        go_wp2_with fail
        refine (refRight_any _ c l n HN.out hl u hAx2.out).mono ?_
        rintro e w1 ⟨rfl, hB1⟩
        go_wp2_with fail
        go_ret
        exact ⟨by rw [HM.out]; rfl, hbx.trans (hB1.mono hbx.size)⟩
      · have e : (nth l j == x) = false := by rw [beq_eq_false_iff_ne]; exact hx
        rw [e] at hu
        have HX := Lib.hid hx
        clear hc hx e
        go_wp2_with fail
        go_round
        case rel => exact ⟨j + 1, by omega, by go_num, Lib.hid (fun i hi => by
          by_cases e : i = j
          · rw [e]; exact HX.out
          · exact H.out i (by omega))⟩
        case measure => simp [intOf]; omega
    · obtain rfl : j = n := by omega
      have HM : Hid (hasX l x = false) := Lib.hid (by
        have : x ∉ l := fun h => by
          obtain ⟨i, hi, e⟩ := mem_nth h
          exact H.out i (by rw [← HN.out]; exact hi) e
        unfold hasX; rw [decide_eq_false this, Bool.and_false])
      go_wp2_with fail
      go_ret
      exact ⟨by rw [HM.out]; rfl, hbx⟩
set_option maxRecDepth 100000 in
set_option maxHeartbeats 1000000 in
theorem refCount_any (A : Option Addr) (c : Nat) (l : L64) (n : Nat) (hn : l.length = n) (hl : n ≤ 65536) (w : World) (hA : At w w.heap.size A l) :
    Calls Try.prog 25 #[.agg #[.slice A n c]] w fun e w' => e = .returned (.int .u64 (countX l : Nat)) ∧ Below w.heap.size w w' := by
  have hbx : Below w.heap.size w (w.alloc (.cells #[.slice A n c] 24)) := (Below.refl _ w).alloc (Nat.le_refl _) _
  unfold countX
  rw [hn]
  obtain ⟨y, hy⟩ : ∃ y, rightX l = y := ⟨_, rfl⟩
  rw [hy]
  have HY := Lib.hid hy
  have hw : IntKind.u64.wrap (n : Int) = (n : Int) := by rw [IntKind.wrap_u64]; omega
  clear hy
  cases y with
  | false =>
    rw [if_neg Bool.false_ne_true]
    go_enter Try.func25, Try.ntmps25
    go_wp2_with fail
    have hR := refRight_any A c l n hn hl _ (hA.later hbx)
    rw [HY.out] at hR
    refine hR.mono ?_
    rintro e w1 ⟨rfl, hB1⟩
    have hB := hbx.trans (hB1.mono hbx.size)
    clear hR hB1 hbx
    go_wp2_with fail
    go_ret
    exact ⟨rfl, hB⟩
  | true =>
    rw [if_pos rfl]
    go_enter Try.func25, Try.ntmps25
    go_wp2_with fail
    have hR := refRight_any A c l n hn hl _ (hA.later hbx)
    rw [HY.out] at hR
    refine hR.mono ?_
    rintro e w1 ⟨rfl, hB1⟩
    have kx := keep (new_at w _ _ rfl) hB1
    have hB := hbx.trans (hB1.mono hbx.size)
    have x0 := cell_at kx 0
    clear hR hB1 hbx
    go_wp2_with fail
    go_ret
    exact ⟨rfl, hB⟩
end Go.Proofs.Ythnnbpmpaeddgaa
