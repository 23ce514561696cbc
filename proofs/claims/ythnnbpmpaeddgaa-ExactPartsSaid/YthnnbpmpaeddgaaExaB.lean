/-
  Numbers put among some that are the call's own, in order: the program's.
-/
import Derived.Test.YthnnbpmpaeddgaaExaA
import Derived.Test.YthnnbpmpaeddgaaIter3
namespace Go.Proofs.Ythnnbpmpaeddgaa
open Go.RowKit Go.Shelf
attribute [local go_sem] Oper.semAt_some calmOp calmUpon effOp effUpon

theorem take_snocU (l : L64) (j : Nat) (h : j < l.length) : l.take (j + 1) = l.take j ++ [nth l j] := by
  rw [List.take_add_one, nth_get h]; rfl

set_option maxRecDepth 100000 in
set_option maxHeartbeats 4000000 in
theorem put_any (A : Option Addr) (c : Nat) (L : L64) (n : Nat) (hn : L.length = n) (hn2 : n ≤ 60000) (w : World) (hA : At w w.heap.size A L) :
    Calls Try.prog 35 #[.slice none 0 0, .slice A n c] w fun e w' => Below w.heap.size w w' ∧ ∃ v : Value, e = .returned v ∧ OwnL w' w.heap.size v (ofX L) := by
  have HN := Lib.hid hn
  clear hn
  go_enter Try.func35, Try.ntmps35
  go_wp2_with fail
  go_loopw [14] (fun iv wr => ∃ j : Nat, j ≤ n ∧ iv = .int .i64 j ∧ w.heap.size + 1 ≤ wr.heap.size ∧ Below w.heap.size w wr ∧
      ∃ v : Value, wr.heap[w.heap.size]? = some (.cells #[v] 22 (0, 0)) ∧ OwnL wr (w.heap.size + 1) v (ofX (L.take j))) (fun iv _ => n - (intOf iv).toNat)
  case atStart => exact ⟨0, Nat.zero_le _, rfl, by simp, (Below.refl _ w).alloc (Nat.le_refl _) _, _, new_at _ _ _ rfl, OwnL.nil _ _⟩
  case round =>
    obtain ⟨j, hj, rfl, hz, hB, v, kb, hown⟩ := hrel
    obtain ⟨wo, rfl⟩ : ∃ wo : World, wo = wr := ⟨_, rfl⟩
    by_cases hjn : j < n
    · obtain ⟨A5, c5, rfl, hlc, hAt⟩ := hown.at_
      have hsort := sorted_ofX (L.take j)
      have hnext : ofX (L.take (j + 1)) = ins (ofX (L.take j)) (nth L j) := by rw [take_snocU L j (by rw [HN.out]; exact hjn), ofX_snoc]
      have hlen : (ofX (L.take j)).length ≤ j := Nat.le_trans (length_ofX_le _) (by rw [List.length_take]; omega)
      obtain ⟨S, hS⟩ : ∃ S, ofX (L.take j) = S := ⟨_, rfl⟩
      obtain ⟨b, o, rfl, hb, hc⟩ := hA (by rw [HN.out]; omega)
      have y := (hB.cell (p := ⟨b, o + j, none⟩) hb).trans (hc j (by rw [HN.out]; exact hjn))
      obtain ⟨x, hx⟩ : ∃ x, nth L j = x := ⟨_, rfl⟩
      rw [hS] at hown hlc hAt hsort hnext hlen kb
      rw [hx] at hnext y
      obtain ⟨N, hN⟩ : ∃ N, S.length = N := ⟨_, rfl⟩
      have hp := posU_le x S
      have hie := ins_eq x S
      rw [hN] at hlc hlen hp kb
      have cb := cell_at kb 0
      have HNx := Lib.hid hnext
      have HSo := Lib.hid hsort
      have HNN := Lib.hid hN
      have HIE := Lib.hid hie
      have HOwn := Lib.hid hown
      clear hc hS hnext hsort hN hie hx hown
      obtain ⟨p, hpe⟩ : ∃ p, posU S x = p := ⟨_, rfl⟩
      have HPE := Lib.hid hpe
      rw [hpe] at hp
      clear hpe
      cases hat : isAt S x with
      | true =>
        have HAt := Lib.hid hat
        clear hat
        go_wp2_with fail
        refine (find_any A5 c5 S x N HNN.out (by omega) HSo.out w.heap.size wo cb hAt).mono ?_
        rw [HAt.out, HPE.out]
        rintro e w1 ⟨rfl, rfl⟩
        go_wp2_with fail
        go_roundw
        case rel => exact ⟨j + 1, by omega, by go_num, hz, hB, _, kb, by
          rw [HNx.out, HIE.out, if_pos HAt.out]
          have h := HOwn.out
          rw [HNN.out] at h
          exact h⟩
        case measure => simp [intOf]; omega
      | false =>
        have HAt := Lib.hid hat
        clear hat
        obtain ⟨W0, hmk, hW0⟩ := make_room p (N + 1) (by omega) (by omega) wo
        have hcp := copy_room wo A5 (S.take p) p (N + 1) p (by rw [List.length_take, HNN.out]; omega) (by omega) (by omega) (hAt.take p)
        rw [← hW0] at hcp
        have eN : ((N + 1 : Nat) : Int) = (N : Int) + 1 := by omega
        rw [eN] at hmk
        clear eN
        obtain ⟨W, hcp, hownW, hBW⟩ := hcp
        have hBW0 : Below wo.heap.size wo W0 := by rw [hW0]; exact (Below.refl _ wo).alloc (Nat.le_refl _) _
        have kW0 := keep kb hBW0
        have kW := keep kb hBW
        have hAtW := hAt.below hBW
        have hcut := run_cut A5 N c5 p hp
        have hAc := hAtW.cut (p := p) (show S.length ≤ c5 by rw [HNN.out]; exact hlc)
        have c0 := cell_at kW0 0
        have hsW := hBW.size
        have l0 : ∀ s : Later (w.heap.size + 1) W, s.W.cell? ⟨w.heap.size, 0, none⟩ = some _ := fun s => s.cell (cell_at kW 0) (by show w.heap.size < _; omega)
        have HCp := Lib.hid hcp
        have HAt2 := Lib.hid hAt
        have HAc := Lib.hid hAc
        have HOW := Lib.hid hownW
        clear hW0 hcp hAt hAtW hAc hownW
        go_wp2_with fail
        refine (find_any A5 c5 S x N HNN.out (by omega) HSo.out w.heap.size wo cb (HAt2.out)).mono ?_
        rw [HAt.out, HPE.out]
        rintro e w1 ⟨rfl, rfl⟩
        have hcp := HCp.out
        go_wp2_with fail
        clear hcp hmk c0 cb
        refine region_mix_plain (C := fun W' => ∃ s : Later (w.heap.size + 1) W, W' = s.W) 8 [false, false, true, true, false, false, false, true] (by kernel_rfl) (by kernel_rfl) (by kernel_rfl) (by kernel_rfl) ⟨⟨W.drew, (Below.refl _ W).drew⟩, rfl⟩ ?_
        simp only [List.take_succ_cons, List.take_zero, List.drop_succ_cons, List.drop_zero]
        refine wpM_calm (fun K hK => ?_); go_simp; refine hK _ ?_; clear hK K
        refine wpM_calm (fun K hK => ?_); go_simp; refine hK _ ?_; clear hK K
        refine wpM_eff rfl (fun K hK => ?_)
        go_simp
        have hBa : Below w1.heap.size W (W.alloc (.cells #[.int .u64 (U x)] 25)).drew := ((Below.refl _ W).alloc hsW _).drew
        have ha : OwnL (W.alloc (.cells #[.int .u64 (U x)] 25)).drew w1.heap.size _ (S.take p) := HOW.out.of (fun k _ hk => Below.heap_alloc _ _ _ hk)
        have hca : (W.alloc (.cells #[.int .u64 (U x)] 25)).drew.cell? ⟨W.heap.size, 0, none⟩ = some (.int .u64 (U x)) := cell_at (w := (W.alloc (.cells #[.int .u64 (U x)] 25)).drew) (new_at W _ _ rfl) 0
        have hza : w1.heap.size ≤ (W.alloc (.cells #[.int .u64 (U x)] 25)).drew.heap.size := Nat.le_trans hsW hBa.size
        refine hK _ _ ⟨⟨_, hBa.mono hz⟩, rfl⟩ ?_
        clear hK K
        generalize (W.alloc (.cells #[.int .u64 (U x)] 25)).drew = Wa at *
        obtain ⟨v1, W1, happ, hown1, hB1⟩ := append_one Wa w1.heap.size _ (S.take p) x W.heap.size ha hca hza (by rw [List.length_take, HNN.out]; omega)
        refine wpM_eff rfl (fun K hK => ?_)
        refine effOp_append_run (.tmp 36) (.tmp 38) _ rfl rfl rfl happ ?_
        have hBa1 := hBa.trans hB1
        refine hK _ _ ⟨⟨_, hBa1.mono hz⟩, rfl⟩ ?_
        clear hK K happ ha hca
        refine wpM_calm (fun K hK => ?_); go_simp; refine hK _ ?_; clear hK K
        refine wpM_calm (fun K hK => ?_); go_simp; refine hK _ ?_; clear hK K
        refine wpM_calm (fun K hK => ?_); go_simp; refine hK _ ?_; clear hK K
        have hAd : At W1 W1.heap.size (cutA A5 c5 p) (S.drop p) := (HAc.out.below hBa1).mono (Nat.le_trans hsW hBa1.size)
        obtain ⟨v2, W2, happ, hown2, hB2⟩ := append_list W1 w1.heap.size v1 (S.take p ++ [x]) (S.drop p) (cutA A5 c5 p) (N - p) (c5 - p) hown1 (by rw [List.length_drop, HNN.out]) hAd (Nat.le_trans hsW hBa1.size) (by rw [List.length_append, List.length_take, HNN.out, List.length_singleton]; omega)
        refine wpM_eff rfl (fun K hK => ?_)
        refine effOp_append_run (.tmp 39) (.tmp 42) _ rfl rfl rfl happ ?_
        have hB02 := hBa1.trans hB2
        refine hK _ _ ⟨⟨_, hB02.mono hz⟩, rfl⟩ ?_
        clear hK K happ l0 hown1 hcut hAd
        refine wpM_nil ?_
        have k2 := (hB02.block w.heap.size (by omega)).trans kW
        have x0 := cell_at k2 0
        have f0 := free_at k2 0
        obtain ⟨A7, c7, hv2, -, -⟩ := hown2.at_
        obtain ⟨n7, hn7⟩ : ∃ n7, (S.take p ++ [x] ++ S.drop p).length = n7 := ⟨_, rfl⟩
        rw [hn7] at hv2
        subst hv2
        clear hn7
        have hP := (Put.refl k2).set 0 (.slice A7 n7 c7)
        have HP := Lib.hid hP
        have HO := Lib.hid hown2
        have hs2 := hB02.size
        clear hP hown2
        gi_wp2
        go_wp2_with fail
        have hP := HP.out
        go_roundw
        case rel =>
          refine ⟨j + 1, by omega, by go_num, by rw [hP.size]; omega, ((hB.trans (hBW.mono (by omega))).trans (hB02.mono (by omega))).trans (hP.below (Nat.le_refl _)), _, hP.get (by omega), ?_⟩
          rw [HNx.out, HIE.out, if_neg (by rw [HAt.out]; exact Bool.false_ne_true), HPE.out]
          have ho := HO.out
          rw [List.append_assoc, List.singleton_append] at ho
          exact (OwnL.mono hz ho).of (fun k hk hk2 => hP.other (by omega))
        case measure => simp [intOf]; omega
    · obtain rfl : j = n := by omega
      have x0 := cell_at kb 0
      rw [List.take_of_length_le (by rw [HN.out]; exact Nat.le_refl _)] at hown
      have HO := Lib.hid hown
      clear hown
      go_wp2_with fail
      go_ret
      exact ⟨hB, _, rfl, OwnL.mono (Nat.le_succ _) HO.out⟩
end Go.Proofs.Ythnnbpmpaeddgaa
