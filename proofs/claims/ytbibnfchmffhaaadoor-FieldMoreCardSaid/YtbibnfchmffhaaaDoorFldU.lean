/-
  Lists of texts: the first ones, cut; compared; joined; their bytes, by the program and by the reference.
-/
import Derived.Test.YtbibnfchmffhaaaDoorFldT
import Derived.Test.YtbibnfchmffhaaaDoorBld
namespace Go.Proofs.YtbibnfchmffhaaaDoor
open Go.RowKit
attribute [local go_sem] Oper.semAt_some calmOp calmUpon effOp effUpon

/-- The first four hundred and ten bytes. -/
def cut41 (s : ByteArray) : ByteArray := s.extract 0 (min s.size 410)
theorem cut41_size (s : ByteArray) : (cut41 s).size ≤ 410 := by unfold cut41; rw [ByteArray.size_extract]; omega
/-- The first hundred and ten texts, cut. -/
def fewS (l : LS) : LS := (l.take 110).map cut41
theorem nthS_size {l : LS} {m : Nat} (h : ∀ s ∈ l, s.size ≤ m) {j : Nat} (hj : j < l.length) : (nthS l j).size ≤ m := h _ (by
  have := nthS_get hj
  exact List.mem_of_getElem? this)

set_option maxRecDepth 100000 in
set_option maxHeartbeats 4000000 in
theorem Few_any (A : Option Addr) (c : Nat) (l : LS) (n : Nat) (hn : l.length = n) (hz : ∀ s ∈ l, s.size ≤ 9223372036854775807) (hm : n ≤ 9223372036854775807) (w : World) (hA : AtS w w.heap.size A l) :
    Calls Tryd.prog 20 #[.slice A n c] w fun e w' => Below w.heap.size w w' ∧ ∃ v : Value, e = .returned v ∧ OwnS w' w.heap.size v (fewS l) := by
  have HN := Lib.hid hn
  have HZ := Lib.hid hz
  clear hn hz
  go_enter Tryd.func20, Tryd.ntmps20
  go_wp2_with fail
  go_loopw [3, 4] (fun vv iv wr => ∃ j : Nat, j ≤ n ∧ j ≤ 110 ∧ iv = .int .i64 j ∧ Below w.heap.size w wr ∧ OwnS wr w.heap.size vv ((l.take j).map cut41)) (fun _ iv _ => n - (intOf iv).toNat)
  case atStart => exact ⟨0, Nat.zero_le _, Nat.zero_le _, rfl, Below.refl _ w, OwnS.nil _ _⟩
  case round =>
    obtain ⟨j, hj, hj1, rfl, hB, hown⟩ := hrel
    obtain ⟨wo, rfl⟩ : ∃ wo : World, wo = wr := ⟨_, rfl⟩
    by_cases hjn : j < n
    · by_cases hj0 : j < 110
      · obtain ⟨A5, c5, rfl, hlc, -⟩ := hown.at_
        have hlen : ((l.take j).map cut41).length = j := by rw [List.length_map, List.length_take, HN.out]; omega
        have hnext : (l.take (j + 1)).map cut41 = (l.take j).map cut41 ++ [cut41 (nthS l j)] := by rw [takeS_snoc l j (by rw [HN.out]; exact hjn), List.map_append]; rfl
        obtain ⟨b, o, rfl, hb, hc⟩ := hA (by rw [HN.out]; omega)
        have y0 := (hB.cell (p := ⟨b, o + j, none⟩) hb).trans (hc j (by rw [HN.out]; exact hjn))
        have hzs := nthS_size HZ.out (j := j) (by rw [HN.out]; exact hjn)
        have hcut : (nthS l j).extract 0 (min (nthS l j).size 410) = cut41 (nthS l j) := rfl
        generalize nthS l j = x at *
        obtain ⟨M, hM⟩ : ∃ M, min x.size 410 = M := ⟨_, rfl⟩
        have hmin : min ((x.size : Nat) : Int) 410 = (M : Int) := by omega
        have hM0 : (0 : Int) ≤ (M : Int) := by omega
        have hM1 : (M : Int) ≤ ((x.size : Nat) : Int) := by omega
        rw [hM] at hcut
        rw [hlen] at hlc ⊢
        generalize cut41 x = X at *
        have HNx := Lib.hid hnext
        have HOwn := Lib.hid hown
        have HLen := Lib.hid hlen
        have l0 : ∀ s : Later w.heap.size wo, s.W.cell? ⟨b, o + j, none⟩ = some (.string x) := fun s => s.cell y0 hb
        have hjI : (j : Int) < (n : Int) := by omega
        have hjI0 : (0 : Int) ≤ (j : Int) := by omega
        clear hc hnext hown hlen y0 hM
        go_wp2_with fail
        refine region_mix_plain (C := fun W' => ∃ s : Later w.heap.size wo, W' = s.W) 14 [false, false, false, false, false, false, false, false, false, false, false, false, true, true] (by kernel_rfl) (by kernel_rfl) (by kernel_rfl) (by kernel_rfl) ⟨⟨wo.drew, (Below.refl _ wo).drew⟩, rfl⟩ ?_
        simp only [List.take_succ_cons, List.take_zero, List.drop_succ_cons, List.drop_zero]
        iterate 12 (refine wpM_calm (fun K hK => ?_); go_simp; refine hK _ ?_; clear hK K)
        clear l0
        refine wpM_eff rfl (fun K hK => ?_)
        go_simp
        have hs0 := hB.size
        have hBa : Below wo.heap.size wo (wo.alloc (.cells #[.string X] 9)).drew := ((Below.refl _ wo).alloc (Nat.le_refl _) _).drew
        have ha : OwnS (wo.alloc (.cells #[.string X] 9)).drew w.heap.size _ ((l.take j).map cut41) := HOwn.out.of (fun k _ hk => Below.heap_alloc _ _ _ hk)
        have hca : (wo.alloc (.cells #[.string X] 9)).drew.cell? ⟨wo.heap.size, 0, none⟩ = some (.string X) := cell_at (w := (wo.alloc (.cells #[.string X] 9)).drew) (new_at wo _ _ rfl) 0
        refine hK _ _ ⟨⟨_, hBa.mono hs0⟩, rfl⟩ ?_
        clear hK K
        generalize (wo.alloc (.cells #[.string X] 9)).drew = Wa at *
        obtain ⟨v1, W1, happ, hown1, hB1⟩ := append_str Wa w.heap.size _ ((l.take j).map cut41) X wo.heap.size ha hca (Nat.le_trans hs0 hBa.size) (by rw [HLen.out]; omega)
        rw [HLen.out] at happ
        refine wpM_eff rfl (fun K hK => ?_)
        refine effOpS_append_run (.tmp 15) (.tmp 27) _ rfl rfl rfl happ ?_
        have hBa1 := (hBa.mono hs0).trans hB1
        refine hK _ _ ⟨⟨_, hBa1⟩, rfl⟩ ?_
        clear hK K happ ha hca
        refine wpM_nil ?_
        have HO := Lib.hid hown1
        have HB1 := Lib.hid (hB.trans hBa1)
        clear hown1 hBa1 hB1 hBa hcut hmin
        gi_wp2
        go_wp2_with fail
        go_roundw
        case rel => exact ⟨j + 1, by omega, by omega, by go_num, HB1.out, by rw [HNx.out]; exact HO.out⟩
        case measure => simp [intOf]; omega
      · have hlt : (j : Int) < (n : Int) := by omega
        have hge : ¬ (j : Int) < 110 := by omega
        have e : fewS l = (l.take j).map cut41 := by unfold fewS; rw [show j = 110 by omega]
        have HE := Lib.hid e
        have HOwn := Lib.hid hown
        clear e hown
        go_wp2_with fail
        go_ret
        exact ⟨hB, _, rfl, by rw [HE.out]; exact HOwn.out⟩
    · have hge : ¬ (j : Int) < (n : Int) := by omega
      have e : fewS l = (l.take j).map cut41 := by unfold fewS; rw [List.take_of_length_le (by rw [HN.out]; omega), List.take_of_length_le (i := j) (by rw [HN.out]; omega)]
      have HE := Lib.hid e
      have HOwn := Lib.hid hown
      clear e hown
      go_wp2_with fail
      go_ret
      exact ⟨hB, _, rfl, by rw [HE.out]; exact HOwn.out⟩
end Go.Proofs.YtbibnfchmffhaaaDoor
