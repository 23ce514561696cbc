/-
  Sketches of numbers, what is added, merged, there, by definition: the reference's.
-/
import Derived.Test.YthnnbpmpaeddgaaExaG
namespace Go.Proofs.Ythnnbpmpaeddgaa
open Go.RowKit Go.Shelf
attribute [local go_sem] calmOp calmUpon effOp effUpon

set_option maxRecDepth 100000 in
set_option maxHeartbeats 2000000 in
theorem refOf_gives (A : Option Addr) (c : Nat) (L : L64) (n : Nat) (hn : L.length = n) (hn2 : n ≤ 60000) (w : World) (hA : At w w.heap.size A L) :
    Calls Try.prog 21 #[.slice A n c] w (GivesX (capX (ofX L)) w) := by
  have HN := Lib.hid hn
  clear hn
  have hfull : L.take n = L := List.take_of_length_le (by rw [HN.out]; exact Nat.le_refl _)
  have HFull := Lib.hid hfull
  clear hfull
  go_enter Try.func21, Try.ntmps21
  go_wp2_with fail
  go_loopw [4, 5] (fun lv iv wr => ∃ (j : Nat) (A5 : Option Addr) (N c5 : Nat), j ≤ n ∧ iv = .int .i64 j ∧ lv = .slice A5 N c5 ∧ Hid ((ofX (L.take j)).length = N) ∧ N ≤ n ∧ w.heap.size + 1 ≤ wr.heap.size ∧ Below w.heap.size w wr ∧ wr.heap[w.heap.size]? = some (.cells #[.slice none 0 0] 24 (0, 0)) ∧
      OwnL wr (w.heap.size + 1) (.slice A5 N c5) (ofX (L.take j))) (fun _ iv _ => n - (intOf iv).toNat)
  case atStart => exact ⟨0, none, 0, 0, Nat.zero_le _, rfl, rfl, Lib.hid rfl, Nat.zero_le _, by simp, (Below.refl _ w).alloc (Nat.le_refl _) _, new_at _ _ _ rfl, OwnL.nil _ _⟩
  case round =>
    obtain ⟨j, A5, N, c5, hj, rfl, rfl, HL, hNn, hz, hB, kr, hown⟩ := hrel
    obtain ⟨wo, rfl⟩ : ∃ wo : World, wo = wr := ⟨_, rfl⟩
    by_cases hjn : j < n
    · obtain ⟨b, o, rfl, hb, hc⟩ := hA (by rw [HN.out]; omega)
      have y := (hB.cell (p := ⟨b, o + j, none⟩) hb).trans (hc j (by rw [HN.out]; exact hjn))
      have hnext : ofX (L.take (j + 1)) = ins (ofX (L.take j)) (nth L j) := by rw [take_snocU L j (by rw [HN.out]; exact hjn), ofX_snoc]
      have HNx := Lib.hid hnext
      have HOwn := Lib.hid hown
      clear hc hnext hown
      go_wp2_with fail
      refine (refPut_any (w.heap.size + 1) _ (ofX (L.take j)) N HL.out (by omega) (nth L j) wo HOwn.out hz).mono ?_
      rw [← HNx.out]
      rintro e w1 ⟨hB1, v', rfl, hown1⟩
      obtain ⟨A6, c6, hv, -, -⟩ := hown1.at_
      obtain ⟨N6, hN6⟩ : ∃ N6, (ofX (L.take (j + 1))).length = N6 := ⟨_, rfl⟩
      rw [hN6] at hv
      subst hv
      have HN6 := Lib.hid hN6
      have HO := Lib.hid hown1
      have hle : N6 ≤ n := by rw [← hN6]; exact Nat.le_trans (length_ofX_le _) (by rw [List.length_take]; omega)
      have hs1 := hB1.size
      clear hN6 hown1
      go_wp2_with fail
      go_roundw
      case rel => exact ⟨j + 1, A6, N6, c6, by omega, by go_num, rfl, HN6, hle, by omega, hB.trans (hB1.mono (Nat.le_succ _)), (hB1.block _ (by omega)).trans kr, HO.out⟩
      case measure => simp [intOf]; omega
    · obtain rfl : j = n := by omega
      have d0 := cell_at kr 0
      have f0 := free_at kr 0
      have ho := HFull.out
      have HOwn := Lib.hid hown
      have h2 := HL.out
      rw [ho] at h2
      have HN2 := Lib.hid h2
      clear hown h2 ho
      by_cases h64 : 64 < N
      · have HC : Hid (capX (ofX L) = ⟨[], 60⟩) := Lib.hid (by unfold capX; rw [HN2.out, if_neg (by omega)])
        go_wp2_with fail
        refine bodyPost_ret (v := .tuple #[.agg #[.slice none 0 0], .int .i64 60]) ?_ rfl (by rw [HC.out]; exact GivesX.bad _ _ (hB.setCell (by simp) _))
        simp [results, Try.results21, go_sem, d0]
      · have HC : Hid (capX (ofX L) = ⟨ofX L, 0⟩) := Lib.hid (by unfold capX; rw [HN2.out, if_pos (by omega)])
        go_wp2_with fail
        refine bodyPost_ret (v := .tuple #[.agg #[.slice A5 N c5], .int .i64 0]) ?_ rfl ?_
        · simp [results, Try.results21, go_sem, d0]
        · rw [HC.out]
          refine ⟨hB.setCell (by simp) _, A5, c5, ?_, ?_⟩
          · show _ = Ending.returned (.tuple #[.agg #[.slice A5 (ofX L).length c5], .int .i64 0])
            rw [HN2.out]
          · show OwnL _ _ (.slice A5 (ofX L).length c5) (ofX L)
            rw [HN2.out]
            have ho := HOwn.out
            rw [HFull.out] at ho
            have h2 : OwnL (wo.setCell ⟨w.heap.size, 0, none⟩ (.slice A5 N c5)) (w.heap.size + 1) (.slice A5 N c5) (ofX L) := ho.of (fun k hk _ => Below.heap_setCell wo ⟨w.heap.size, 0, none⟩ _ k (by show k ≠ w.heap.size; omega))
            exact OwnL.mono (Nat.le_succ _) h2

set_option maxRecDepth 100000 in
set_option maxHeartbeats 2000000 in
theorem refAdd_gives (A : Option Addr) (c : Nat) (l : L64) (n : Nat) (hn : l.length = n) (hl : n ≤ 50000) (x : BitVec 64) (w : World) (hA : At w w.heap.size A l) :
    Calls Try.prog 13 #[.agg #[.slice A n c], .int .u64 (U x)] w (GivesX (mergeX l [x]) w) := by
  have hone : rightX [x] = true := rfl
  have hm : mergeX l [x] = pickX (rightX l) (capX (ofX (l ++ [x]))) := by unfold mergeX; rw [hone, Bool.and_true]
  rw [hm]
  obtain ⟨q, hq⟩ : ∃ q, rightX l = q := ⟨_, rfl⟩
  rw [hq]
  have HQ := Lib.hid hq
  have HN := Lib.hid hn
  clear hm hq hn hone
  go_enter Try.func13, Try.ntmps13
  go_wp2_with fail
  have hb2 : Below w.heap.size w ((w.alloc (.cells #[.slice A n c] 24)).alloc (.cells #[.slice none 0 0] 24)) := ((Below.refl _ w).alloc (Nat.le_refl _) _).alloc (by simp) _
  have hR := refRight_any A c l n HN.out (by omega) _ (hA.later hb2)
  rw [HQ.out] at hR
  refine hR.mono ?_
  rintro e w1 ⟨rfl, hB1⟩
  obtain ⟨kx, kr, hB, hs1⟩ := duo1 hB1
  clear hR hB1 hb2
  cases q with
  | false =>
    have d0 := cell_at kr 0
    have f0 := free_at kr 0
    go_wp2_with fail
    refine bodyPost_ret (v := .tuple #[.agg #[.slice none 0 0], .int .i64 60]) ?_ rfl (GivesX.bad _ _ (hB.setCell (by simp) _))
    simp [results, Try.results13, go_sem, d0]
  | true =>
    have x0 := cell_at kx 0
    have a1 := hA.later hB
    obtain ⟨v2, w2, happ, hown2, hB2⟩ := append_list w1 w1.heap.size (.slice none 0 0) [] l A n c (OwnL.nil _ _) HN.out a1 (Nat.le_refl _) (by simp; omega)
    rw [List.nil_append] at hown2
    have hs2 := hB2.size
    have hBa : Below w1.heap.size w1 (w2.alloc (.cells #[.int .u64 (U x)] 25)) := hB2.alloc hs2 _
    obtain ⟨v3, w3, happ3, hown3, hB3⟩ := append_one (w2.alloc (.cells #[.int .u64 (U x)] 25)) w1.heap.size v2 l x w2.heap.size (hown2.of (fun k _ hk => Below.heap_alloc _ _ _ hk)) (cell_at (new_at w2 _ _ rfl) 0) (by simp; omega) (by rw [HN.out]; omega)
    have hB13 := hBa.trans hB3
    obtain ⟨A3, c3, hv3, -, hAt3⟩ := hown3.at_
    have hlen : (l ++ [x]).length = n + 1 := by rw [List.length_append, HN.out]; rfl
    rw [hlen] at hv3
    subst hv3
    have HA1 := Lib.hid happ
    have HA2 := Lib.hid happ3
    have HLen := Lib.hid hlen
    have kr3 := keep kr hB13
    have hBw3 := hB.trans (hB13.mono hB.size)
    clear happ happ3 hown2 hown3 hB2 hBa hB3 hlen a1 hB13 kr
    go_wp2_with (first | (at_builtin; refine wpList_append_run rfl (.tmp 11) (.tmp 13) _ rfl rfl rfl HA1.out ?_) | (at_builtin; refine wpList_append_run rfl (.tmp 14) (.tmp 16) _ rfl rfl rfl HA2.out ?_))
    refine (refOf_gives A3 c3 (l ++ [x]) (n + 1) HLen.out (by omega) w3 hAt3).mono ?_
    rintro e w4 ⟨hB4, A4, c4, rfl, hown4⟩
    have kr4 := keep kr3 hB4
    have d0 := cell_at kr4 0
    have f0 := free_at kr4 0
    have hB' := hBw3.trans (hB4.mono hBw3.size)
    have HO := Lib.hid hown4
    have hlt := (Array.getElem?_eq_some_iff.1 kr3).1
    clear hown4
    obtain ⟨t, ht⟩ : ∃ t, capX (ofX (l ++ [x])) = t := ⟨_, rfl⟩
    rw [ht] at HO ⊢
    have HT := Lib.hid ht
    clear ht
    go_wp2_with fail
    refine bodyPost_ret (v := .tuple #[.agg #[.slice A4 t.l.length c4], .int .i64 t.e]) ?_ rfl ?_
    · simp [results, Try.results13, go_sem, d0]
    · rw [show pickX true (capX (ofX (l ++ [x]))) = t from HT.out]
      refine ⟨hB'.setCell (by simp) _, A4, c4, rfl, ?_⟩
      exact OwnL.mono hBw3.size (HO.out.of (fun k hk _ => Below.heap_setCell w4 ⟨w.heap.size + 1, 0, none⟩ _ k (by show k ≠ w.heap.size + 1; omega)))
end Go.Proofs.Ythnnbpmpaeddgaa
