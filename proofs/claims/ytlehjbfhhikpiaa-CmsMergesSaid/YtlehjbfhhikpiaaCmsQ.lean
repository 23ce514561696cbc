/-
  What is lowered: the reference's.
-/
import Derived.Test.YtlehjbfhhikpiaaCmsP
namespace Go.Proofs.Ytlehjbfhhikpiaa
open Go.RowKit
attribute [local go_sem] calmOp calmUpon effOp effUpon

theorem wrap_sum (x y z : Nat) (h : x + y = z) (hz : z ≤ 1000) : wrap64 ((x : Int) + (y : Int)) = (z : Int) ∧ IntKind.i64.wrap ((x : Int) + (y : Int)) = (z : Int) := by
  have e : (x : Int) + (y : Int) = (z : Int) := by omega
  rw [e, IntKind.wrap_i64]
  exact ⟨w64 _ (by omega), by omega⟩

set_option maxRecDepth 100000 in
set_option maxHeartbeats 4000000 in
theorem refLower_gives (R C : Int) (A : Option Addr) (c : Nat) (l : List (BitVec 64)) (w : World) (hA : At w w.heap.size A l) :
    Calls Try.prog 29 #[.agg #[.int .i64 R, .int .i64 C, .slice A l.length c]] w (Gives (lowerR R C l) w) := by
  unfold lowerR
  obtain ⟨ok, hok⟩ : ∃ ok, (isRight R C l.length && !(C == 4)) = ok := ⟨_, rfl⟩
  rw [hok]
  go_enter Try.func29, Try.ntmps29
  go_wp2_with fail
  refine (refRight_any R C A l.length c _).mono ?_
  rintro e w1 ⟨rfl, hB1⟩
  obtain ⟨kx, kr, hBw1, hs1⟩ := duo hB1
  have d0 := cell_at kr 0
  have d1 := cell_at kr 1
  have d2 := cell_at kr 2
  have f0 := free_at kr 0
  have f1 := free_at kr 1
  have f2 := free_at kr 2
  clear hB1
  by_cases hR : isRight R C l.length = true
  · have hRR := hR
    rw [hR] at hok ⊢
    obtain ⟨r, k, rfl, rfl, hr, hr4, hk, hn⟩ := isRight_out hR
    have x0 := cell_at kx 0
    have x1 := cell_at kx 1
    have hlt0 : 0 < l.length := by rw [hn]; exact Nat.mul_pos (by omega) (by omega)
    have HN := Lib.hid hn
    have HK := Lib.hid hk
    clear hR hRR hn hk
    by_cases h4 : (k : Int) = 4
    · have he4 : ((k : Int) == 4) = true := by rw [beq_iff_eq]; exact h4
      rw [he4] at hok
      simp only [Bool.not_true, Bool.and_false] at hok
      subst hok
      clear h4
      go_wp2_with fail
      refine bodyPost_ret (v := .tuple #[.agg #[.int .i64 0, .int .i64 0, .slice none 0 0], .int .i64 80]) ?_ rfl ⟨?_, none, 0, rfl, At.nil⟩
      · simp [results, Try.results29, go_sem, d0, d1, d2]
      · exact ((hBw1.setCell (by simp) _).setCell (by simp) _).setCell (by simp) _
    · have he4 : ((k : Int) == 4) = false := by rw [beq_eq_false_iff_ne]; exact h4
      rw [he4] at hok
      simp only [Bool.not_false, Bool.and_true] at hok
      subst hok
      obtain ⟨h, hh⟩ : ∃ h, k / 2 = h := ⟨_, rfl⟩
      have hq : (k : Int).tdiv 2 = (h : Int) := by rw [Int.tdiv_eq_ediv_of_nonneg (by omega)]; omega
      have hq2 : (k : Int) / 2 = (h : Int) := by omega
      have hk := HK.out
      have hkk : k = 2 * h := by omega
      have hh16 : h ≤ 16 := by omega
      obtain ⟨b, o, rfl, hb, hc⟩ := hA hlt0
      have HKK := Lib.hid hkk
      have HH := Lib.hid hh
      have HC := Lib.hid hc
      clear hkk hh hk h4 hc d0 d1 d2 f0 f1 f2
      go_wp2_with fail
      clear x0 x1 hq hq2
      go_loopw [5, 6] (fun lv iv wr => ∃ i : Nat, i ≤ r ∧ iv = .int .i64 i ∧ w.heap.size + 2 ≤ wr.heap.size ∧ Below (w.heap.size + 2) w1 wr ∧ ∃ u : Value, lv = u ∧ OwnL wr (w.heap.size + 2) u (joinTo h (lowPair k l) i)) (fun _ iv _ => r - (intOf iv).toNat)
      case atStart => exact ⟨0, Nat.zero_le _, rfl, by omega, Below.refl _ _, _, rfl, OwnL.nil _ _⟩
      case round =>
        obtain ⟨i, hi, rfl, hz, hB, u, rfl, hown⟩ := hrel
        obtain ⟨wo, rfl⟩ : ∃ wo : World, wo = wr := ⟨_, rfl⟩
        have jx := (hB.block w.heap.size (by omega)).trans kx
        have jr := (hB.block (w.heap.size + 1) (by omega)).trans kr
        have cx0 := cell_at jx 0
        by_cases hir : i < r
        · go_wp2_with fail
          go_loopw [5, 7] (fun lv iv wr => ∃ j : Nat, j ≤ h ∧ iv = .int .i64 j ∧ w.heap.size + 2 ≤ wr.heap.size ∧ Below (w.heap.size + 2) w1 wr ∧ ∃ u : Value, lv = u ∧ OwnL wr (w.heap.size + 2) u (joinTo h (lowPair k l) i ++ rowTo (lowPair k l) i j)) (fun _ iv _ => h - (intOf iv).toNat)
          case atStart => exact ⟨0, Nat.zero_le _, rfl, hz, hB, _, rfl, by rw [show rowTo (lowPair k l) i 0 = [] from rfl, List.append_nil]; exact hown⟩
          case round =>
            obtain ⟨j, hj, rfl, hz2, hB2, u2, rfl, hown2⟩ := hrel
            clear hz hB hown jx jr cx0
            obtain ⟨w2, rfl⟩ : ∃ w2 : World, w2 = wr := ⟨_, rfl⟩
            have jx := (hB2.block w.heap.size (by omega)).trans kx
            have cx1 := cell_at jx 1
            have cx2 := cell_at jx 2
            by_cases hjh : j < h
            · obtain ⟨L, hL⟩ : ∃ L, joinTo h (lowPair k l) i ++ rowTo (lowPair k l) i j = L := ⟨_, rfl⟩
              have hlen : L.length ≤ 65535 := by
                rw [← hL, List.length_append, joinTo_length, rowTo_length]
                have := Nat.mul_le_mul (show i ≤ 4 by omega) hh16
                omega
              have hij : i * k + j + h < l.length := by
                rw [HN.out]
                have h1 : (i + 1) * k ≤ r * k := Nat.mul_le_mul_right _ hir
                rw [Nat.add_mul, Nat.one_mul] at h1
                have := HKK.out
                omega
              have hnx : joinTo h (lowPair k l) i ++ rowTo (lowPair k l) i (j + 1) = L ++ [sat (nth l (i * k + j)) (nth l (i * k + j + h))] := by
                rw [rowTo_succ, ← List.append_assoc, hL]
                unfold lowPair
                rw [HH.out]
              rw [hL] at hown2
              have hBall := hBw1.trans (hB2.mono (by omega))
              have ci := (hBall.cell (p := ⟨b, o + (i * k + j), none⟩) hb).trans (HC.out (i * k + j) (by omega))
              have ci2 := (hBall.cell (p := ⟨b, o + (i * k + j + h), none⟩) hb).trans (HC.out (i * k + j + h) hij)
              obtain ⟨d, hd⟩ : ∃ d, i * k = d := ⟨_, rfl⟩
              have hd128 : d ≤ 128 := by rw [← hd]; exact Nat.le_trans (Nat.mul_le_mul (show i ≤ 4 by omega) (show k ≤ 32 by have := HKK.out; omega)) (by omega)
              have hm : IntKind.i64.wrap ((i : Int) * (k : Int)) = (d : Int) := by
                have e : (i : Int) * (k : Int) = (d : Int) := by rw [← hd]; simp
                rw [e, IntKind.wrap_i64]; omega
              have hm2 : wrap64 ((i : Int) * (k : Int)) = (d : Int) := by
                have e : (i : Int) * (k : Int) = (d : Int) := by rw [← hd]; simp
                rw [e]; exact w64 _ (by omega)
              rw [hd] at hij hnx ci ci2
              obtain ⟨p, hp⟩ : ∃ p, d + j = p := ⟨_, rfl⟩
              obtain ⟨q, hq⟩ : ∃ q, d + h = q := ⟨_, rfl⟩
              rw [hp] at hij hnx ci ci2
              obtain ⟨t, ht⟩ : ∃ t, p + h = t := ⟨_, rfl⟩
              have hqt : q + j = t := by rw [← hq, ← ht, ← hp, Nat.add_right_comm]
              have hp200 : p ≤ 200 := by rw [← hp]; exact Nat.le_trans (Nat.add_le_add hd128 (Nat.le_trans (Nat.le_of_lt hjh) hh16)) (by decide)
              have hq200 : q ≤ 200 := by rw [← hq]; exact Nat.le_trans (Nat.add_le_add hd128 hh16) (by decide)
              have ht200 : t ≤ 300 := by rw [← ht]; exact Nat.le_trans (Nat.add_le_add hp200 hh16) (by decide)
              obtain ⟨hps, hpq⟩ := wrap_sum d j p hp (Nat.le_trans hp200 (by decide))
              obtain ⟨hqs, hqq⟩ := wrap_sum d h q hq (Nat.le_trans hq200 (by decide))
              obtain ⟨hts, htq⟩ := wrap_sum q j t hqt (Nat.le_trans ht200 (by decide))
              have hpl : p < l.length := Nat.lt_of_le_of_lt (Nat.le_add_right p h) hij
              rw [ht] at hij hnx ci2
              have HNX := Lib.hid hnx
              have l1 : ∀ s : Later (w.heap.size + 2) w2, s.W.cell? ⟨w.heap.size, 1, none⟩ = some _ := fun s => s.cell cx1 (by show w.heap.size < _; omega)
              have l2 : ∀ s : Later (w.heap.size + 2) w2, s.W.cell? ⟨w.heap.size, 2, none⟩ = some _ := fun s => s.cell cx2 (by show w.heap.size < _; omega)
              have l3 : ∀ s : Later (w.heap.size + 2) w2, s.W.cell? ⟨b, o + p, none⟩ = some _ := fun s => s.cell ci (by show b < _; omega)
              have l4 : ∀ s : Later (w.heap.size + 2) w2, s.W.cell? ⟨b, o + t, none⟩ = some _ := fun s => s.cell ci2 (by show b < _; omega)
              have hz3 : w.heap.size + 2 ≤ w2.heap.size := hz2
              clear hnx hL hp hq ht hqt hd jx cx1 cx2 ci ci2 hBall
              go_wp2_with fail
              refine region_mix_plain (C := fun W' => ∃ s : Later (w.heap.size + 2) w2, W' = s.W) 26 (List.replicate 23 false ++ [true, true, true]) (by kernel_rfl) (by kernel_rfl) (by kernel_rfl) (by kernel_rfl) ⟨⟨w2.drew, (Below.refl _ w2).drew⟩, rfl⟩ ?_
              simp only [List.take_succ_cons, List.take_zero, List.drop_succ_cons, List.drop_zero, List.replicate_succ, List.replicate_zero, List.nil_append, List.cons_append]
              repeat (refine wpM_calm (fun K hK => ?_); go_simp; refine hK _ ?_; clear hK K)
              refine wpM_eff rfl (fun K hK => ?_)
              go_simp
              refine ⟨trivial, (callsIn_wide.2 (refPlus_any (nth l p) (nth l t) _)).mono ?_⟩
              rintro e w3 ⟨rfl, rfl⟩
              refine ⟨_, rfl, hK _ _ ⟨⟨w2.drew, (Below.refl _ w2).drew⟩, rfl⟩ ?_⟩
              clear hK K
              refine wpM_eff rfl (fun K hK => ?_)
              go_simp
              have hBa : Below (w.heap.size + 2) w2 (w2.alloc (.cells #[.int .u64 (U (sat (nth l p) (nth l t)))] 25)).drew := ((Below.refl _ w2).alloc hz3 _).drew
              have hown4 : OwnL (w2.alloc (.cells #[.int .u64 (U (sat (nth l p) (nth l t)))] 25)).drew (w.heap.size + 2) _ L := hown2.of (fun k _ hk => Below.heap_alloc _ _ _ hk)
              obtain ⟨v', W, happ, hown5, hB5⟩ := append_one (w2.alloc (.cells #[.int .u64 (U (sat (nth l p) (nth l t)))] 25)).drew (w.heap.size + 2) _ L (sat (nth l p) (nth l t)) w2.heap.size hown4 (cell_at (w := (w2.alloc (.cells #[.int .u64 (U (sat (nth l p) (nth l t)))] 25)).drew) (new_at w2 _ _ rfl) 0) (by simp; omega) hlen
              refine hK _ _ ⟨⟨_, hBa⟩, rfl⟩ ?_
              clear hK K
              refine wpM_eff rfl (fun K hK => ?_)
              refine effOp_append_run (.tmp 31) (.tmp 55) _ rfl rfl rfl happ ?_
              refine hK _ _ ⟨⟨_, hBa.trans hB5⟩, rfl⟩ ?_
              clear hK K
              refine wpM_nil ?_
              rw [← HNX.out] at hown5
              have HO := Lib.hid hown5
              have HB := Lib.hid (hB2.trans (hBa.trans hB5))
              have hsW := HB.out.size
              clear happ hown2 hown4 hown5 hBa hB5 l1 l2 l3 l4 hB2
              gi_wp2
              go_wp2_with fail
              go_roundw
              case rel => exact ⟨j + 1, by omega, by go_num, by omega, HB.out, _, rfl, HO.out⟩
              case measure => simp [intOf]; omega
            · obtain rfl : j = h := by omega
              go_wp2_with fail
              go_roundw
              case rel => exact ⟨i + 1, by omega, by go_num, hz2, hB2, _, rfl, by rw [joinTo_succ]; exact hown2⟩
              case measure => simp [intOf]; omega
        · obtain rfl : i = r := by omega
          obtain ⟨A5, c5, rfl, hlc5, -⟩ := hown.at_
          have HO := Lib.hid hown
          have d0 := cell_at jr 0
          have d1 := cell_at jr 1
          have d2 := cell_at jr 2
          have f0 := free_at jr 0
          have f1 := free_at jr 1
          have f2 := free_at jr 2
          clear hown
          go_wp2_with fail
          refine bodyPost_ret (v := .tuple #[.agg #[.int .i64 (i : Int), .int .i64 (h : Int), .slice A5 (joinTo h (lowPair k l) i).length c5], .int .i64 0]) ?_ rfl ⟨?_, A5, c5, ?_, ?_⟩
          · simp [results, Try.results29, go_sem, d0, d1, d2]
          · exact (((hBw1.trans (hB.mono (by omega))).setCell (by simp) _).setCell (by simp) _).setCell (by simp) _
          · rw [show (k : Int).toNat / 2 = h from HH.out]; rfl
          · have e : ∀ (W : World) v i k, w.heap.size + 2 ≤ k → (W.setCell ⟨w.heap.size + 1, i, none⟩ v).heap[k]? = W.heap[k]? := fun W v i k hk => Below.heap_setCell W ⟨w.heap.size + 1, i, none⟩ v k (by show k ≠ w.heap.size + 1; omega)
            rw [show (k : Int).toNat / 2 = h from HH.out]
            exact OwnL.at2 (HO.out.of (fun k hk _ => (e _ _ _ k hk).trans ((e _ _ _ k hk).trans (e _ _ _ k hk))))
  · rw [Bool.not_eq_true] at hR
    rw [hR] at hok ⊢
    simp only [Bool.false_and] at hok
    subst hok
    clear hR
    go_wp2_with fail
    refine bodyPost_ret (v := .tuple #[.agg #[.int .i64 0, .int .i64 0, .slice none 0 0], .int .i64 80]) ?_ rfl ⟨?_, none, 0, rfl, At.nil⟩
    · simp [results, Try.results29, go_sem, d0, d1, d2]
    · exact ((hBw1.setCell (by simp) _).setCell (by simp) _).setCell (by simp) _
end Go.Proofs.Ytlehjbfhhikpiaa
