/-
  What is merged: the reference's.
-/
import Derived.Test.YtlehjbfhhikpiaaCmsO
namespace Go.Proofs.Ytlehjbfhhikpiaa
open Go.RowKit
attribute [local go_sem] calmOp calmUpon effOp effUpon

theorem join_flat (k : Nat) (pr : Nat → Nat → BitVec 64 × BitVec 64) (f : Nat → BitVec 64) (h : ∀ i j, j < k → sat (pr i j).1 (pr i j).2 = f (i * k + j)) : ∀ r, joinTo k pr r = (List.range (r * k)).map f
  | 0 => by simp [joinTo]
  | r + 1 => by
    rw [joinTo_succ, join_flat k pr f h r, Nat.add_mul, Nat.one_mul, List.range_add, List.map_append, List.map_map]
    congr 1
    unfold rowTo
    apply List.map_congr_left
    intro j hj
    exact h r j (List.mem_range.1 hj)
def zipTo (l l' : List (BitVec 64)) (n : Nat) : List (BitVec 64) := (List.range n).map fun i => sat (nth l i) (nth l' i)
theorem zipTo_succ (l l' : List (BitVec 64)) (n : Nat) : zipTo l l' (n + 1) = zipTo l l' n ++ [sat (nth l n) (nth l' n)] := by simp [zipTo, List.range_succ]
theorem zipTo_length (l l' : List (BitVec 64)) (n : Nat) : (zipTo l l' n).length = n := by simp [zipTo]
theorem merge_flat (k r : Nat) (l l' : List (BitVec 64)) : joinTo k (pairAt k l l') r = zipTo l l' (r * k) := join_flat k _ (fun i => sat (nth l i) (nth l' i)) (fun _ _ _ => rfl) r

theorem effOp_append_run {n : Nat} {P : Program} {w : World} {o : Oper} {a : Act} (s x : Operand) (t : TypeId)
    (ho : o.op = .call { callee := .builtin .append, args := #[s, x], argTypes := #[t, t] }) {u1 u2 r : Value} {W : World} (hs : a.eval s = u1) (hx : a.eval x = u2)
    (hrun : (Builtin.append_ #[t, t] o.type #[u1, u2]).run P w = .ok r W) {K : Value → World → Prop} (h : K r W) : effOp Fence.wide n P o a w K := by
  refine ⟨fun _ _ => trivial, ?_⟩
  unfold execOp
  simp only [ho, resolve, invoke, builtin, Sem.run_bind, Sem.run_pure, Result.andThen_ok, List.map_toArray, List.map_cons, List.map_nil, hs, hx, hrun]
  exact h

set_option maxRecDepth 100000 in
set_option maxHeartbeats 4000000 in
theorem refMerge_gives (R C : Int) (A : Option Addr) (c : Nat) (l : List (BitVec 64)) (R' C' : Int) (A' : Option Addr) (c' : Nat) (l' : List (BitVec 64)) (w : World) (hA : At w w.heap.size A l) (hA' : At w w.heap.size A' l') :
    Calls Try.prog 28 #[.agg #[.int .i64 R, .int .i64 C, .slice A l.length c], .agg #[.int .i64 R', .int .i64 C', .slice A' l'.length c']] w (Gives (mergeR R C l R' C' l') w) := by
  unfold mergeR
  obtain ⟨ok, hok⟩ : ∃ ok, mergeOk R C l R' C' l' = ok := ⟨_, rfl⟩
  rw [hok]
  unfold mergeOk at hok
  go_enter Try.func28, Try.ntmps28
  go_wp2_with fail
  refine (refRight_any R C A l.length c _).mono ?_
  rintro e w1 ⟨rfl, hB1⟩
  obtain ⟨kx, ky, kr, hBw1, hs1⟩ := trio hB1
  have d0 := cell_at kr 0
  have d1 := cell_at kr 1
  have d2 := cell_at kr 2
  have f0 := free_at kr 0
  have f1 := free_at kr 1
  have f2 := free_at kr 2
  clear hB1
  by_cases hR : isRight R C l.length = true
  · have hRR := hR
    rw [hR] at hok ⊢
    obtain ⟨r, k, rfl, rfl, hr, hr4, hk, hn⟩ := isRight_out hR
    have x0 := cell_at kx 0
    have x1 := cell_at kx 1
    have y0 := cell_at ky 0
    have y1 := cell_at ky 1
    have y2 := cell_at ky 2
    have hlt0 : 0 < l.length := by rw [hn]; exact Nat.mul_pos (by omega) (by omega)
    have hle : l.length ≤ 128 := by rw [hn]; rcases hk with rfl | rfl | rfl | rfl <;> omega
    have HN := Lib.hid hn
    clear hR hRR hn hk
    have hry := refRight_any R' C' A' l'.length c'
    by_cases hY : isRight R' C' l'.length = true
    · rw [hY] at hok hry
      have HRY := Lib.hid hry
      have HY := Lib.hid hY
      clear hry hY
      by_cases hRe : (r : Int) = R'
      · subst hRe
        by_cases hCe : (k : Int) = C'
        · subst hCe
          simp only [Bool.and_self, beq_self_eq_true] at hok
          subst hok
          go_wp2_with fail
          refine (HRY.out _).mono ?_
          rintro e w2 ⟨rfl, hB2⟩
          have kx2 := (hB2.block _ (by omega)).trans kx
          have ky2 := (hB2.block _ (by omega)).trans ky
          have kr2 := (hB2.block _ (by omega)).trans kr
          have hBw2 := hBw1.trans (hB2.mono (by omega))
          have hs2 := hB2.size
          clear x0 x1 y0 y1 y2 d0 d1 d2 f0 f1 f2 kx ky kr
          have x0 := cell_at kx2 0
          have x1 := cell_at kx2 1
          have y0 := cell_at ky2 0
          have y1 := cell_at ky2 1
          have d0 := cell_at kr2 0
          have d1 := cell_at kr2 1
          have d2 := cell_at kr2 2
          have f0 := free_at kr2 0
          have f1 := free_at kr2 1
          have f2 := free_at kr2 2
          have hn := HN.out
          have hn' : l'.length = l.length := by
            have h := HY.out
            unfold isRight at h
            simp only [Bool.and_eq_true, beq_iff_eq] at h
            have e : ((r * k : Nat) : Int) = (r : Int) * (k : Int) := by simp
            omega
          obtain ⟨b, o, rfl, hb, hc⟩ := hA hlt0
          obtain ⟨b', o', rfl, hb', hc'⟩ := hA' (by omega)
          have hflat := merge_flat k r l l'
          rw [← hn] at hflat
          have HFl := Lib.hid hflat
          have hlt2 : l.length ≤ l'.length := by omega
          have HC := Lib.hid hc
          have HC' := Lib.hid hc'
          clear hn hn' hflat hc hc' d0 d1 d2 f0 f1 f2
          go_wp2_with fail
          clear x0 x1 y0 y1
          go_loopw [6, 7] (fun lv iv wr => ∃ j : Nat, j ≤ l.length ∧ iv = .int .i64 j ∧ w.heap.size + 3 ≤ wr.heap.size ∧ Below (w.heap.size + 3) w2 wr ∧ ∃ u : Value, lv = u ∧ OwnL wr (w.heap.size + 3) u (zipTo l l' j)) (fun _ iv _ => l.length - (intOf iv).toNat)
          case atStart => exact ⟨0, Nat.zero_le _, rfl, by omega, Below.refl _ _, _, rfl, OwnL.nil _ _⟩
          case round =>
            obtain ⟨j, hj, rfl, hz, hB, u, rfl, hown⟩ := hrel
            obtain ⟨wo, rfl⟩ : ∃ wo : World, wo = wr := ⟨_, rfl⟩
            have jx := (hB.block w.heap.size (by omega)).trans kx2
            have jy := (hB.block (w.heap.size + 1) (by omega)).trans ky2
            have jr := (hB.block (w.heap.size + 1 + 1) (by omega)).trans kr2
            have cx2 := cell_at jx 2
            have cy2 := cell_at jy 2
            by_cases hjn : j < l.length
            · have hBall := hBw2.trans (hB.mono (by omega))
              have ci := (hBall.cell (p := ⟨b, o + j, none⟩) hb).trans (HC.out j hjn)
              have ci' := (hBall.cell (p := ⟨b', o' + j, none⟩) hb').trans (HC'.out j (by omega))
              have l0 : ∀ s : Later (w.heap.size + 3) wo, s.W.cell? ⟨w.heap.size, 2, none⟩ = some _ := fun s => s.cell cx2 (by show w.heap.size < _; omega)
              have l1 : ∀ s : Later (w.heap.size + 3) wo, s.W.cell? ⟨w.heap.size + 1, 2, none⟩ = some _ := fun s => s.cell cy2 (by show w.heap.size + 1 < _; omega)
              have l2 : ∀ s : Later (w.heap.size + 3) wo, s.W.cell? ⟨b, o + j, none⟩ = some _ := fun s => s.cell ci (by show b < _; omega)
              have l3 : ∀ s : Later (w.heap.size + 3) wo, s.W.cell? ⟨b', o' + j, none⟩ = some _ := fun s => s.cell ci' (by show b' < _; omega)
              have hjn' : j < l'.length := by omega
              go_wp2_with fail
              refine region_mix_plain (C := fun W' => ∃ s : Later (w.heap.size + 3) wo, W' = s.W) 14 (List.replicate 11 false ++ [true, true, true]) (by kernel_rfl) (by kernel_rfl) (by kernel_rfl) (by kernel_rfl) ⟨⟨wo.drew, (Below.refl _ wo).drew⟩, rfl⟩ ?_
              simp only [List.take_succ_cons, List.take_zero, List.drop_succ_cons, List.drop_zero, List.replicate_succ, List.replicate_zero, List.nil_append, List.cons_append]
              repeat (refine wpM_calm (fun K hK => ?_); go_simp; refine hK _ ?_; clear hK K)
              refine wpM_eff rfl (fun K hK => ?_)
              go_simp
              refine ⟨trivial, (callsIn_wide.2 (refPlus_any (nth l j) (nth l' j) _)).mono ?_⟩
              rintro e w3 ⟨rfl, rfl⟩
              refine ⟨_, rfl, hK _ _ ⟨⟨wo.drew, (Below.refl _ wo).drew⟩, rfl⟩ ?_⟩
              clear hK K
              refine wpM_eff rfl (fun K hK => ?_)
              go_simp
              have hBa : Below (w.heap.size + 3) wo (wo.alloc (.cells #[.int .u64 (U (sat (nth l j) (nth l' j)))] 25)).drew := ((Below.refl _ wo).alloc hz _).drew
              have hown4 : OwnL (wo.alloc (.cells #[.int .u64 (U (sat (nth l j) (nth l' j)))] 25)).drew (w.heap.size + 3) _ (zipTo l l' j) := hown.of (fun k _ hk => Below.heap_alloc _ _ _ hk)
              obtain ⟨v', W, happ, hown5, hB5⟩ := append_one (wo.alloc (.cells #[.int .u64 (U (sat (nth l j) (nth l' j)))] 25)).drew (w.heap.size + 3) _ (zipTo l l' j) (sat (nth l j) (nth l' j)) wo.heap.size hown4 (cell_at (w := (wo.alloc (.cells #[.int .u64 (U (sat (nth l j) (nth l' j)))] 25)).drew) (new_at wo _ _ rfl) 0) (by simp; omega) (by rw [zipTo_length]; omega)
              refine hK _ _ ⟨⟨_, hBa⟩, rfl⟩ ?_
              clear hK K
              refine wpM_eff rfl (fun K hK => ?_)
              refine effOp_append_run (.tmp 38) (.tmp 50) _ rfl rfl rfl happ ?_
              refine hK _ _ ⟨⟨_, hBa.trans hB5⟩, rfl⟩ ?_
              clear hK K
              refine wpM_nil ?_
              rw [← zipTo_succ] at hown5
              have HO := Lib.hid hown5
              have HB := Lib.hid (hB.trans (hBa.trans hB5))
              have hsW := HB.out.size
              clear happ hown hown4 hown5 hBa hB5 l0 l1 l2 l3 hB jx jy jr cx2 cy2 ci ci' hBall
              gi_wp2
              go_wp2_with fail
              go_roundw
              case rel => exact ⟨j + 1, by omega, by go_num, by omega, HB.out, _, rfl, HO.out⟩
              case measure => simp [intOf]; omega
            · obtain rfl : j = l.length := by omega
              obtain ⟨A5, c5, rfl, hlc5, -⟩ := hown.at_
              have HO := Lib.hid hown
              have cx0 := cell_at jx 0
              have cx1 := cell_at jx 1
              have d0 := cell_at jr 0
              have d1 := cell_at jr 1
              have d2 := cell_at jr 2
              have f0 := free_at jr 0
              have f1 := free_at jr 1
              have f2 := free_at jr 2
              clear hown
              go_wp2_with fail
              refine bodyPost_ret (v := .tuple #[.agg #[.int .i64 (r : Int), .int .i64 (k : Int), .slice A5 (zipTo l l' l.length).length c5], .int .i64 0]) ?_ rfl ⟨?_, A5, c5, ?_, ?_⟩
              · simp [results, Try.results28, go_sem, d0, d1, d2]
              · exact (((hBw2.trans (hB.mono (by omega))).setCell (by simp; omega) _).setCell (by simp; omega) _).setCell (by simp; omega) _
              · rw [← HFl.out]; rfl
              · have e : ∀ (W : World) v i k, w.heap.size + 3 ≤ k → (W.setCell ⟨w.heap.size + 1 + 1, i, none⟩ v).heap[k]? = W.heap[k]? := fun W v i k hk => Below.heap_setCell W ⟨w.heap.size + 1 + 1, i, none⟩ v k (by show k ≠ w.heap.size + 1 + 1; omega)
                show At _ _ A5 (joinTo k (pairAt k l l') r)
                rw [HFl.out]
                exact OwnL.at2 (HO.out.of (fun k hk _ => (e _ _ _ k hk).trans ((e _ _ _ k hk).trans (e _ _ _ k hk))))
        · have hne : ((k : Int) == C') = false := by rw [beq_eq_false_iff_ne]; exact hCe
          have hne2 : ((k : Int) != C') = true := by rw [bne_iff_ne]; exact hCe
          simp only [hne, Bool.and_false] at hok
          subst hok
          clear hne hCe
          go_wp2_with fail
          refine (HRY.out _).mono ?_
          rintro e w2 ⟨rfl, hB2⟩
          have kx2 := (hB2.block _ (by omega)).trans kx
          have ky2 := (hB2.block _ (by omega)).trans ky
          have kr2 := (hB2.block _ (by omega)).trans kr
          have hBw2 := hBw1.trans (hB2.mono (by omega))
          have hs2 := hB2.size
          clear x0 x1 y0 y1 y2 d0 d1 d2 f0 f1 f2 kx ky kr
          have x0 := cell_at kx2 0
          have x1 := cell_at kx2 1
          have y0 := cell_at ky2 0
          have y1 := cell_at ky2 1
          have d0 := cell_at kr2 0
          have d1 := cell_at kr2 1
          have d2 := cell_at kr2 2
          have f0 := free_at kr2 0
          have f1 := free_at kr2 1
          have f2 := free_at kr2 2
          go_wp2_with fail
          refine bodyPost_ret (v := .tuple #[.agg #[.int .i64 0, .int .i64 0, .slice none 0 0], .int .i64 80]) ?_ rfl ⟨?_, none, 0, rfl, At.nil⟩
          · simp [results, Try.results28, go_sem, d0, d1, d2]
          · exact ((hBw2.setCell (by simp; omega) _).setCell (by simp; omega) _).setCell (by simp; omega) _
      · have hne : ((r : Int) == R') = false := by rw [beq_eq_false_iff_ne]; exact hRe
        have hne2 : ((r : Int) != R') = true := by rw [bne_iff_ne]; exact hRe
        simp only [hne, Bool.and_false, Bool.false_and] at hok
        subst hok
        clear hne hRe
        go_wp2_with fail
        refine (HRY.out _).mono ?_
        rintro e w2 ⟨rfl, hB2⟩
        have kx2 := (hB2.block _ (by omega)).trans kx
        have ky2 := (hB2.block _ (by omega)).trans ky
        have kr2 := (hB2.block _ (by omega)).trans kr
        have hBw2 := hBw1.trans (hB2.mono (by omega))
        have hs2 := hB2.size
        clear x0 x1 y0 y1 y2 d0 d1 d2 f0 f1 f2 kx ky kr
        have x0 := cell_at kx2 0
        have x1 := cell_at kx2 1
        have y0 := cell_at ky2 0
        have y1 := cell_at ky2 1
        have d0 := cell_at kr2 0
        have d1 := cell_at kr2 1
        have d2 := cell_at kr2 2
        have f0 := free_at kr2 0
        have f1 := free_at kr2 1
        have f2 := free_at kr2 2
        go_wp2_with fail
        refine bodyPost_ret (v := .tuple #[.agg #[.int .i64 0, .int .i64 0, .slice none 0 0], .int .i64 80]) ?_ rfl ⟨?_, none, 0, rfl, At.nil⟩
        · simp [results, Try.results28, go_sem, d0, d1, d2]
        · exact ((hBw2.setCell (by simp; omega) _).setCell (by simp; omega) _).setCell (by simp; omega) _
    · rw [Bool.not_eq_true] at hY
      rw [hY] at hok hry
      simp only [Bool.and_false, Bool.false_and] at hok
      subst hok
      have HRY := Lib.hid hry
      clear hry hY
      go_wp2_with fail
      refine (HRY.out _).mono ?_
      rintro e w2 ⟨rfl, hB2⟩
      have kx2 := (hB2.block _ (by omega)).trans kx
      have ky2 := (hB2.block _ (by omega)).trans ky
      have kr2 := (hB2.block _ (by omega)).trans kr
      have hBw2 := hBw1.trans (hB2.mono (by omega))
      have hs2 := hB2.size
      clear x0 x1 y0 y1 y2 d0 d1 d2 f0 f1 f2 kx ky kr
      have x0 := cell_at kx2 0
      have x1 := cell_at kx2 1
      have y0 := cell_at ky2 0
      have y1 := cell_at ky2 1
      have d0 := cell_at kr2 0
      have d1 := cell_at kr2 1
      have d2 := cell_at kr2 2
      have f0 := free_at kr2 0
      have f1 := free_at kr2 1
      have f2 := free_at kr2 2
      go_wp2_with fail
      refine bodyPost_ret (v := .tuple #[.agg #[.int .i64 0, .int .i64 0, .slice none 0 0], .int .i64 80]) ?_ rfl ⟨?_, none, 0, rfl, At.nil⟩
      · simp [results, Try.results28, go_sem, d0, d1, d2]
      · exact ((hBw2.setCell (by simp; omega) _).setCell (by simp; omega) _).setCell (by simp; omega) _
  · rw [Bool.not_eq_true] at hR
    rw [hR] at hok ⊢
    simp only [Bool.false_and] at hok
    subst hok
    clear hR
    go_wp2_with fail
    refine bodyPost_ret (v := .tuple #[.agg #[.int .i64 0, .int .i64 0, .slice none 0 0], .int .i64 80]) ?_ rfl ⟨?_, none, 0, rfl, At.nil⟩
    · simp [results, Try.results28, go_sem, d0, d1, d2]
    · exact ((hBw1.setCell (by simp; omega) _).setCell (by simp; omega) _).setCell (by simp; omega) _
end Go.Proofs.Ytlehjbfhhikpiaa
