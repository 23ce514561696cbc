/-
  Counters joined by each of two closures: the program's.
-/
import Derived.Test.YtlehjbfhhikpiaaCmsK
namespace Go.Proofs.Ytlehjbfhhikpiaa
open Go.RowKit

set_option maxRecDepth 100000 in
set_option maxHeartbeats 1000000 in
theorem lower1_any (R C : Int) (A : Option Addr) (n c bx bh r j k h : Nat) (x y : BitVec 64) (b o : Nat) (hC : C = (k : Int)) (hk : k ≤ 32) (hr : r < 4) (hj : j < 32) (hh : h ≤ 32) (hA : A = some ⟨b, o, none⟩) (w : World)
    (kx : w.heap[bx]? = some (.cells #[.int .i64 R, .int .i64 C, .slice A n c] 24 (0, 0))) (kh : w.heap[bh]? = some (.cells #[.int .i64 (h : Int)] 3 (0, 0)))
    (hn : r * k + j + h < n) (hx : w.cell? ⟨b, o + (r * k + j), none⟩ = some (.int .u64 (U x))) (hy : w.cell? ⟨b, o + (r * k + j + h), none⟩ = some (.int .u64 (U y))) :
    Calls Try.prog 40 #[.int .i64 (r : Int), .int .i64 (j : Int), .pointer (some ⟨bx, 0, none⟩), .pointer (some ⟨bh, 0, none⟩)] w fun e w' =>
      ∃ g, e = .returned (.slice (some ⟨g, 0, none⟩) 2 2) ∧ w'.cell? ⟨g, 0, none⟩ = some (.int .u64 (U x)) ∧ w'.cell? ⟨g, 1, none⟩ = some (.int .u64 (U y)) ∧ Below w.heap.size w w' := by
  subst hC hA
  obtain ⟨d, hd⟩ : ∃ d, r * k = d := ⟨_, rfl⟩
  have hd128 : d ≤ 128 := by rw [← hd]; exact Nat.le_trans (Nat.mul_le_mul (show r ≤ 4 by omega) hk) (by omega)
  have hm : IntKind.i64.wrap ((r : Int) * (k : Int)) = (d : Int) := by
    have e : (r : Int) * (k : Int) = (d : Int) := by rw [← hd]; simp
    rw [e, IntKind.wrap_i64]; omega
  rw [hd] at hn hx hy
  obtain ⟨i, hi⟩ : ∃ i, d + j = i := ⟨_, rfl⟩
  have hi160 : i ≤ 160 := by omega
  have his : (d : Int) + (j : Int) = (i : Int) := by omega
  rw [hi] at hn hx hy
  obtain ⟨t, ht⟩ : ∃ t, i + h = t := ⟨_, rfl⟩
  have hts : (i : Int) + (h : Int) = (t : Int) := by omega
  have hin : i < n := by omega
  have hws : IntKind.i64.wrap ((i : Int) + (h : Int)) = (t : Int) := by rw [hts, IntKind.wrap_i64]; omega
  have hwt : wrap64 ((i : Int) + (h : Int)) = (t : Int) := by rw [hts]; exact w64 _ (by omega)
  rw [ht] at hn hy
  have c1 := cell_at kx 1
  have c2 := cell_at kx 2
  have d0 := cell_at kh 0
  clear hd kx kh hi ht hts
  go_enter Try.func40, Try.ntmps40
  go_wp2_with fail
  refine wp_region_still_tail 12 (by kernel_rfl) (by kernel_rfl) ?_
  simp only [List.take_succ_cons, List.take_zero, List.drop_succ_cons, List.drop_zero]
  repeat still_step
  try refine wpStill_nil ?_
  change wpList _ _ _ _ _ w.drew
  go_wp2
  go_ret
  have hnew : (w.alloc (.cells #[.int .u64 (U x), .int .u64 (U y)] 25)).drew.heap[w.heap.size]? = some (.cells #[.int .u64 (U x), .int .u64 (U y)] 25 (0, 0)) := new_at w _ _ rfl
  exact ⟨w.heap.size, rfl, cell_at hnew 0, cell_at hnew 1, ((Below.refl _ w).alloc (Nat.le_refl _) _).drew⟩

theorem OwnL.at2 {W : World} {base n c : Nat} {A : Option Addr} {l : List (BitVec 64)} (h : OwnL W base (.slice A n c) l) : At W W.heap.size A l := by
  obtain ⟨A', c', e, _, h2⟩ := h.at_
  injection e with e1 _ _
  subst e1
  exact h2

theorem OwnL.mono {W : World} {base base' : Nat} {v : Value} {l : List (BitVec 64)} (hb : base' ≤ base) (h : OwnL W base v l) : OwnL W base' v l := by
  refine ⟨h.1, ?_⟩
  rcases h.2 with h0 | ⟨g, cap, cur, h1, h2, h3⟩
  · exact .inl h0
  · exact .inr ⟨g, cap, cur, h1, Nat.le_trans hb h2, h3⟩

/-- What pairs come to, row by row. -/
def rowTo (pr : Nat → Nat → BitVec 64 × BitVec 64) (r j : Nat) : List (BitVec 64) := (List.range j).map fun i => sat (pr r i).1 (pr r i).2
def joinTo (cols : Nat) (pr : Nat → Nat → BitVec 64 × BitVec 64) (r : Nat) : List (BitVec 64) := (List.range r).flatMap fun i => rowTo pr i cols
theorem rowTo_succ (pr : Nat → Nat → BitVec 64 × BitVec 64) (r j : Nat) : rowTo pr r (j + 1) = rowTo pr r j ++ [sat (pr r j).1 (pr r j).2] := by simp [rowTo, List.range_succ]
theorem joinTo_succ (cols : Nat) (pr : Nat → Nat → BitVec 64 × BitVec 64) (r : Nat) : joinTo cols pr (r + 1) = joinTo cols pr r ++ rowTo pr r cols := by simp [joinTo, List.range_succ]
theorem rowTo_length (pr : Nat → Nat → BitVec 64 × BitVec 64) (r j : Nat) : (rowTo pr r j).length = j := by simp [rowTo]
theorem joinTo_length (cols : Nat) (pr : Nat → Nat → BitVec 64 × BitVec 64) : ∀ r, (joinTo cols pr r).length = r * cols
  | 0 => by simp [joinTo]
  | r + 1 => by rw [joinTo_succ, List.length_append, joinTo_length cols pr r, rowTo_length, Nat.add_mul, Nat.one_mul]

set_option maxRecDepth 100000 in
set_option maxHeartbeats 2000000 in
theorem joinM_any (g b1 b2 R cols : Nat) (hR : R ≤ 4) (hcols : cols ≤ 32) (pr : Nat → Nat → BitVec 64 × BitVec 64) (w : World) (hg : w.cell? ⟨g, 0, none⟩ = some (.int .i64 (R : Int)))
    (hcl : ∀ (W : World) (r j : Nat), Below w.heap.size w W → r < R → j < cols → Calls Try.prog 39 #[.int .i64 (r : Int), .int .i64 (j : Int), .pointer (some ⟨b1, 0, none⟩), .pointer (some ⟨b2, 0, none⟩)] W fun e w' =>
      ∃ g, e = .returned (.slice (some ⟨g, 0, none⟩) 2 2) ∧ w'.cell? ⟨g, 0, none⟩ = some (.int .u64 (U (pr r j).1)) ∧ w'.cell? ⟨g, 1, none⟩ = some (.int .u64 (U (pr r j).2)) ∧ Below W.heap.size W w') :
    Calls Try.prog 38 #[.pointer (some ⟨g, 0, none⟩), .int .i64 (cols : Int), .func (.func 39) #[] #[.pointer (some ⟨b1, 0, none⟩), .pointer (some ⟨b2, 0, none⟩)]] w fun e w' =>
      Below w.heap.size w w' ∧ ∃ A c, e = .returned (.agg #[.int .i64 (R : Int), .int .i64 (cols : Int), .slice A (joinTo cols pr R).length c]) ∧ (joinTo cols pr R).length ≤ c ∧ OwnL w' w.heap.size (.slice A (joinTo cols pr R).length c) (joinTo cols pr R) := by
  have HCl := Lib.hid hcl
  clear hcl
  have hgl := World.block_lt_of_cell? w _ hg
  have hgs := fun o => old_cell hg o
  go_enter Try.func38, Try.ntmps38
  go_wp2_with fail
  go_loopw [7, 15] (fun lv iv wr => ∃ r : Nat, r ≤ R ∧ iv = .int .i64 r ∧ w.heap.size + 1 ≤ wr.heap.size ∧ Below w.heap.size w wr ∧ wr.heap[w.heap.size]? = some (.cells #[.int .i64 0, .int .i64 0, .slice none 0 0] 24 (0, 0)) ∧ ∃ u : Value, lv = u ∧ OwnL wr (w.heap.size + 1) u (joinTo cols pr r)) (fun _ iv _ => R - (intOf iv).toNat)
  case atStart => exact ⟨0, Nat.zero_le _, rfl, by simp, (Below.refl _ w).alloc (Nat.le_refl _) _, new_at _ _ _ rfl, _, rfl, OwnL.nil _ _⟩
  case round =>
    obtain ⟨r, hr, rfl, hz, hB, hres, u, rfl, hown⟩ := hrel
    obtain ⟨wo, rfl⟩ : ∃ wo : World, wo = wr := ⟨_, rfl⟩
    by_cases hrR : r < R
    · go_wp2_with fail
      go_loopw [7, 19] (fun lv iv wr => ∃ j : Nat, j ≤ cols ∧ iv = .int .i64 j ∧ w.heap.size + 1 ≤ wr.heap.size ∧ Below w.heap.size w wr ∧ wr.heap[w.heap.size]? = some (.cells #[.int .i64 0, .int .i64 0, .slice none 0 0] 24 (0, 0)) ∧ ∃ u : Value, lv = u ∧ OwnL wr (w.heap.size + 1) u (joinTo cols pr r ++ rowTo pr r j)) (fun _ iv _ => cols - (intOf iv).toNat)
      case atStart => exact ⟨0, Nat.zero_le _, rfl, hz, hB, hres, _, rfl, by rw [show rowTo pr r 0 = [] from rfl, List.append_nil]; exact hown⟩
      case round =>
        obtain ⟨j, hj, rfl, hz2, hB2, hres2, u2, rfl, hown2⟩ := hrel
        clear hz hB hres hown
        obtain ⟨w2, rfl⟩ : ∃ w2 : World, w2 = wr := ⟨_, rfl⟩
        by_cases hjc : j < cols
        · obtain ⟨L, hL⟩ : ∃ L, joinTo cols pr r ++ rowTo pr r j = L := ⟨_, rfl⟩
          have hlen : L.length ≤ 65535 := by
            rw [← hL, List.length_append, joinTo_length, rowTo_length]
            have := Nat.mul_le_mul (show r ≤ 4 by omega) hcols
            omega
          have hnx : joinTo cols pr r ++ rowTo pr r (j + 1) = L ++ [sat (pr r j).1 (pr r j).2] := by rw [rowTo_succ, ← List.append_assoc, hL]
          rw [hL] at hown2
          have HNX := Lib.hid hnx
          clear hnx hL
          go_wp2_with fail
          refine (HCl.out w2 r j hB2 hrR hjc).mono ?_
          rintro e w3 ⟨g3, rfl, d0, d1, hB3⟩
          go_wp2_with fail
          have hown3 : OwnL w3 (w.heap.size + 1) _ L := hown2.of (fun k _ hk => hB3.block k hk)
          have hsz3 := hB3.size
          have hown4 : OwnL (w3.alloc (.cells #[.int .u64 (U (sat (pr r j).1 (pr r j).2))] 25)) (w.heap.size + 1) _ L := hown3.of (fun k _ hk => Below.heap_alloc _ _ _ hk)
          obtain ⟨v', W, happ, hown5, hB5⟩ := append_one (w3.alloc (.cells #[.int .u64 (U (sat (pr r j).1 (pr r j).2))] 25)) (w.heap.size + 1) _ L (sat (pr r j).1 (pr r j).2) w3.heap.size hown4 (cell_at (new_at w3 _ _ rfl) 0) (by simp; omega) hlen
          have HApp := Lib.hid happ
          have hBW : Below (w.heap.size + 1) w2 W := (hB3.mono hz2).trans (((Below.refl _ w3).alloc (by omega) _).trans hB5)
          have hsW := hBW.size
          clear happ hown2 hown3 hown4 hB5
          refine (plus_any _ _ g3 2 w3 d0 d1).mono ?_
          rintro e w4 ⟨rfl, rfl⟩
          clear d0 d1
          go_wp2_with (at_builtin; refine wpList_append_run rfl (.tmp 22) (.tmp 28) _ rfl rfl rfl HApp.out ?_)
          go_roundw
          case rel => exact ⟨j + 1, by omega, by go_num, by omega, hB2.trans (hBW.mono (by omega)), (hBW.block _ (by omega)).trans hres2, _, rfl, by rw [HNX.out]; exact hown5⟩
          case measure => simp [intOf]; omega
        · obtain rfl : j = cols := by omega
          go_wp2_with fail
          go_roundw
          case rel => exact ⟨r + 1, by omega, by go_num, hz2, hB2, hres2, _, rfl, by rw [joinTo_succ]; exact hown2⟩
          case measure => simp [intOf]; omega
    · obtain rfl : r = R := by omega
      obtain ⟨A, c, rfl, hlc, hAt⟩ := hown.at_
      have hg2 := (hB.cell (p := ⟨g, 0, none⟩) hgl).trans hg
      have d0 := cell_at hres 0
      have d1 := cell_at hres 1
      have d2 := cell_at hres 2
      have f0 := free_at hres 0
      have f1 := free_at hres 1
      have f2 := free_at hres 2
      have HOwn := Lib.hid hown
      clear hAt hown
      go_wp2_with fail
      refine bodyPost_ret (v := .agg #[.int .i64 (r : Int), .int .i64 (cols : Int), .slice A (joinTo cols pr r).length c]) ?_ rfl ⟨((hB.setCell (by simp) _).setCell (by simp) _).setCell (by simp) _, A, c, rfl, hlc, ?_⟩
      · simp [results, Try.results38, go_sem, d0, d1, d2]
      · have e : ∀ (W : World) v i k, w.heap.size + 1 ≤ k → (W.setCell ⟨w.heap.size, i, none⟩ v).heap[k]? = W.heap[k]? := fun W v i k hk => Below.heap_setCell W ⟨w.heap.size, i, none⟩ v k (by show k ≠ w.heap.size; omega)
        exact OwnL.mono (Nat.le_succ _) (HOwn.out.of (fun k hk _ => (e _ _ _ k hk).trans ((e _ _ _ k hk).trans (e _ _ _ k hk))))

set_option maxRecDepth 100000 in
set_option maxHeartbeats 2000000 in
theorem joinL_any (g b1 b2 R cols : Nat) (hR : R ≤ 4) (hcols : cols ≤ 32) (pr : Nat → Nat → BitVec 64 × BitVec 64) (w : World) (hg : w.cell? ⟨g, 0, none⟩ = some (.int .i64 (R : Int)))
    (hcl : ∀ (W : World) (r j : Nat), Below w.heap.size w W → r < R → j < cols → Calls Try.prog 40 #[.int .i64 (r : Int), .int .i64 (j : Int), .pointer (some ⟨b1, 0, none⟩), .pointer (some ⟨b2, 0, none⟩)] W fun e w' =>
      ∃ g, e = .returned (.slice (some ⟨g, 0, none⟩) 2 2) ∧ w'.cell? ⟨g, 0, none⟩ = some (.int .u64 (U (pr r j).1)) ∧ w'.cell? ⟨g, 1, none⟩ = some (.int .u64 (U (pr r j).2)) ∧ Below W.heap.size W w') :
    Calls Try.prog 38 #[.pointer (some ⟨g, 0, none⟩), .int .i64 (cols : Int), .func (.func 40) #[] #[.pointer (some ⟨b1, 0, none⟩), .pointer (some ⟨b2, 0, none⟩)]] w fun e w' =>
      Below w.heap.size w w' ∧ ∃ A c, e = .returned (.agg #[.int .i64 (R : Int), .int .i64 (cols : Int), .slice A (joinTo cols pr R).length c]) ∧ (joinTo cols pr R).length ≤ c ∧ OwnL w' w.heap.size (.slice A (joinTo cols pr R).length c) (joinTo cols pr R) := by
  have HCl := Lib.hid hcl
  clear hcl
  have hgl := World.block_lt_of_cell? w _ hg
  have hgs := fun o => old_cell hg o
  go_enter Try.func38, Try.ntmps38
  go_wp2_with fail
  go_loopw [7, 15] (fun lv iv wr => ∃ r : Nat, r ≤ R ∧ iv = .int .i64 r ∧ w.heap.size + 1 ≤ wr.heap.size ∧ Below w.heap.size w wr ∧ wr.heap[w.heap.size]? = some (.cells #[.int .i64 0, .int .i64 0, .slice none 0 0] 24 (0, 0)) ∧ ∃ u : Value, lv = u ∧ OwnL wr (w.heap.size + 1) u (joinTo cols pr r)) (fun _ iv _ => R - (intOf iv).toNat)
  case atStart => exact ⟨0, Nat.zero_le _, rfl, by simp, (Below.refl _ w).alloc (Nat.le_refl _) _, new_at _ _ _ rfl, _, rfl, OwnL.nil _ _⟩
  case round =>
    obtain ⟨r, hr, rfl, hz, hB, hres, u, rfl, hown⟩ := hrel
    obtain ⟨wo, rfl⟩ : ∃ wo : World, wo = wr := ⟨_, rfl⟩
    by_cases hrR : r < R
    · go_wp2_with fail
      go_loopw [7, 19] (fun lv iv wr => ∃ j : Nat, j ≤ cols ∧ iv = .int .i64 j ∧ w.heap.size + 1 ≤ wr.heap.size ∧ Below w.heap.size w wr ∧ wr.heap[w.heap.size]? = some (.cells #[.int .i64 0, .int .i64 0, .slice none 0 0] 24 (0, 0)) ∧ ∃ u : Value, lv = u ∧ OwnL wr (w.heap.size + 1) u (joinTo cols pr r ++ rowTo pr r j)) (fun _ iv _ => cols - (intOf iv).toNat)
      case atStart => exact ⟨0, Nat.zero_le _, rfl, hz, hB, hres, _, rfl, by rw [show rowTo pr r 0 = [] from rfl, List.append_nil]; exact hown⟩
      case round =>
        obtain ⟨j, hj, rfl, hz2, hB2, hres2, u2, rfl, hown2⟩ := hrel
        clear hz hB hres hown
        obtain ⟨w2, rfl⟩ : ∃ w2 : World, w2 = wr := ⟨_, rfl⟩
        by_cases hjc : j < cols
        · obtain ⟨L, hL⟩ : ∃ L, joinTo cols pr r ++ rowTo pr r j = L := ⟨_, rfl⟩
          have hlen : L.length ≤ 65535 := by
            rw [← hL, List.length_append, joinTo_length, rowTo_length]
            have := Nat.mul_le_mul (show r ≤ 4 by omega) hcols
            omega
          have hnx : joinTo cols pr r ++ rowTo pr r (j + 1) = L ++ [sat (pr r j).1 (pr r j).2] := by rw [rowTo_succ, ← List.append_assoc, hL]
          rw [hL] at hown2
          have HNX := Lib.hid hnx
          clear hnx hL
          go_wp2_with fail
          refine (HCl.out w2 r j hB2 hrR hjc).mono ?_
          rintro e w3 ⟨g3, rfl, d0, d1, hB3⟩
          go_wp2_with fail
          have hown3 : OwnL w3 (w.heap.size + 1) _ L := hown2.of (fun k _ hk => hB3.block k hk)
          have hsz3 := hB3.size
          have hown4 : OwnL (w3.alloc (.cells #[.int .u64 (U (sat (pr r j).1 (pr r j).2))] 25)) (w.heap.size + 1) _ L := hown3.of (fun k _ hk => Below.heap_alloc _ _ _ hk)
          obtain ⟨v', W, happ, hown5, hB5⟩ := append_one (w3.alloc (.cells #[.int .u64 (U (sat (pr r j).1 (pr r j).2))] 25)) (w.heap.size + 1) _ L (sat (pr r j).1 (pr r j).2) w3.heap.size hown4 (cell_at (new_at w3 _ _ rfl) 0) (by simp; omega) hlen
          have HApp := Lib.hid happ
          have hBW : Below (w.heap.size + 1) w2 W := (hB3.mono hz2).trans (((Below.refl _ w3).alloc (by omega) _).trans hB5)
          have hsW := hBW.size
          clear happ hown2 hown3 hown4 hB5
          refine (plus_any _ _ g3 2 w3 d0 d1).mono ?_
          rintro e w4 ⟨rfl, rfl⟩
          clear d0 d1
          go_wp2_with (at_builtin; refine wpList_append_run rfl (.tmp 22) (.tmp 28) _ rfl rfl rfl HApp.out ?_)
          go_roundw
          case rel => exact ⟨j + 1, by omega, by go_num, by omega, hB2.trans (hBW.mono (by omega)), (hBW.block _ (by omega)).trans hres2, _, rfl, by rw [HNX.out]; exact hown5⟩
          case measure => simp [intOf]; omega
        · obtain rfl : j = cols := by omega
          go_wp2_with fail
          go_roundw
          case rel => exact ⟨r + 1, by omega, by go_num, hz2, hB2, hres2, _, rfl, by rw [joinTo_succ]; exact hown2⟩
          case measure => simp [intOf]; omega
    · obtain rfl : r = R := by omega
      obtain ⟨A, c, rfl, hlc, hAt⟩ := hown.at_
      have hg2 := (hB.cell (p := ⟨g, 0, none⟩) hgl).trans hg
      have d0 := cell_at hres 0
      have d1 := cell_at hres 1
      have d2 := cell_at hres 2
      have f0 := free_at hres 0
      have f1 := free_at hres 1
      have f2 := free_at hres 2
      have HOwn := Lib.hid hown
      clear hAt hown
      go_wp2_with fail
      refine bodyPost_ret (v := .agg #[.int .i64 (r : Int), .int .i64 (cols : Int), .slice A (joinTo cols pr r).length c]) ?_ rfl ⟨((hB.setCell (by simp) _).setCell (by simp) _).setCell (by simp) _, A, c, rfl, hlc, ?_⟩
      · simp [results, Try.results38, go_sem, d0, d1, d2]
      · have e : ∀ (W : World) v i k, w.heap.size + 1 ≤ k → (W.setCell ⟨w.heap.size, i, none⟩ v).heap[k]? = W.heap[k]? := fun W v i k hk => Below.heap_setCell W ⟨w.heap.size, i, none⟩ v k (by show k ≠ w.heap.size; omega)
        exact OwnL.mono (Nat.le_succ _) (HOwn.out.of (fun k hk _ => (e _ _ _ k hk).trans ((e _ _ _ k hk).trans (e _ _ _ k hk))))

end Go.Proofs.Ytlehjbfhhikpiaa
