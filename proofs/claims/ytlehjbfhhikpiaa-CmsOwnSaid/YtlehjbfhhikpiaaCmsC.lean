/-
  Counters that are made, copied, compared: the program's and the reference's.
-/
import Derived.Test.YtlehjbfhhikpiaaCmsB
import Derived.Test.YtlehjbfhhikpiaaRow
import Derived.Deep.RegionHeld3
import Derived.StillTailTactics
namespace Go.Proofs.Ytlehjbfhhikpiaa
open Go.RowKit

/-- The same with the whole block, and that nothing of it is frozen. -/
theorem box3f {w w1 : World} {a b c : Value} {T : TypeId} (hB : Below (w.alloc (.cells #[a, b, c] T)).heap.size (w.alloc (.cells #[a, b, c] T)) w1) :
    w1.cell? ⟨w.heap.size, 0, none⟩ = some a ∧ w1.cell? ⟨w.heap.size, 1, none⟩ = some b ∧ w1.cell? ⟨w.heap.size, 2, none⟩ = some c ∧
      w1.frozen? ⟨w.heap.size, 0, none⟩ = false ∧ w1.frozen? ⟨w.heap.size, 1, none⟩ = false ∧ w1.frozen? ⟨w.heap.size, 2, none⟩ = false ∧ Below w.heap.size w w1 := by
  obtain ⟨h0, h1, h2, h3⟩ := box3 hB
  have h : w1.heap[w.heap.size]? = some (.cells #[a, b, c] T (0, 0)) := (hB.block w.heap.size (by simp)).trans (new_at w _ _ rfl)
  refine ⟨h0, h1, h2, ?_, ?_, ?_, h3⟩ <;> simp [World.frozen?, h]
theorem cell_at {w : World} {b : Nat} {cs : Array Value} {T : TypeId} {fr : Nat × Nat} (h : w.heap[b]? = some (.cells cs T fr)) (i : Nat) : w.cell? ⟨b, i, none⟩ = cs[i]? := by simp [World.cell?, h]
theorem free_at {w : World} {b : Nat} {cs : Array Value} {T : TypeId} (h : w.heap[b]? = some (.cells cs T (0, 0))) (i : Nat) : w.frozen? ⟨b, i, none⟩ = false := by simp [World.frozen?, h]
theorem u64_info : (Try.prog.info? 25).map (fun i => (i.zero, i.size, i.bytes)) = some (some (.int .u64 0), 1, 8) := by kernel_rfl
theorem make_u64 (n : Nat) (hn : n ≤ 65536) (w : World) : (Instr.makeSlice 22 (.int .i64 (n : Int)) (.int .i64 (n : Int))).run Try.prog w = .ok (.slice (some ⟨w.heap.size, 0, none⟩) n n) (w.alloc (.cells ((List.replicate n (0#64)).map enc64).toArray 25)) := by
  obtain ⟨i0, hi, hz0, hz1, hz2⟩ := info_parts u64_info
  have h := run_make (P := Try.prog) w 22 25 i0 (.int .u64 0) Try.underlying22 hi hz0 .i64 .i64 n n (by omega) (by omega) (by rw [hz2]; omega) (by omega)
  rw [hz1, Int.toNat_natCast, zeros_eq] at h
  exact h

set_option maxRecDepth 100000 in
theorem New_any (R C : Int) (w : World) : Calls Try.prog 12 #[.int .i64 R, .int .i64 C] w fun e w' => Below w.heap.size w w' ∧
    ((isSz R C = false ∧ e = .returned (.tuple #[.agg #[.int .i64 0, .int .i64 0, .slice none 0 0], .int .i64 80])) ∨
     (isSz R C = true ∧ ∃ (n g : Nat), (n : Int) = R * C ∧ w.heap.size ≤ g ∧ e = .returned (.tuple #[.agg #[.int .i64 R, .int .i64 C, .slice (some ⟨g, 0, none⟩) n n], .int .i64 0]) ∧ Row w' g 25 (List.replicate n 0))) := by
  have hi := isSize_any R C
  by_cases hz : isSz R C = true
  · obtain ⟨r, k, rfl, rfl, h1, h2, h3, h4⟩ := isRight_out (n := (R * C).toNat) (show isRight R C (R * C).toNat = true by
      unfold isRight
      obtain ⟨h1, h2, h3⟩ := isSz_out hz
      rw [hz]
      have : 0 ≤ R * C := by rcases h3 with rfl | rfl | rfl | rfl <;> omega
      simp
      omega)
    obtain ⟨n, hn⟩ : ∃ n, r * k = n := ⟨_, rfl⟩
    have hn2 : n ≤ 128 := by rcases h3 with rfl | rfl | rfl | rfl <;> omega
    have hm : IntKind.i64.wrap ((r : Int) * (k : Int)) = (n : Int) := by
      have e : (r : Int) * (k : Int) = (n : Int) := by rw [← hn]; simp
      rw [e, IntKind.wrap_i64]; omega
    have HN := Lib.hid (show (n : Int) = (r : Int) * (k : Int) by rw [← hn]; simp)
    rw [hz] at hi
    have HI := Lib.hid hi
    have HZ := Lib.hid hz
    have hmk := fun w => make_u64 n (by omega) w
    clear hi hz hn h3 h4
    go_enter Try.func12, Try.ntmps12
    go_wp2_with (go_at_call 30; refine (HI.out _).mono ?_; rintro e w1 ⟨rfl, rfl⟩)
    refine bodyPost_ret (v := .tuple #[.agg #[.int .i64 r, .int .i64 k, .slice (some ⟨w.heap.size + 1, 0, none⟩) n n], .int .i64 0]) ?_ rfl ⟨?_, .inr ⟨HZ.out, n, w.heap.size + 1, HN.out, Nat.le_succ _, rfl, ?_⟩⟩
    · simp [results, Try.results12, go_sem]
    · exact ((Below.refl _ w).alloc (Nat.le_refl _) _).alloc (by simp) _
    · have e : (Array.replicate n (enc64 0#64)) = ((List.replicate n (0#64)).map enc64).toArray := by simp
      rw [e]
      exact new_at _ _ _ (by simp)
  · rw [Bool.not_eq_true] at hz
    rw [hz] at hi
    have HI := Lib.hid hi
    have HZ := Lib.hid hz
    clear hi hz
    go_enter Try.func12, Try.ntmps12
    go_wp2_with (first | (go_at_call 30; refine (HI.out _).mono ?_; rintro e w1 ⟨rfl, rfl⟩) | (go_at_call 31; refine (told_wrong _).mono ?_; rintro e w2 ⟨rfl, hB2⟩; obtain ⟨k0, k1, k2, f0, f1, f2, hB⟩ := box3f hB2))
    refine bodyPost_ret (v := .tuple #[.agg #[.int .i64 0, .int .i64 0, .slice none 0 0], .int .i64 80]) ?_ rfl ⟨?_, .inl ⟨HZ.out, rfl⟩⟩
    · simp [results, Try.results12, go_sem, k0, k1, k2]
    · exact ((hB.setCell (by simp) _).setCell (by simp) _).setCell (by simp) _
set_option maxRecDepth 100000 in
theorem refNew_any (R C : Int) (w : World) : Calls Try.prog 13 #[.int .i64 R, .int .i64 C] w fun e w' => Below w.heap.size w w' ∧
    ((isSz R C = false ∧ e = .returned (.tuple #[.agg #[.int .i64 0, .int .i64 0, .slice none 0 0], .int .i64 80])) ∨
     (isSz R C = true ∧ ∃ (n g : Nat), (n : Int) = R * C ∧ w.heap.size ≤ g ∧ e = .returned (.tuple #[.agg #[.int .i64 R, .int .i64 C, .slice (some ⟨g, 0, none⟩) n n], .int .i64 0]) ∧ Row w' g 25 (List.replicate n 0))) := by
  have hi := refIs_any R C
  by_cases hz : isSz R C = true
  · obtain ⟨r, k, rfl, rfl, h1, h2, h3, h4⟩ := isRight_out (n := (R * C).toNat) (show isRight R C (R * C).toNat = true by
      unfold isRight
      obtain ⟨h1, h2, h3⟩ := isSz_out hz
      rw [hz]
      have : 0 ≤ R * C := by rcases h3 with rfl | rfl | rfl | rfl <;> omega
      simp
      omega)
    obtain ⟨n, hn⟩ : ∃ n, r * k = n := ⟨_, rfl⟩
    have hn2 : n ≤ 128 := by rcases h3 with rfl | rfl | rfl | rfl <;> omega
    have hm : IntKind.i64.wrap ((r : Int) * (k : Int)) = (n : Int) := by
      have e : (r : Int) * (k : Int) = (n : Int) := by rw [← hn]; simp
      rw [e, IntKind.wrap_i64]; omega
    have HN := Lib.hid (show (n : Int) = (r : Int) * (k : Int) by rw [← hn]; simp)
    rw [hz] at hi
    have HI := Lib.hid hi
    have HZ := Lib.hid hz
    have hmk := fun w => make_u64 n (by omega) w
    clear hi hz hn h3 h4
    go_enter Try.func13, Try.ntmps13
    go_wp2_with (go_at_call 32; refine (HI.out _).mono ?_; rintro e w1 ⟨rfl, rfl⟩)
    refine bodyPost_ret (v := .tuple #[.agg #[.int .i64 r, .int .i64 k, .slice (some ⟨w.heap.size + 1, 0, none⟩) n n], .int .i64 0]) ?_ rfl ⟨?_, .inr ⟨HZ.out, n, w.heap.size + 1, HN.out, Nat.le_succ _, rfl, ?_⟩⟩
    · simp [results, Try.results13, go_sem]
    · exact ((Below.refl _ w).alloc (Nat.le_refl _) _).alloc (by simp) _
    · have e : (Array.replicate n (enc64 0#64)) = ((List.replicate n (0#64)).map enc64).toArray := by simp
      rw [e]
      exact new_at _ _ _ (by simp)
  · rw [Bool.not_eq_true] at hz
    rw [hz] at hi
    have HI := Lib.hid hi
    have HZ := Lib.hid hz
    clear hi hz
    go_enter Try.func13, Try.ntmps13
    go_wp2_with (first | (go_at_call 32; refine (HI.out _).mono ?_; rintro e w1 ⟨rfl, rfl⟩))
    refine bodyPost_ret (v := .tuple #[.agg #[.int .i64 0, .int .i64 0, .slice none 0 0], .int .i64 80]) ?_ rfl ⟨?_, .inl ⟨HZ.out, rfl⟩⟩
    · simp [results, Try.results13, go_sem]
    · exact ((Below.refl _ w).alloc (Nat.le_refl _) _)

set_option maxRecDepth 100000 in
theorem refPlus_any (x y : BitVec 64) (w : World) : Calls Try.prog 25 #[.int .u64 (U x), .int .u64 (U y)] w fun e w' => e = .returned (.int .u64 (U (sat x y))) ∧ w' = w := by
  have hx := U_nonneg x
  have hy := U_nonneg y
  have hyl := U_lt y
  have hw : IntKind.u64.wrap (18446744073709551615 - U y) = 18446744073709551615 - U y := by rw [IntKind.wrap_u64]; omega
  by_cases h : x.toNat + y.toNat < 18446744073709551616
  · have hd : decide (18446744073709551615 - U y < U x) = false := by
      rw [decide_eq_false_iff_not]; unfold U; omega
    have HS := Lib.hid (show sat x y = x + y by rw [sat, if_pos h])
    clear h
    go_enter Try.func25, Try.ntmps25
    go_wp2
    go_ret
    exact ⟨by rw [HS.out]; rfl, rfl⟩
  · have hd : decide (18446744073709551615 - U y < U x) = true := by
      rw [decide_eq_true_iff]; unfold U; omega
    have HS := Lib.hid (show sat x y = 18446744073709551615#64 by rw [sat, if_neg h])
    clear h
    go_enter Try.func25, Try.ntmps25
    go_wp2
    go_ret
    exact ⟨by rw [HS.out]; rfl, rfl⟩

set_option maxRecDepth 100000 in
theorem few_any (R C : Int) (A : Option Addr) (n c : Nat) (hnc : n ≤ c) (w : World) : Calls Try.prog 11 #[.agg #[.int .i64 R, .int .i64 C, .slice A n c]] w fun e w' =>
    e = .returned (.agg #[.int .i64 R, .int .i64 C, .slice A (min n 200) c]) ∧ Below w.heap.size w w' := by
  have few : ∀ m : Nat, min n 200 = m → m ≤ c → Calls Try.prog 11 #[.agg #[.int .i64 R, .int .i64 C, .slice A n c]] w fun e w' => e = .returned (.agg #[.int .i64 R, .int .i64 C, .slice A m c]) ∧ Below w.heap.size w w' := by
    intro m hm hmc
    have hmi : (if 200 < (n : Int) then (200 : Int) else (n : Int)) = (m : Int) := by split <;> omega
    have HM := Lib.hid hm
    clear hm
    go_enter Try.func11, Try.ntmps11
    go_wp2_with fail
    refine abs_code (fun u => Below w.heap.size w u ∧ u.heap[w.heap.size]? = some (.cells #[.int .i64 R, .int .i64 C, .slice A n c] 24) ∧ u.heap[w.heap.size + 1]? = some (.cells #[.int .i64 0, .int .i64 0, .slice none 0 0] 24)) ⟨((Below.refl _ w).alloc (Nat.le_refl _) _).alloc (by simp) _, old_at (new_at _ _ _ rfl), new_at _ _ _ (by simp)⟩ ?_
    rintro W ⟨hB, h0, h1⟩
    have c0 := cell_at h0 0
    have c1 := cell_at h0 1
    have c2 := cell_at h0 2
    have d0 := cell_at h1 0
    have d1 := cell_at h1 1
    have d2 := cell_at h1 2
    have f0 := free_at h1 0
    have f1 := free_at h1 1
    have f2 := free_at h1 2
    clear h0
    refine wp_region_still_tail 12 (by kernel_rfl) (by kernel_rfl) ?_
    simp only [List.take_succ_cons, List.take_zero, List.drop_succ_cons, List.drop_zero]
    repeat still_step
    try refine wpStill_nil ?_
    change wpList _ _ _ _ _ W.drew
    go_wp2
    refine bodyPost_ret (v := .agg #[.int .i64 R, .int .i64 C, .slice A m c]) ?_ rfl ⟨rfl, ?_⟩
    · simp [results, Try.results11, go_sem, d0, d1, d2]
    · exact (((hB.setCell (by simp) _).setCell (by simp) _).setCell (by simp) _).drew
  exact few _ rfl (by omega)

set_option maxRecDepth 100000 in
set_option maxHeartbeats 1000000 in
theorem numbers_any (A A' : Option Addr) (c c' : Nat) (l m : List (BitVec 64)) (hl : l.length ≤ 65536) (w : World) (hA : At w w.heap.size A l) (hA' : At w w.heap.size A' m) :
    Calls Try.prog 36 #[.slice A l.length c, .slice A' m.length c'] w fun e w' => e = .returned (.bool (decide (l = m))) ∧ Below w.heap.size w w' := by
  by_cases hlen : l.length = m.length
  · have hd : ((l.length : Int) != (m.length : Int)) = false := by rw [bne_eq_false_iff_eq]; omega
    have hml : m.length = l.length := hlen.symm
    obtain ⟨N, hN⟩ : ∃ N, l.length = N := ⟨_, rfl⟩
    rw [hml, hN] at hd ⊢
    have HN := Lib.hid hN
    have HM := Lib.hid (hml.trans hN)
    have hN2 : N ≤ 65536 := by omega
    clear hN hml hlen hl
    go_enter Try.func36, Try.ntmps36
    go_wp2_with fail
    go_loopw [5] (fun iv wr => ∃ j : Nat, j ≤ N ∧ iv = .int .i64 j ∧ Below w.heap.size w wr ∧ Hid (∀ i, i < j → nth l i = nth m i)) (fun iv _ => N - (intOf iv).toNat)
    case atStart => exact ⟨0, Nat.zero_le _, rfl, Below.refl _ _, Lib.hid (fun i hi => absurd hi (by omega))⟩
    case round =>
      obtain ⟨j, hj, rfl, hB, he⟩ := hrel
      obtain ⟨wo, rfl⟩ : ∃ wo : World, wo = wr := ⟨_, rfl⟩
      by_cases hjN : j < N
      · obtain ⟨b, o, rfl, hb, hc⟩ := hA (by rw [HN.out]; omega)
        obtain ⟨b', o', rfl, hb', hc'⟩ := hA' (by rw [HM.out]; omega)
        have k0 := (hB.cell (p := ⟨b, o + j, none⟩) hb).trans (hc j (by rw [HN.out]; omega))
        have k1 := (hB.cell (p := ⟨b', o' + j, none⟩) hb').trans (hc' j (by rw [HM.out]; omega))
        clear hc hc'
        by_cases hx : nth l j = nth m j
        · have hd2 : (U (nth l j) != U (nth m j)) = false := by rw [bne_eq_false_iff_eq, hx]
          have HX := Lib.hid hx
          clear hx
          go_wp2_with fail
          go_quiet (fail)
          go_wp2_with fail
          go_roundw
          case rel => exact ⟨j + 1, by omega, by go_num, dn hB _, Lib.hid (fun i hi => by
            by_cases e : i = j
            · rw [e]; exact HX.out
            · exact he.out i (by omega))⟩
          case measure => simp [intOf]; omega
        · have hd2 : (U (nth l j) != U (nth m j)) = true := by rw [bne_iff_ne]; exact fun e => hx (U_inj e)
          have hne : l ≠ m := fun e => hx (by rw [e])
          have HE := Lib.hid (decide_eq_false hne)
          clear hx hne
          go_wp2_with fail
          go_quiet (fail)
          go_wp2_with fail
          go_ret
          exact ⟨by rw [HE.out]; rfl, dn hB _⟩
      · have hee : l = m := nth_ext (HN.out.trans HM.out.symm) (fun i hi => he.out i (by have := HN.out; omega))
        have HE := Lib.hid (decide_eq_true hee)
        clear hee
        go_wp2_with fail
        go_ret
        exact ⟨by rw [HE.out]; rfl, hB⟩
  · have hd : ((l.length : Int) != (m.length : Int)) = true := by rw [bne_iff_ne]; omega
    have hne : l ≠ m := fun e => hlen (by rw [e])
    have HE := Lib.hid (decide_eq_false hne)
    clear hlen hne
    go_enter Try.func36, Try.ntmps36
    go_wp2_with fail
    go_ret
    exact ⟨by rw [HE.out]; rfl, Below.refl _ _⟩

/-- Are two counters the same? -/
def sameF (R C R' C' : Int) (l m : List (BitVec 64)) : Bool := R == R' && C == C' && decide (l = m)

theorem two3 {w w1 : World} {a b c a' b' c' : Value} {T T' : TypeId} (hB : Below ((w.alloc (.cells #[a, b, c] T)).alloc (.cells #[a', b', c'] T')).heap.size ((w.alloc (.cells #[a, b, c] T)).alloc (.cells #[a', b', c'] T')) w1) : Below w.heap.size w w1 :=
  (((Below.refl _ w).alloc (Nat.le_refl _) _).alloc (by simp) _).trans (hB.mono (by simp; omega))

set_option maxRecDepth 100000 in
set_option maxHeartbeats 1000000 in
theorem refSame_any (R C R' C' : Int) (A A' : Option Addr) (c c' : Nat) (l m : List (BitVec 64)) (hl : l.length ≤ 65536) (w : World) (hA : At w w.heap.size A l) (hA' : At w w.heap.size A' m) :
    Calls Try.prog 18 #[.agg #[.int .i64 R, .int .i64 C, .slice A l.length c], .agg #[.int .i64 R', .int .i64 C', .slice A' m.length c']] w fun e w' => e = .returned (.bool (sameF R C R' C' l m)) ∧ Below w.heap.size w w' := by
  unfold sameF
  obtain ⟨x, hx⟩ : ∃ x, (R == R') = x := ⟨_, rfl⟩
  obtain ⟨y, hy⟩ : ∃ y, (C == C') = y := ⟨_, rfl⟩
  rw [hx, hy]
  cases x <;> cases y
  · go_enter Try.func18, Try.ntmps18
    go_wp2_with fail
    go_ret
    exact ⟨rfl, ((Below.refl _ w).alloc (Nat.le_refl _) _).alloc (by simp) _⟩
  · go_enter Try.func18, Try.ntmps18
    go_wp2_with fail
    go_ret
    exact ⟨rfl, ((Below.refl _ w).alloc (Nat.le_refl _) _).alloc (by simp) _⟩
  · go_enter Try.func18, Try.ntmps18
    go_wp2_with fail
    go_ret
    exact ⟨rfl, ((Below.refl _ w).alloc (Nat.le_refl _) _).alloc (by simp) _⟩
  · go_enter Try.func18, Try.ntmps18
    go_wp2_with fail
    have hb := ((Below.refl w.heap.size w).alloc (Nat.le_refl _) (.cells #[.int .i64 R, .int .i64 C, .slice A l.length c] 24)).alloc (by simp) (.cells #[.int .i64 R', .int .i64 C', .slice A' m.length c'] 24)
    refine (numbers_any A A' c c' l m hl _ ((hA.below hb).mono (by simp; omega)) ((hA'.below hb).mono (by simp; omega))).mono ?_
    rintro e w1 ⟨rfl, hB1⟩
    have hB := two3 hB1
    clear hB1 hb
    go_wp2_with fail
    go_ret
    exact ⟨rfl, hB⟩

end Go.Proofs.Ytlehjbfhhikpiaa
