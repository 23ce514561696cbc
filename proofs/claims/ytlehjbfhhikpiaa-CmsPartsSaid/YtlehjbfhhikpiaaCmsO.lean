/-
  Which counters are the same: the program's.
-/
import Derived.Test.YtlehjbfhhikpiaaCmsN
namespace Go.Proofs.Ytlehjbfhhikpiaa
open Go.RowKit

set_option maxRecDepth 100000 in
set_option maxHeartbeats 1000000 in
theorem equal_any (A A' : Option Addr) (c c' : Nat) (l m : List (BitVec 64)) (hl : l.length ≤ 65536) (w : World) (hA : At w w.heap.size A l) (hA' : At w w.heap.size A' m) :
    Calls Try.prog 41 #[.slice A l.length c, .slice A' m.length c'] w fun e w' => e = .returned (.bool (decide (l = m))) ∧ Below w.heap.size w w' := by
  by_cases hlen : l.length = m.length
  · have hd : ((l.length : Int) != (m.length : Int)) = false := by rw [bne_eq_false_iff_eq]; omega
    have hml : m.length = l.length := hlen.symm
    obtain ⟨N, hN⟩ : ∃ N, l.length = N := ⟨_, rfl⟩
    rw [hml, hN] at hd ⊢
    have HN := Lib.hid hN
    have HM := Lib.hid (hml.trans hN)
    have hN2 : N ≤ 65536 := by omega
    clear hN hml hlen hl
    go_enter Try.func41, Try.ntmps41
    go_wp2_with fail
    go_loopw [13] (fun iv wr => ∃ j : Nat, j ≤ N ∧ iv = .int .i64 j ∧ Below w.heap.size w wr ∧ Hid (∀ i, i < j → nth l i = nth m i)) (fun iv _ => N - (intOf iv).toNat)
    case atStart => exact ⟨0, Nat.zero_le _, rfl, Below.refl _ _, Lib.hid (fun i hi => absurd hi (by omega))⟩
    case round =>
      obtain ⟨j, hj, rfl, hB, he⟩ := hrel
      obtain ⟨wo, rfl⟩ : ∃ wo : World, wo = wr := ⟨_, rfl⟩
      by_cases hjN : j < N
      · obtain ⟨b, o, rfl, hb, hc⟩ := hA (by rw [HN.out]; omega)
        obtain ⟨b', o', rfl, hb', hc'⟩ := hA' (by rw [HM.out]; omega)
        have k0 := (hB.cell (p := ⟨b, o + j, none⟩) hb).trans (hc j (by rw [HN.out]; omega))
        have k1 := (hB.cell (p := ⟨b', o' + j, none⟩) hb').trans (hc' j (by rw [HM.out]; omega))
        clear hc hc'
        by_cases hx : nth l j = nth m j
        · have hd2 : (U (nth l j) != U (nth m j)) = false := by rw [bne_eq_false_iff_eq, hx]
          have HX := Lib.hid hx
          clear hx
          go_wp2_with fail
          go_quiet (fail)
          go_wp2_with fail
          go_roundw
          case rel => exact ⟨j + 1, by omega, by go_num, dn hB _, Lib.hid (fun i hi => by
            by_cases e : i = j
            · rw [e]; exact HX.out
            · exact he.out i (by omega))⟩
          case measure => simp [intOf]; omega
        · have hd2 : (U (nth l j) != U (nth m j)) = true := by rw [bne_iff_ne]; exact fun e => hx (U_inj e)
          have hne : l ≠ m := fun e => hx (by rw [e])
          have HE := Lib.hid (decide_eq_false hne)
          clear hx hne
          go_wp2_with fail
          go_quiet (fail)
          go_wp2_with fail
          go_ret
          exact ⟨by rw [HE.out]; rfl, dn hB _⟩
      · have hee : l = m := nth_ext (HN.out.trans HM.out.symm) (fun i hi => he.out i (by have := HN.out; omega))
        have HE := Lib.hid (decide_eq_true hee)
        clear hee
        go_wp2_with fail
        go_ret
        exact ⟨by rw [HE.out]; rfl, hB⟩
  · have hd : ((l.length : Int) != (m.length : Int)) = true := by rw [bne_iff_ne]; omega
    have hne : l ≠ m := fun e => hlen (by rw [e])
    have HE := Lib.hid (decide_eq_false hne)
    clear hlen hne
    go_enter Try.func41, Try.ntmps41
    go_wp2_with fail
    go_ret
    exact ⟨by rw [HE.out]; rfl, Below.refl _ _⟩

set_option maxRecDepth 100000 in
set_option maxHeartbeats 1000000 in
theorem Same_any (R C R' C' : Int) (A A' : Option Addr) (c c' : Nat) (l m : List (BitVec 64)) (hl : l.length ≤ 65536) (w : World) (hA : At w w.heap.size A l) (hA' : At w w.heap.size A' m) :
    Calls Try.prog 27 #[.agg #[.int .i64 R, .int .i64 C, .slice A l.length c], .agg #[.int .i64 R', .int .i64 C', .slice A' m.length c']] w fun e w' => e = .returned (.bool (sameF R C R' C' l m)) ∧ Below w.heap.size w w' := by
  unfold sameF
  obtain ⟨x, hx⟩ : ∃ x, (R == R') = x := ⟨_, rfl⟩
  obtain ⟨y, hy⟩ : ∃ y, (C == C') = y := ⟨_, rfl⟩
  rw [hx, hy]
  cases x <;> cases y
  · go_enter Try.func27, Try.ntmps27
    go_wp2_with fail
    go_ret
    exact ⟨rfl, ((Below.refl _ w).alloc (Nat.le_refl _) _).alloc (by simp) _⟩
  · go_enter Try.func27, Try.ntmps27
    go_wp2_with fail
    go_ret
    exact ⟨rfl, ((Below.refl _ w).alloc (Nat.le_refl _) _).alloc (by simp) _⟩
  · go_enter Try.func27, Try.ntmps27
    go_wp2_with fail
    go_ret
    exact ⟨rfl, ((Below.refl _ w).alloc (Nat.le_refl _) _).alloc (by simp) _⟩
  · go_enter Try.func27, Try.ntmps27
    go_wp2_with fail
    have hb := ((Below.refl w.heap.size w).alloc (Nat.le_refl _) (.cells #[.int .i64 R, .int .i64 C, .slice A l.length c] 24)).alloc (by simp) (.cells #[.int .i64 R', .int .i64 C', .slice A' m.length c'] 24)
    refine (equal_any A A' c c' l m hl _ ((hA.below hb).mono (by simp; omega)) ((hA'.below hb).mono (by simp; omega))).mono ?_
    rintro e w1 ⟨rfl, hB1⟩
    have hB := two3 hB1
    clear hB1 hb
    go_wp2_with fail
    go_ret
    exact ⟨rfl, hB⟩

end Go.Proofs.Ytlehjbfhhikpiaa
