/-
  How far a chain of entries goes: by the reference.
-/
import Derived.Test.YtdhbomipffidlaaAudE
namespace Go.Proofs.Ytdhbomipffidlaa
open Go.RowKit Go.Shelf

set_option maxRecDepth 100000 in
set_option maxHeartbeats 4000000 in
theorem refChained_any (a b p : BitVec 64) (A : Option Addr) (c : Nat) (l : LE) (N : Nat) (hN : l.length = N) (hN2 : N ≤ 65535) (hx : ∀ j, j < N → (nthE l j).x.size ≤ 60000) (w : World) (hA : AtE w w.heap.size A l) :
    Calls Try.prog 24 #[.agg #[.int .u64 (U a), .int .u64 (U b)], .int .u64 (U p), .slice A N c] w fun e w' => e = .returned (.tuple #[.int .i64 (chainE a b p l : Nat), .bool (decide (chainE a b p l = N))]) ∧ Below w.heap.size w w' := by
  have HN := Lib.hid hN
  have HX := Lib.hid hx
  clear hN hx
  obtain ⟨C, hC⟩ : ∃ C, chainE a b p l = C := ⟨_, rfl⟩
  rw [hC]
  have HC := Lib.hid hC
  clear hC
  go_enter Try.func24, Try.ntmps24
  go_wp2_with fail
  have k0 := new_at w (.cells #[.int .u64 (U a), .int .u64 (U b)] 24) _ rfl
  have hB0 : Below w.heap.size w (w.alloc (.cells #[.int .u64 (U a), .int .u64 (U b)] 24)) := (Below.refl _ w).alloc (Nat.le_refl _) _
  have hAu := hA.later hB0
  have HB0 := Lib.hid hB0
  generalize w.alloc (.cells #[.int .u64 (U a), .int .u64 (U b)] 24) = u at *
  obtain ⟨b0, hb0⟩ : ∃ b0, w.heap.size = b0 := ⟨_, rfl⟩
  rw [hb0] at k0 ⊢
  clear hb0 hB0 hA
  go_loopw [1, 8] (fun pv iv wr => ∃ j : Nat, j ≤ N ∧ iv = .int .i64 j ∧ pv = .int .u64 (U (prevE p l j)) ∧ Below u.heap.size u wr ∧ ∀ i, i < j → linkE a b p l i = true) (fun _ iv _ => N - (intOf iv).toNat)
  case atStart => exact ⟨0, Nat.zero_le _, rfl, rfl, Below.refl _ u, fun i hi => absurd hi (by omega)⟩
  case round =>
    obtain ⟨j, hj, rfl, rfl, hB, hall⟩ := hrel
    have HAll := Lib.hid hall
    clear hall
    by_cases hlt : j < N
    · have hxj := HX.out j hlt
      have hlk : linkE a b p l j = decide ((nthE l j).m = sumE a b (prevE p l j) (nthE l j)) := rfl
      have hnext : prevE p l (j + 1) = (nthE l j).m := rfl
      obtain ⟨b1, o1, rfl, hb1, hc1⟩ := hAu (by rw [HN.out]; omega)
      have hS := hB.size
      obtain ⟨y0, y1, y2, y3⟩ := (hc1 j (by rw [HN.out]; exact hlt)).below hB hb1
      have hc0 := cell_at (keep k0 hB) 0
      have hcc1 := cell_at (keep k0 hB) 1
      have hb0 := (Array.getElem?_eq_some_iff.1 (keep k0 hB)).1
      have hb1' : b1 < wr.heap.size := by omega
      have HSum := Lib.hid (fun W => refSum2_any a b (prevE p l j) (nthE l j) hxj W)
      unfold Ent.val at HSum
      clear hc1
      generalize nthE l j = x at *
      generalize prevE p l j = q at *
      obtain ⟨v, hv⟩ : ∃ v, sumE a b q x = v := ⟨_, rfl⟩
      rw [hv] at hlk HSum
      have HLk := Lib.hid hlk
      have HNext := Lib.hid hnext
      have HB := Lib.hid hB
      have l0 : ∀ s' : Later wr.heap.size wr, s'.W.cell? ⟨b0, 0, none⟩ = some _ := fun s' => s'.cell hc0 hb0
      have l1 : ∀ s' : Later wr.heap.size wr, s'.W.cell? ⟨b0, 1, none⟩ = some _ := fun s' => s'.cell hcc1 hb0
      have m0 : ∀ s' : Later wr.heap.size wr, s'.W.cell? ⟨b1, o1 + j * 4, none⟩ = some _ := fun s' => s'.cell y0 hb1'
      have m1 : ∀ s' : Later wr.heap.size wr, s'.W.cell? ⟨b1, o1 + j * 4 + 1, none⟩ = some _ := fun s' => s'.cell y1 hb1'
      have m2 : ∀ s' : Later wr.heap.size wr, s'.W.cell? ⟨b1, o1 + j * 4 + 2, none⟩ = some _ := fun s' => s'.cell y2 hb1'
      have m3 : ∀ s' : Later wr.heap.size wr, s'.W.cell? ⟨b1, o1 + j * 4 + 3, none⟩ = some _ := fun s' => s'.cell y3 hb1'
      have hq : (U x.m != U v) = !decide (x.m = v) := by rw [bne, U_beq]
      obtain ⟨r, hr⟩ : ∃ r, decide (x.m = v) = r := ⟨_, rfl⟩
      rw [hr] at hq HLk
      clear hlk hnext hB hr hv y0 y1 y2 hc0 hcc1
      cases r with
      | false =>
        simp only [Bool.not_false] at hq
        have hbad : C = j := by
          rw [← HC.out]
          unfold chainE
          rw [HN.out]
          exact upTo_eq (by omega) (fun i hi => HAll.out i hi) (fun _ => HLk.out)
        have HBad := Lib.hid hbad
        clear hbad
        go_wp2_with fail
        refine wp_region_later wr.heap.size (by kernel_rfl) (by kernel_rfl) ?_
        repeat (go_big_quiet_step ((go_at_call 25; with_reducible exact Calls.later (Nat.le_refl _) (HSum.out _))))
        refine wpQuiet_nil ?_
        rintro _ ⟨s', rfl⟩
        clear l0 l1 m0 m1 m2 m3 y3
        have HW := Lib.hid (HB0.out.trans ((HB.out.trans (s'.below.mono hS)).mono HB0.out.size))
        go_wp2_with fail
        go_ret2
        refine ⟨?_, HW.out⟩
        have hC := HBad.out
        subst hC
        rw [show decide (C = N) = false from decide_eq_false (by omega)]
        rfl
      | true =>
        simp only [Bool.not_true] at hq
        go_wp2_with fail
        refine wp_region_later wr.heap.size (by kernel_rfl) (by kernel_rfl) ?_
        repeat (go_big_quiet_step ((go_at_call 25; with_reducible exact Calls.later (Nat.le_refl _) (HSum.out _))))
        refine wpQuiet_nil ?_
        rintro _ ⟨s', rfl⟩
        have y3' := m3 s'
        clear l0 l1 m0 m1 m2 m3 y3
        have HW := Lib.hid (HB.out.trans (s'.below.mono hS))
        go_wp2_with fail
        go_roundw
        case rel =>
          refine ⟨j + 1, by omega, by go_num, by rw [HNext.out], HW.out, ?_⟩
          intro i hi
          by_cases hij : i < j
          · exact HAll.out i hij
          · obtain rfl : i = j := by omega
            exact HLk.out
        case measure => simp [intOf]; omega
    · have hall : C = N := by
        rw [← HC.out]
        unfold chainE
        rw [HN.out]
        exact upTo_all.2 (fun i hi => HAll.out i (by omega))
      have HAl := Lib.hid hall
      have HW := Lib.hid (HB0.out.trans (hB.mono HB0.out.size))
      clear hall
      go_wp2_with fail
      go_ret2
      refine ⟨?_, HW.out⟩
      rw [HAl.out, show decide (N = N) = true from decide_eq_true rfl]
      rfl
end Go.Proofs.Ytdhbomipffidlaa
