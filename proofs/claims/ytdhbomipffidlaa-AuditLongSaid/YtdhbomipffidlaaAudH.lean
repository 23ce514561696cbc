/-
  Which logs are right: by the reference. Printed by gen_aud.py.
-/
import Derived.Test.YtdhbomipffidlaaAudG
import Derived.Test.YtdhbomipffidlaaAudN
namespace Go.Proofs.Ytdhbomipffidlaa
open Go.RowKit Go.Shelf

theorem okR_long (p : BitVec 64) (l : LE) (i : Nat) (h : ¬ (nthE l i).x.size ≤ 200) : okR p l i = false := by unfold okR; rw [decide_eq_false h]; rfl
theorem okR_none (p : BitVec 64) (l : LE) (i : Nat) (h : ¬ 1 ≤ (nthE l i).s.toNat) : okR p l i = false := by unfold okR; rw [decide_eq_false h, Bool.false_and, Bool.and_false]
theorem okR_zero (p : BitVec 64) (l : LE) (h : (nthE l 0).x.size ≤ 200) (h1 : 1 ≤ (nthE l 0).s.toNat) : okR p l 0 = (decide (¬ (nthE l 0).s = 1#64) || decide (p = 0#64)) := by
  unfold okR; rw [decide_eq_true h, decide_eq_true h1, if_pos rfl]; rfl
theorem okR_step (p : BitVec 64) (l : LE) (i : Nat) (h : (nthE l (i + 1)).x.size ≤ 200) (h1 : 1 ≤ (nthE l (i + 1)).s.toNat) : okR p l (i + 1) = (decide ((nthE l (i + 1)).s - 1#64 = (nthE l i).s) && decide ((nthE l i).t.toNat ≤ (nthE l (i + 1)).t.toNat)) := by
  unfold okR; rw [decide_eq_true h, decide_eq_true h1, if_neg (by omega)]; rfl

set_option maxRecDepth 100000 in
set_option maxHeartbeats 8000000 in
theorem refRight_any (a b p : BitVec 64) (A : Option Addr) (c : Nat) (l : LE) (N : Nat) (hN : l.length = N) (hN2 : N ≤ 65535) (hx : ∀ j, j < N → (nthE l j).x.size ≤ 60000) (w : World) (hA : AtE w w.heap.size A l) :
    Calls Try.prog 16 #[.agg #[.int .u64 (U a), .int .u64 (U b)], .agg #[.int .u64 (U p), .slice A N c]] w fun e w' => e = .returned (.bool (rightE a b p l)) ∧ Below w.heap.size w w' := by
  have e := ref_right a b p l
  rw [hN] at e
  obtain ⟨F2, hF2⟩ : ∃ F2, decide (p = 0#64) = F2 := ⟨_, rfl⟩
  have hp0 : (U p == 0) = F2 := by rw [← hF2]; exact U_beq p 0#64
  have hp1 : (U p != 0) = !F2 := by rw [bne, hp0]
  obtain ⟨L30, hL⟩ : ∃ L30, decide (N ≤ 30) = L30 := ⟨_, rfl⟩
  have hdL : decide ((N : Int) ≤ 30) = L30 := by rw [← hL, decide_eq_decide]; omega
  obtain ⟨F0, hF0⟩ : ∃ F0, decide (0 < N) = F0 := ⟨_, rfl⟩
  obtain ⟨D, hD⟩ : ∃ D, decide (chainE a b p l = N) = D := ⟨_, rfl⟩
  rw [hF0, hF2, hL, hD] at e
  have HE := Lib.hid e
  have HCh := Lib.hid (fun W h => refChained_any a b p A c l N hN hN2 hx W h)
  rw [hD] at HCh
  have HOz := Lib.hid (fun h h1 => okR_zero p l h h1)
  rw [hF2] at HOz
  generalize chainE a b p l = C at *
  generalize rightE a b p l = R at *
  have HN := Lib.hid hN
  have HX := Lib.hid hx
  have HP0 := Lib.hid hp0
  have HP1 := Lib.hid hp1
  have HDL := Lib.hid hdL
  have HF0 := Lib.hid hF0
  clear hF2 hL hD e hN hx hp0 hp1 hdL hF0
  go_enter Try.func16, Try.ntmps16
  go_wp2_with fail
  have kk := old_at (o := .cells #[.int .u64 (U p), .slice A N c] 27) (new_at w (.cells #[.int .u64 (U a), .int .u64 (U b)] 24) _ rfl)
  have kl := new_at (w.alloc (.cells #[.int .u64 (U a), .int .u64 (U b)] 24)) (.cells #[.int .u64 (U p), .slice A N c] 27) (w.heap.size + 1) (by simp)
  have hB0 : Below w.heap.size w ((w.alloc (.cells #[.int .u64 (U a), .int .u64 (U b)] 24)).alloc (.cells #[.int .u64 (U p), .slice A N c] 27)) := ((Below.refl _ w).alloc (Nat.le_refl _) _).alloc (by simp) _
  have hAu := hA.later hB0
  have HB0 := Lib.hid hB0
  generalize ((w.alloc (.cells #[.int .u64 (U a), .int .u64 (U b)] 24)).alloc (.cells #[.int .u64 (U p), .slice A N c] 27)) = u at *
  obtain ⟨bl, hbl⟩ : ∃ bl, w.heap.size + 1 = bl := ⟨_, rfl⟩
  rw [hbl] at kl ⊢
  obtain ⟨bk, hbk⟩ : ∃ bk, w.heap.size = bk := ⟨_, rfl⟩
  rw [hbk] at kk ⊢
  clear hbl hbk hB0 hA
  go_loopw [5] (fun iv wr => ∃ j : Nat, j ≤ N ∧ iv = .int .i64 j ∧ Below u.heap.size u wr ∧ ∀ i, i < j → okR p l i = true) (fun iv _ => N - (intOf iv).toNat)
  case atStart => exact ⟨0, Nat.zero_le _, rfl, Below.refl _ u, fun i hi => absurd hi (by omega)⟩
  case round =>
    obtain ⟨j, hj, rfl, hB, hall⟩ := hrel
    have HAll := Lib.hid hall
    clear hall
    obtain ⟨wo, rfl⟩ : ∃ wo : World, wo = wr := ⟨_, rfl⟩
    have xl1 := cell_at (keep kl hB) 1
    by_cases hlt : j < N
    · have hjI : (j : Int) < (N : Int) := by omega
      have hjI0 : (0 : Int) ≤ (j : Int) := by omega
      have hS := hB.size
      obtain ⟨b1, o1, rfl, hb1, hc1⟩ := hAu (by rw [HN.out]; omega)
      have HCu := Lib.hid hc1
      have hcj := (hc1 j (by rw [HN.out]; exact hlt)).below hB hb1
      have HStep := Lib.hid (fun i (h : i + 1 = j) (h2 : (nthE l j).x.size ≤ 200) (h3 : 1 ≤ (nthE l j).s.toNat) => show okR p l j = (decide ((nthE l j).s - 1#64 = (nthE l i).s) && decide ((nthE l i).t.toNat ≤ (nthE l j).t.toNat)) from by
        subst h
        exact okR_step p l i h2 h3)
      have HZero := Lib.hid (fun (h : j = 0) (h2 : (nthE l j).x.size ≤ 200) (h3 : 1 ≤ (nthE l j).s.toNat) => show okR p l j = (decide (¬ (nthE l j).s = 1#64) || F2) from by subst h; exact HOz.out h2 h3)
      have HLong := Lib.hid (fun (h2 : ¬ (nthE l j).x.size ≤ 200) => show okR p l j = false from okR_long p l j h2)
      have HNone := Lib.hid (fun (h2 : ¬ 1 ≤ (nthE l j).s.toNat) => show okR p l j = false from okR_none p l j h2)
      have HBad := Lib.hid (fun (h : okR p l j = false) => show decide (upTo (okR p l) N = N) = false from decide_eq_false (fun e => by
        have := upTo_all.1 e j hlt
        rw [h] at this
        cases this))
      have HMore := Lib.hid (fun (h : okR p l j = true) => show ∀ i, i < j + 1 → okR p l i = true from fun i hi => by
        by_cases hij : i < j
        · exact HAll.out i hij
        · obtain rfl : i = j := by omega
          exact h)
      generalize hx : nthE l j = x at *
      clear hx hc1
      obtain ⟨y0, y1, y2, y3⟩ := hcj
      have kx := new_at wo (.cells #[.int .u64 (U x.s), .int .u64 (U x.t), .string x.x, .int .u64 (U x.m)] 41) _ rfl
      have hBy : Below wo.heap.size wo (wo.alloc (.cells #[.int .u64 (U x.s), .int .u64 (U x.t), .string x.x, .int .u64 (U x.m)] 41)) := (Below.refl _ wo).alloc (Nat.le_refl _) _
      have HB := Lib.hid hB
      clear hB
      go_wp2_with fail
      clear y0 y1 y2 y3 xl1
      generalize wo.alloc (.cells #[.int .u64 (U x.s), .int .u64 (U x.t), .string x.x, .int .u64 (U x.m)] 41) = wy at *
      replace hBy := hBy.mono hS
      obtain ⟨bx, hbx⟩ : ∃ bx, wo.heap.size = bx := ⟨_, rfl⟩
      rw [hbx] at kx ⊢
      have hly := keep kl (HB.out.trans hBy)
      have ml := cell_at hly 1
      have ml0 := cell_at hly 0
      have m0 := cell_at kx 0
      have m1 := cell_at kx 1
      have m2 := cell_at kx 2
      have m3 := cell_at kx 3
      have hp0 := HP0.out
      have hp1 := HP1.out
      clear hbx hly
      by_cases hsz : x.x.size ≤ 200
      · have hg : decide ((200 : Int) < (x.x.size : Int)) = false := decide_eq_false (by omega)
        by_cases h1s : 1 ≤ x.s.toNat
        · have hs1 : decide (U x.s < 1) = false := decide_eq_false (by unfold U; omega)
          by_cases h0j : j = 0
          · have hz : decide (0 < j) = false := decide_eq_false (by omega)
            have hz2 : decide ((0 : Int) < (j : Int)) = false := decide_eq_false (by omega)
            have hz3 : ((j : Int) == 0) = true := by rw [beq_iff_eq]; omega
            have hpl := HZero.out h0j hsz h1s
            have h11 : (U x.s == 1) = decide (x.s = 1#64) := by have h := U_beq x.s 1#64; rw [U_lit1] at h; exact h
            by_cases hone : x.s = 1#64
            · rw [decide_eq_true hone] at h11
              rw [decide_eq_false (not_not_intro hone), Bool.false_or] at hpl
              cases F2 with
              | false =>
                have HPl := Lib.hid hpl
                clear hpl hone
                go_quiet (fail)
                clear m0 m1 m2 m3 ml ml0 hp0 hp1 h11 hz hz2
                have HW := Lib.hid (fun n => dn (HB.out.trans hBy) n)
                have HU := Lib.hid (HBad.out HPl.out)
                go_wp2_with fail
                go_ret
                exact ⟨ret_bool (by rw [HE.out, HU.out]; simp), (HB0.out.trans ((HW.out _).mono HB0.out.size))⟩
              | true =>
                have HPl := Lib.hid hpl
                clear hpl hone
                go_quiet (fail)
                clear m0 m1 m2 m3 ml ml0 hp0 hp1 h11 hz hz2
                have HW := Lib.hid (fun n => dn (HB.out.trans hBy) n)
                go_wp2_with fail
                go_roundw
                case rel => exact ⟨j + 1, by omega, by go_num, HW.out _, HMore.out HPl.out⟩
                case measure => simp [intOf]; omega
            · rw [decide_eq_false hone] at h11
              rw [decide_eq_true hone, Bool.true_or] at hpl
              have HPl := Lib.hid hpl
              clear hpl hone
              go_quiet (fail)
              clear m0 m1 m2 m3 ml ml0 hp0 hp1 h11 hz hz2
              have HW := Lib.hid (fun n => dn (HB.out.trans hBy) n)
              go_wp2_with fail
              go_roundw
              case rel => exact ⟨j + 1, by omega, by go_num, HW.out _, HMore.out HPl.out⟩
              case measure => simp [intOf]; omega
          · obtain ⟨i, hi⟩ : ∃ i, i + 1 = j := ⟨j - 1, by omega⟩
            have hz : decide (0 < j) = true := decide_eq_true (by omega)
            have hz3 : ((j : Int) == 0) = false := by rw [beq_eq_false_iff_ne]; omega
            have hpl := HStep.out i hi hsz h1s
            have hci := (HCu.out i (by rw [HN.out]; omega)).below (HB.out.trans hBy) hb1
            generalize nthE l i = z at *
            have n0 := hci.s
            have n1 := hci.t
            have n2 := hci.x
            have n3 := hci.m
            have hw1 : IntKind.i64.wrap ((j : Int) - 1) = (i : Int) := by rw [IntKind.wrap_i64]; omega
            have hw2 : (j : Int) - 1 = (i : Int) := by omega
            have hi0 : (0 : Int) ≤ (i : Int) := by omega
            have hiN : (i : Int) < (N : Int) := by omega
            have hit : ((i : Int)).toNat = i := by omega
            have hsub : IntKind.u64.wrap (U x.s - 1) = U (x.s - 1#64) := by have h := U_sub x.s 1#64; rw [U_lit1] at h; exact h
            have hbn : (U (x.s - 1#64) != U z.s) = !decide (x.s - 1#64 = z.s) := by rw [bne, U_beq]
            have hlt2 : decide (U x.t < U z.t) = !decide (z.t.toNat ≤ x.t.toNat) := by
              rw [Bool.eq_iff_iff, decide_eq_true_iff, Bool.not_eq_true', decide_eq_false_iff_not]; unfold U; omega
            obtain ⟨q, hq⟩ : ∃ q, decide (x.s - 1#64 = z.s) = q := ⟨_, rfl⟩
            obtain ⟨q2, hq2⟩ : ∃ q2, decide (z.t.toNat ≤ x.t.toNat) = q2 := ⟨_, rfl⟩
            rw [hq] at hbn hpl
            rw [hq2] at hlt2 hpl
            have HPl := Lib.hid hpl
            clear hq hq2 hpl hci hi
            cases q with
            | false =>
              simp only [Bool.not_false] at hbn
              go_quiet (fail)
              clear m0 m1 m2 m3 ml ml0 hp0 hp1 n0 n1 n2 n3 hw1 hw2 hsub hbn hlt2 hz
              have HW := Lib.hid (fun n => dn (HB.out.trans hBy) n)
              have HU := Lib.hid (HBad.out HPl.out)
              go_wp2_with fail
              go_ret
              exact ⟨ret_bool (by rw [HE.out, HU.out]; simp), (HB0.out.trans ((HW.out _).mono HB0.out.size))⟩
            | true =>
              simp only [Bool.not_true] at hbn
              cases q2 with
              | false =>
                simp only [Bool.not_false] at hlt2
                go_quiet (fail)
                clear m0 m1 m2 m3 ml ml0 hp0 hp1 n0 n1 n2 n3 hw1 hw2 hsub hbn hlt2 hz
                have HW := Lib.hid (fun n => dn (HB.out.trans hBy) n)
                have HU := Lib.hid (HBad.out HPl.out)
                go_wp2_with fail
                go_ret
                exact ⟨ret_bool (by rw [HE.out, HU.out]; simp), (HB0.out.trans ((HW.out _).mono HB0.out.size))⟩
              | true =>
                simp only [Bool.not_true] at hlt2
                go_quiet (fail)
                clear m0 m1 m2 m3 ml ml0 hp0 hp1 n0 n1 n2 n3 hw1 hw2 hsub hbn hlt2 hz
                have HW := Lib.hid (fun n => dn (HB.out.trans hBy) n)
                go_wp2_with fail
                go_roundw
                case rel => exact ⟨j + 1, by omega, by go_num, HW.out _, HMore.out HPl.out⟩
                case measure => simp [intOf]; omega
        · have hs1 : decide (U x.s < 1) = true := decide_eq_true (by unfold U; omega)
          go_quiet (fail)
          clear m0 m1 m2 m3 ml ml0 hp0 hp1 hs1
          have HW := Lib.hid (fun n => dn (HB.out.trans hBy) n)
          have HU := Lib.hid (HBad.out (HNone.out h1s))
          go_wp2_with fail
          go_ret
          exact ⟨ret_bool (by rw [HE.out, HU.out]; simp), (HB0.out.trans ((HW.out _).mono HB0.out.size))⟩
      · have hg : decide ((200 : Int) < (x.x.size : Int)) = true := decide_eq_true (by omega)
        go_quiet (fail)
        clear m0 m1 m2 m3 ml ml0 hp0 hp1
        have HW := Lib.hid (fun n => dn (HB.out.trans hBy) n)
        have HU := Lib.hid (HBad.out (HLong.out hsz))
        go_wp2_with fail
        go_ret
        exact ⟨ret_bool (by rw [HE.out, HU.out]; simp), (HB0.out.trans ((HW.out _).mono HB0.out.size))⟩
    · have hallu : upTo (okR p l) N = N := upTo_all.2 (fun i hi => HAll.out i (by omega))
      have HU := Lib.hid (decide_eq_true hallu)
      clear hallu xl1
      have hBe := hB
      have kk1 := keep kk hBe
      have kl1 := keep kl hBe
      have xk0 := cell_at kk1 0
      have xk1 := cell_at kk1 1
      have xl0 := cell_at kl1 0
      have xl1 := cell_at kl1 1
      have HAe := Lib.hid (hAu.later hBe)
      have HBe := Lib.hid hBe
      clear hBe
      go_wp2_with fail
      with_reducible refine (HCh.out _ HAe.out).mono ?_
      rintro e w5 ⟨rfl, hB5⟩
      have kl2 := keep kl1 hB5
      have xm0 := cell_at kl2 0
      have xm1 := cell_at kl2 1
      have HF := Lib.hid (HB0.out.trans ((HBe.out.trans (hB5.mono HBe.out.size)).mono HB0.out.size))
      have hp0 := HP0.out
      have hdL := HDL.out
      clear xk0 xk1 xl0 xl1 hB5 kk1 kl1 kl2
      cases D with
      | false =>
        go_wp2_with fail
        go_ret
        exact ⟨ret_bool (by rw [HE.out, HU.out]; simp), HF.out⟩
      | true =>
        cases L30 with
        | false =>
          go_wp2_with fail
          go_ret
          exact ⟨ret_bool (by rw [HE.out, HU.out]; simp), HF.out⟩
        | true =>
          by_cases hpos : 0 < N
          · have hq := decide_eq_true hpos
            have HQ : Hid (F0 = true) := Lib.hid (by rw [← HF0.out]; exact hq)
            have hqi : (0 : Int) < (N : Int) := by omega
            go_wp2_with fail
            go_ret
            exact ⟨ret_bool (by rw [HE.out, HU.out, HQ.out]; simp), HF.out⟩
          · have hq : decide (0 < N) = false := decide_eq_false hpos
            have HQ : Hid (F0 = false) := Lib.hid (by rw [← HF0.out]; exact hq)
            have hqi : ¬ (0 : Int) < (N : Int) := by omega
            go_wp2_with fail
            go_ret
            exact ⟨ret_bool (by rw [HE.out, HU.out, HQ.out]; simp), HF.out⟩
end Go.Proofs.Ytdhbomipffidlaa
