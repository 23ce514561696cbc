/-
  Which logs are right: by package audit.
-/
import Derived.Test.YtdhbomipffidlaaAudF
namespace Go.Proofs.Ytdhbomipffidlaa
open Go.RowKit Go.Shelf

theorem placeE_zero (l : LE) (h : (nthE l 0).x.size ≤ 200) : placeE l 0 = true := by
  unfold placeE
  rw [decide_eq_true h]; rfl
theorem placeE_long (l : LE) (i : Nat) (h : ¬ (nthE l i).x.size ≤ 200) : placeE l i = false := by
  unfold placeE
  rw [decide_eq_false h]; rfl
theorem placeE_step (l : LE) (i : Nat) (h : (nthE l (i + 1)).x.size ≤ 200) : placeE l (i + 1) = stepE (nthE l i) (nthE l (i + 1)) := by
  unfold placeE
  rw [decide_eq_true h, decide_eq_false (by omega)]; rfl
theorem rightE_pos {a b p : BitVec 64} {l : LE} (h : l.length ≠ 0) : rightE a b p l = (decide (l.length ≤ 30) && (decide (upTo (placeE l) l.length = l.length) && (decide (chainE a b p l = l.length) && (decide (0 < (nthE l 0).s.toNat) && (decide (1 < (nthE l 0).s.toNat) || decide (p = 0#64)))))) := by
  unfold rightE; rw [first_pos h]

set_option maxRecDepth 100000 in
set_option maxHeartbeats 8000000 in
theorem Right_any (a b p : BitVec 64) (A : Option Addr) (c : Nat) (l : LE) (N : Nat) (hN : l.length = N) (hN2 : N ≤ 65535) (hx : ∀ j, j < N → (nthE l j).x.size ≤ 60000) (w : World) (hA : AtE w w.heap.size A l) :
    Calls Try.prog 15 #[.agg #[.int .u64 (U a), .int .u64 (U b)], .agg #[.int .u64 (U p), .slice A N c]] w fun e w' => e = .returned (.bool (rightE a b p l)) ∧ Below w.heap.size w w' := by
  have hp0 : (U p == 0) = decide (p = 0#64) := U_beq p 0#64
  by_cases h0 : N = 0
  · subst h0
    have e : rightE a b p l = decide (p = 0#64) := by
      have e1 : l = [] := List.eq_nil_of_length_eq_zero hN
      subst e1
      rfl
    rw [e, ← hp0]
    clear hN hx hA e hp0
    go_enter Try.func15, Try.ntmps15
    go_wp2_with fail
    refine wp_scope_straight ?_
    go_wp2_with fail
    rw [Exit.noGoto_ret]
    go_ret
    exact ⟨rfl, ((Below.refl _ w).alloc (Nat.le_refl _) _).alloc (by simp) _⟩
  · obtain ⟨F2, hF2⟩ : ∃ F2, decide (p = 0#64) = F2 := ⟨_, rfl⟩
    rw [hF2] at hp0
    obtain ⟨x0, hx0⟩ : ∃ x0, nthE l 0 = x0 := ⟨_, rfl⟩
    obtain ⟨F0, hF0⟩ : ∃ F0, decide (0 < x0.s.toNat) = F0 := ⟨_, rfl⟩
    obtain ⟨F1, hF1⟩ : ∃ F1, decide (1 < x0.s.toNat) = F1 := ⟨_, rfl⟩
    have hd0 : decide (0 < U x0.s) = F0 := by rw [← hF0, decide_eq_decide]; unfold U; omega
    have hd1 : decide (1 < U x0.s) = F1 := by rw [← hF1, decide_eq_decide]; unfold U; omega
    obtain ⟨L30, hL⟩ : ∃ L30, decide (N ≤ 30) = L30 := ⟨_, rfl⟩
    have hdL : decide ((N : Int) ≤ 30) = L30 := by rw [← hL, decide_eq_decide]; omega
    obtain ⟨D, hD⟩ : ∃ D, decide (chainE a b p l = N) = D := ⟨_, rfl⟩
    have e := rightE_pos (a := a) (b := b) (p := p) (l := l) (by omega)
    rw [hN, hx0, hF0, hF1, hF2, hL, hD] at e
    have HE := Lib.hid e
    have HCh := Lib.hid (fun W h => Chained_any a b p A c l N hN hN2 hx W h)
    rw [hD] at HCh
    generalize chainE a b p l = C at *
    generalize rightE a b p l = R at *
    have HN := Lib.hid hN
    have HX := Lib.hid hx
    have HX0 := Lib.hid hx0
    have HP0 := Lib.hid hp0
    have HD0 := Lib.hid hd0
    have HD1 := Lib.hid hd1
    clear hF0 hF1 hF2 hL hD e hN hx hx0 hp0 hd0 hd1
    have hA' := hA
    obtain ⟨b1, o1, rfl, hb1, hc1⟩ := hA' (by rw [HN.out]; omega)
    have hbase := hc1 0 (by rw [HN.out]; omega)
    rw [HX0.out, Nat.zero_mul, Nat.add_zero] at hbase
    obtain ⟨y0, y1, y2, y3⟩ := hbase
    have hpos : (0 : Int) < (N : Int) := by omega
    have hpos2 : 0 < N := by omega
    have hne0 : ((N : Int) == 0) = false := by rw [beq_eq_false_iff_ne]; omega
    have HC1 := Lib.hid hc1
    clear hc1
    have w0 := fun o o' => old_cell (old_cell y0 o) o'
    have w1 := fun o o' => old_cell (old_cell y1 o) o'
    have w2 := fun o o' => old_cell (old_cell y2 o) o'
    have w3 := fun o o' => old_cell (old_cell y3 o) o'
    go_enter Try.func15, Try.ntmps15
    go_wp2_with fail
    refine wp_scope_straight ?_
    go_wp2_with fail
    refine wp_label ?_
    go_wp2_with fail
    clear w0 w1 w2 w3 y0 y1 y2 y3
    have kk := old_at (o := .cells #[.int .u64 (U x0.s), .int .u64 (U x0.t), .string x0.x, .int .u64 (U x0.m)] 41) (old_at (o := .cells #[.int .u64 (U p), .slice (some ⟨b1, o1, none⟩) N c] 27) (new_at w (.cells #[.int .u64 (U a), .int .u64 (U b)] 24) _ rfl))
    have kl := old_at (o := .cells #[.int .u64 (U x0.s), .int .u64 (U x0.t), .string x0.x, .int .u64 (U x0.m)] 41) (new_at (w.alloc (.cells #[.int .u64 (U a), .int .u64 (U b)] 24)) (.cells #[.int .u64 (U p), .slice (some ⟨b1, o1, none⟩) N c] 27) (w.heap.size + 1) (by simp))
    have kf := new_at ((w.alloc (.cells #[.int .u64 (U a), .int .u64 (U b)] 24)).alloc (.cells #[.int .u64 (U p), .slice (some ⟨b1, o1, none⟩) N c] 27)) (.cells #[.int .u64 (U x0.s), .int .u64 (U x0.t), .string x0.x, .int .u64 (U x0.m)] 41) (w.heap.size + 1 + 1) (by simp)
    have hB0 : Below w.heap.size w (((w.alloc (.cells #[.int .u64 (U a), .int .u64 (U b)] 24)).alloc (.cells #[.int .u64 (U p), .slice (some ⟨b1, o1, none⟩) N c] 27)).alloc (.cells #[.int .u64 (U x0.s), .int .u64 (U x0.t), .string x0.x, .int .u64 (U x0.m)] 41)) := (((Below.refl _ w).alloc (Nat.le_refl _) _).alloc (by simp) _).alloc (by simp; omega) _
    have hAu := hA.later hB0
    have HB0 := Lib.hid hB0
    generalize (((w.alloc (.cells #[.int .u64 (U a), .int .u64 (U b)] 24)).alloc (.cells #[.int .u64 (U p), .slice (some ⟨b1, o1, none⟩) N c] 27)).alloc (.cells #[.int .u64 (U x0.s), .int .u64 (U x0.t), .string x0.x, .int .u64 (U x0.m)] 41)) = u at *
    obtain ⟨bf, hbf⟩ : ∃ bf, w.heap.size + 1 + 1 = bf := ⟨_, rfl⟩
    rw [hbf] at kf ⊢
    obtain ⟨bl, hbl⟩ : ∃ bl, w.heap.size + 1 = bl := ⟨_, rfl⟩
    rw [hbl] at kl ⊢
    obtain ⟨bk, hbk⟩ : ∃ bk, w.heap.size = bk := ⟨_, rfl⟩
    rw [hbk] at kk ⊢
    have hb1u : b1 < u.heap.size := Nat.lt_of_lt_of_le hb1 hB0.size
    have HCu := Lib.hid (fun j (hj : j < l.length) => (HC1.out j hj).below hB0 hb1)
    clear hbf hbl hbk hB0 hA hA' hb1 HC1
    go_loopw [5, 29] (fun tv iv wr => ∃ j : Nat, j ≤ N ∧ iv = .int .i64 j ∧ tv = .bool L30 ∧ Below u.heap.size u wr ∧ ∀ i, i < j → placeE l i = true) (fun _ iv _ => N - (intOf iv).toNat)
    case atStart => exact ⟨0, Nat.zero_le _, rfl, rfl, Below.refl _ u, fun i hi => absurd hi (by omega)⟩
    case round =>
      obtain ⟨j, hj, rfl, rfl, hB, hall⟩ := hrel
      have HAll := Lib.hid hall
      clear hall
      obtain ⟨wo, rfl⟩ : ∃ wo : World, wo = wr := ⟨_, rfl⟩
      by_cases hlt : j < N
      · have hjI : (j : Int) < (N : Int) := by omega
        have hjI0 : (0 : Int) ≤ (j : Int) := by omega
        have hS := hB.size
        have hb1o : b1 < wo.heap.size := by omega
        have hcj := (HCu.out j (by rw [HN.out]; exact hlt)).below hB hb1u
        have HStep := Lib.hid (fun i (h : i + 1 = j) => show placeE l j = if (nthE l j).x.size ≤ 200 then stepE (nthE l i) (nthE l j) else false from by
          subst h
          split
          · rename_i h2; exact placeE_step l i h2
          · rename_i h2; exact placeE_long l _ h2)
        have HZero := Lib.hid (fun (h : j = 0) (h2 : (nthE l j).x.size ≤ 200) => show placeE l j = true from by subst h; exact placeE_zero l h2)
        have HLong := Lib.hid (fun (h2 : ¬ (nthE l j).x.size ≤ 200) => show placeE l j = false from placeE_long l j h2)
        have HBad := Lib.hid (fun (h : placeE l j = false) => show decide (upTo (placeE l) N = N) = false from decide_eq_false (fun e => by
          have := upTo_all.1 e j hlt
          rw [h] at this
          cases this))
        have HMore := Lib.hid (fun (h : placeE l j = true) => show ∀ i, i < j + 1 → placeE l i = true from fun i hi => by
          by_cases hij : i < j
          · exact HAll.out i hij
          · obtain rfl : i = j := by omega
            exact h)
        have hxj := HX.out j hlt
        generalize hx : nthE l j = x at *
        clear hx
        obtain ⟨y0, y1, y2, y3⟩ := hcj
        have kx := new_at wo (.cells #[.int .u64 (U x.s), .int .u64 (U x.t), .string x.x, .int .u64 (U x.m)] 41) _ rfl
        have hBy : Below wo.heap.size wo (wo.alloc (.cells #[.int .u64 (U x.s), .int .u64 (U x.t), .string x.x, .int .u64 (U x.m)] 41)) := (Below.refl _ wo).alloc (Nat.le_refl _) _
        have HB := Lib.hid hB
        clear hB
        go_wp2_with fail
        clear y0 y1 y2 y3
        generalize wo.alloc (.cells #[.int .u64 (U x.s), .int .u64 (U x.t), .string x.x, .int .u64 (U x.m)] 41) = wy at *
        replace hBy := hBy.mono hS
        obtain ⟨bx, hbx⟩ : ∃ bx, wo.heap.size = bx := ⟨_, rfl⟩
        rw [hbx] at kx ⊢
        have hly := keep kl (HB.out.trans hBy)
        have ml : ∀ s' : Later wy.heap.size wy, s'.W.cell? ⟨bl, 1, none⟩ = some _ := fun s' => s'.cell (cell_at hly 1) (Array.getElem?_eq_some_iff.1 hly).1
        have m0 : ∀ s' : Later wy.heap.size wy, s'.W.cell? ⟨bx, 0, none⟩ = some _ := fun s' => s'.cell (cell_at kx 0) (Array.getElem?_eq_some_iff.1 kx).1
        have m1 : ∀ s' : Later wy.heap.size wy, s'.W.cell? ⟨bx, 1, none⟩ = some _ := fun s' => s'.cell (cell_at kx 1) (Array.getElem?_eq_some_iff.1 kx).1
        have m2 : ∀ s' : Later wy.heap.size wy, s'.W.cell? ⟨bx, 2, none⟩ = some _ := fun s' => s'.cell (cell_at kx 2) (Array.getElem?_eq_some_iff.1 kx).1
        have m3 : ∀ s' : Later wy.heap.size wy, s'.W.cell? ⟨bx, 3, none⟩ = some _ := fun s' => s'.cell (cell_at kx 3) (Array.getElem?_eq_some_iff.1 kx).1
        clear hbx hly
        by_cases hsz : x.x.size ≤ 200
        · by_cases h0j : j = 0
          · have hz : decide ((0 : Int) < (j : Int)) = false := decide_eq_false (by omega)
            have hg : decide ((200 : Int) < (x.x.size : Int)) = false := decide_eq_false (by omega)
            have HPl := Lib.hid (HZero.out h0j hsz)
            refine wp_region_later wy.heap.size (by kernel_rfl) (by kernel_rfl) ?_
            repeat (go_big_quiet_step (fail))
            refine wpQuiet_nil ?_
            rintro _ ⟨s', rfl⟩
            clear m0 m1 m2 m3 ml
            have hBw := HB.out.trans (hBy.trans (s'.below.mono (Nat.le_trans HB.out.size hBy.size)))
            have HW := Lib.hid hBw
            clear hBw
            go_wp2_with fail
            go_roundw
            case rel => exact ⟨j + 1, by omega, by go_num, rfl, HW.out, HMore.out HPl.out⟩
            case measure => simp [intOf]; omega
          · obtain ⟨i, hi⟩ : ∃ i, i + 1 = j := ⟨j - 1, by omega⟩
            have hg : decide ((200 : Int) < (x.x.size : Int)) = false := decide_eq_false (by omega)
            have hz : decide (0 < j) = true := decide_eq_true (by omega)
            have hpl := HStep.out i hi
            rw [if_pos hsz] at hpl
            have hci := (HCu.out i (by rw [HN.out]; omega)).below (HB.out.trans hBy) hb1u
            have hb1y : b1 < wy.heap.size := by have := hBy.size; omega
            generalize nthE l i = z at *
            have n0 : ∀ s' : Later wy.heap.size wy, s'.W.cell? ⟨b1, o1 + i * 4, none⟩ = some _ := fun s' => s'.cell hci.s hb1y
            have n1 : ∀ s' : Later wy.heap.size wy, s'.W.cell? ⟨b1, o1 + i * 4 + 1, none⟩ = some _ := fun s' => s'.cell hci.t hb1y
            have n2 : ∀ s' : Later wy.heap.size wy, s'.W.cell? ⟨b1, o1 + i * 4 + 2, none⟩ = some _ := fun s' => s'.cell hci.x hb1y
            have n3 : ∀ s' : Later wy.heap.size wy, s'.W.cell? ⟨b1, o1 + i * 4 + 3, none⟩ = some _ := fun s' => s'.cell hci.m hb1y
            have HSt := Lib.hid (fun W => isStep_any z x W)
            unfold Ent.val at HSt
            obtain ⟨q, hq⟩ : ∃ q, stepE z x = q := ⟨_, rfl⟩
            rw [hq] at hpl HSt
            have HPl := Lib.hid hpl
            have hw1 : IntKind.i64.wrap ((j : Int) - 1) = (i : Int) := by rw [IntKind.wrap_i64]; omega
            have hw2 : (j : Int) - 1 = (i : Int) := by omega
            have hi0 : (0 : Int) ≤ (i : Int) := by omega
            have hiN : (i : Int) < (N : Int) := by omega
            have hit : ((i : Int)).toNat = i := by omega
            clear hq hpl hci hi
            cases q with
            | true =>
              refine wp_region_later wy.heap.size (by kernel_rfl) (by kernel_rfl) ?_
              repeat (go_big_quiet_step ((go_at_call 32; with_reducible exact Calls.later (Nat.le_refl _) (HSt.out _))))
              refine wpQuiet_nil ?_
              rintro _ ⟨s', rfl⟩
              clear m0 m1 m2 m3 ml n0 n1 n2 n3
              have hBw := HB.out.trans (hBy.trans (s'.below.mono (Nat.le_trans HB.out.size hBy.size)))
              have HW := Lib.hid hBw
              clear hBw
              clear hw1 hw2
              go_wp2_with fail
              go_roundw
              case rel => exact ⟨j + 1, by omega, by go_num, rfl, HW.out, HMore.out HPl.out⟩
              case measure => simp [intOf]; omega
            | false =>
              refine wp_region_later wy.heap.size (by kernel_rfl) (by kernel_rfl) ?_
              repeat (go_big_quiet_step ((go_at_call 32; with_reducible exact Calls.later (Nat.le_refl _) (HSt.out _))))
              refine wpQuiet_nil ?_
              rintro _ ⟨s', rfl⟩
              clear m0 m1 m2 m3 ml n0 n1 n2 n3
              have hBw := HB.out.trans (hBy.trans (s'.below.mono (Nat.le_trans HB.out.size hBy.size)))
              have HW := Lib.hid hBw
              clear hBw
              clear hw1 hw2
              have HU := Lib.hid (HBad.out HPl.out)
              have hBe := HW.out
              have kk1 := keep kk hBe
              have kl1 := keep kl hBe
              have kf1 := keep kf hBe
              have xk0 := cell_at kk1 0
              have xk1 := cell_at kk1 1
              have xl0 := cell_at kl1 0
              have xl1 := cell_at kl1 1
              have HAe := Lib.hid (hAu.later hBe)
              have HBe := Lib.hid hBe
              clear hBe
              go_wp2_with fail
              with_reducible refine (HCh.out _ HAe.out).mono ?_
              rintro e w5 ⟨rfl, hB5⟩
              have kl2 := keep kl1 hB5
              have kf2 := keep kf1 hB5
              have xm0 := cell_at kl2 0
              have xf0 := cell_at kf2 0
              have HF := Lib.hid (HB0.out.trans ((HBe.out.trans (hB5.mono HBe.out.size)).mono HB0.out.size))
              have hp0 := HP0.out
              have hd0 := HD0.out
              have hd1 := HD1.out
              clear xk0 xk1 xl0 xl1 hB5 kk1 kl1 kf1 kl2 kf2
              cases D with
              | false =>
                go_wp2_with fail
                rw [Exit.noGoto_ret]
                go_ret
                exact ⟨ret_bool (by rw [HE.out, HU.out]; simp), HF.out⟩
              | true =>
                go_wp2_with fail
                rw [Exit.noGoto_ret]
                go_ret
                exact ⟨ret_bool (by rw [HE.out, HU.out]; simp), HF.out⟩
        · have hg : decide ((200 : Int) < (x.x.size : Int)) = true := decide_eq_true (by omega)
          have HU := Lib.hid (HBad.out (HLong.out hsz))
          refine wp_region_later wy.heap.size (by kernel_rfl) (by kernel_rfl) ?_
          repeat (go_big_quiet_step (fail))
          refine wpQuiet_nil ?_
          rintro _ ⟨s', rfl⟩
          clear m0 m1 m2 m3 ml
          have hBw := HB.out.trans (hBy.trans (s'.below.mono (Nat.le_trans HB.out.size hBy.size)))
          have HW := Lib.hid hBw
          clear hBw
          have hBe := HW.out
          have kk1 := keep kk hBe
          have kl1 := keep kl hBe
          have kf1 := keep kf hBe
          have xk0 := cell_at kk1 0
          have xk1 := cell_at kk1 1
          have xl0 := cell_at kl1 0
          have xl1 := cell_at kl1 1
          have HAe := Lib.hid (hAu.later hBe)
          have HBe := Lib.hid hBe
          clear hBe
          go_wp2_with fail
          with_reducible refine (HCh.out _ HAe.out).mono ?_
          rintro e w5 ⟨rfl, hB5⟩
          have kl2 := keep kl1 hB5
          have kf2 := keep kf1 hB5
          have xm0 := cell_at kl2 0
          have xf0 := cell_at kf2 0
          have HF := Lib.hid (HB0.out.trans ((HBe.out.trans (hB5.mono HBe.out.size)).mono HB0.out.size))
          have hp0 := HP0.out
          have hd0 := HD0.out
          have hd1 := HD1.out
          clear xk0 xk1 xl0 xl1 hB5 kk1 kl1 kf1 kl2 kf2
          cases D with
          | false =>
            go_wp2_with fail
            rw [Exit.noGoto_ret]
            go_ret
            exact ⟨ret_bool (by rw [HE.out, HU.out]; simp), HF.out⟩
          | true =>
            go_wp2_with fail
            rw [Exit.noGoto_ret]
            go_ret
            exact ⟨ret_bool (by rw [HE.out, HU.out]; simp), HF.out⟩
      · have hallu : upTo (placeE l) N = N := upTo_all.2 (fun i hi => HAll.out i (by omega))
        have HU := Lib.hid (decide_eq_true hallu)
        clear hallu
        have hBe := hB
        have kk1 := keep kk hBe
        have kl1 := keep kl hBe
        have kf1 := keep kf hBe
        have xk0 := cell_at kk1 0
        have xk1 := cell_at kk1 1
        have xl0 := cell_at kl1 0
        have xl1 := cell_at kl1 1
        have HAe := Lib.hid (hAu.later hBe)
        have HBe := Lib.hid hBe
        clear hBe
        go_wp2_with fail
        with_reducible refine (HCh.out _ HAe.out).mono ?_
        rintro e w5 ⟨rfl, hB5⟩
        have kl2 := keep kl1 hB5
        have kf2 := keep kf1 hB5
        have xm0 := cell_at kl2 0
        have xf0 := cell_at kf2 0
        have HF := Lib.hid (HB0.out.trans ((HBe.out.trans (hB5.mono HBe.out.size)).mono HB0.out.size))
        have hp0 := HP0.out
        have hd0 := HD0.out
        have hd1 := HD1.out
        clear xk0 xk1 xl0 xl1 hB5 kk1 kl1 kf1 kl2 kf2
        cases D with
        | false =>
          go_wp2_with fail
          rw [Exit.noGoto_ret]
          go_ret
          exact ⟨ret_bool (by rw [HE.out, HU.out]; simp), HF.out⟩
        | true =>
          cases L30 with
          | false =>
            go_wp2_with fail
            rw [Exit.noGoto_ret]
            go_ret
            exact ⟨ret_bool (by rw [HE.out, HU.out]; simp), HF.out⟩
          | true =>
            cases F0 with
            | false =>
              go_wp2_with fail
              rw [Exit.noGoto_ret]
              go_ret
              exact ⟨ret_bool (by rw [HE.out, HU.out]; simp), HF.out⟩
            | true =>
              cases F1 with
              | true =>
                go_wp2_with fail
                rw [Exit.noGoto_ret]
                go_ret
                exact ⟨ret_bool (by rw [HE.out, HU.out]; simp), HF.out⟩
              | false =>
                go_wp2_with fail
                rw [Exit.noGoto_ret]
                go_ret
                exact ⟨ret_bool (by rw [HE.out, HU.out]; simp), HF.out⟩
end Go.Proofs.Ytdhbomipffidlaa
