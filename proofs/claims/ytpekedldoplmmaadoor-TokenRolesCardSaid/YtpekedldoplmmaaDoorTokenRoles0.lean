/-
  The walk of TokenRoles. Printed by gen_tokl.py.
-/
import Derived.Test.YtpekedldoplmmaaDoorTokL
namespace Go.Proofs.YtpekedldoplmmaaDoor
open Go.RowKit Go.Shelf

theorem roles_law (role op : Int) : mayB 3 op = (decide (1 ≤ op) && decide (op ≤ 7)) ∧ mayB role 7 = (decide (1 ≤ role) && decide (role ≤ 3)) ∧ (mayB role op = true → 1 ≤ op ∧ op ≤ 7 ∧ 1 ≤ role ∧ role ≤ 3) := by
  refine ⟨by unfold mayB; simp, ?_, ?_⟩
  · by_cases h1 : role = 1
    · subst h1; decide
    by_cases h2 : role = 2
    · subst h2; decide
    by_cases h3 : role = 3
    · subst h3; decide
    have e : mayB role 7 = false := by unfold mayB; simp [h1, h2, h3]
    rw [e]
    symm
    rw [Bool.and_eq_false_iff, decide_eq_false_iff_not, decide_eq_false_iff_not]
    omega
  · unfold mayB
    intro h
    simp only [Bool.or_eq_true, Bool.and_eq_true, beq_iff_eq, decide_eq_true_iff] at h
    omega
set_option maxRecDepth 100000 in
set_option maxHeartbeats 4000000 in
theorem walk_TokenRoles (a0 b0 : Addr) (role op : Int) (w : World) (hS : Sent a0 b0 w.heap.size w) :
    Calls Tryd.prog 4 #[.int .i64 role, .int .i64 op] w fun e w' => e = .returned (.bool true) ∧ Below w.heap.size w w' := by
  obtain ⟨l1, l2, l3⟩ := roles_law role op
  have HS := Lib.hid hS
  have HA := Lib.hid (fun W => May_any role op W)
  have HB' := Lib.hid (fun W => May_any 3 op W)
  have HC' := Lib.hid (fun W => May_any role 7 W)
  rw [l1] at HB'
  rw [l2] at HC'
  generalize mayB role op = m at *
  clear hS l1 l2
  by_cases o1 : 1 ≤ op
  · by_cases o7 : op ≤ 7
    · rw [decide_eq_true o1, decide_eq_true o7] at HB'
      by_cases r1 : 1 ≤ role
      · by_cases r3 : role ≤ 3
        · rw [decide_eq_true r1, decide_eq_true r3] at HC'
          clear l3
          cases m with
          | true =>
            go_enter Tryd.func4, Tryd.ntmps4
            have hB : Below w.heap.size w w := Below.refl _ w
            go_wp2_with fail
            refine (shown_any a0 b0 w.heap.size _ (HS.out.later hB)).mono ?_
            rintro e u1 ⟨rfl, hC⟩
            replace hB := hB.trans (hC.mono hB.size)
            clear hC
            go_wp2_with fail
            refine (HA.out _).mono ?_
            rintro e u2 ⟨rfl, hC⟩
            replace hB := hB.trans (hC.mono hB.size)
            clear hC
            go_wp2_with fail
            refine (HB'.out _).mono ?_
            rintro e u3 ⟨rfl, hC⟩
            replace hB := hB.trans (hC.mono hB.size)
            clear hC
            go_wp2_with fail
            refine (HC'.out _).mono ?_
            rintro e u4 ⟨rfl, hC⟩
            replace hB := hB.trans (hC.mono hB.size)
            clear hC
            go_wp2_with fail
            go_ret
            exact ⟨rfl, hB⟩
          | false =>
            go_enter Tryd.func4, Tryd.ntmps4
            have hB : Below w.heap.size w w := Below.refl _ w
            go_wp2_with fail
            refine (shown_any a0 b0 w.heap.size _ (HS.out.later hB)).mono ?_
            rintro e u1 ⟨rfl, hC⟩
            replace hB := hB.trans (hC.mono hB.size)
            clear hC
            go_wp2_with fail
            refine (HA.out _).mono ?_
            rintro e u2 ⟨rfl, hC⟩
            replace hB := hB.trans (hC.mono hB.size)
            clear hC
            go_wp2_with fail
            refine (HB'.out _).mono ?_
            rintro e u3 ⟨rfl, hC⟩
            replace hB := hB.trans (hC.mono hB.size)
            clear hC
            go_wp2_with fail
            refine (HC'.out _).mono ?_
            rintro e u4 ⟨rfl, hC⟩
            replace hB := hB.trans (hC.mono hB.size)
            clear hC
            go_wp2_with fail
            go_ret
            exact ⟨rfl, hB⟩
        · rw [decide_eq_true r1, decide_eq_false r3] at HC'
          have dr3 : decide (role ≤ 3) = false := decide_eq_false r3
          cases m with
          | true => exact absurd (l3 rfl) (by omega)
          | false =>
            clear l3
            go_enter Tryd.func4, Tryd.ntmps4
            have hB : Below w.heap.size w w := Below.refl _ w
            go_wp2_with fail
            refine (shown_any a0 b0 w.heap.size _ (HS.out.later hB)).mono ?_
            rintro e u1 ⟨rfl, hC⟩
            replace hB := hB.trans (hC.mono hB.size)
            clear hC
            go_wp2_with fail
            refine (HA.out _).mono ?_
            rintro e u2 ⟨rfl, hC⟩
            replace hB := hB.trans (hC.mono hB.size)
            clear hC
            go_wp2_with fail
            refine (HB'.out _).mono ?_
            rintro e u3 ⟨rfl, hC⟩
            replace hB := hB.trans (hC.mono hB.size)
            clear hC
            go_wp2_with fail
            refine (HC'.out _).mono ?_
            rintro e u4 ⟨rfl, hC⟩
            replace hB := hB.trans (hC.mono hB.size)
            clear hC
            go_wp2_with fail
            go_ret
            exact ⟨rfl, hB⟩
      · rw [decide_eq_false r1] at HC'
        have dr1 : decide (1 ≤ role) = false := decide_eq_false r1
        cases m with
        | true => exact absurd (l3 rfl) (by omega)
        | false =>
          clear l3
          go_enter Tryd.func4, Tryd.ntmps4
          have hB : Below w.heap.size w w := Below.refl _ w
          go_wp2_with fail
          refine (shown_any a0 b0 w.heap.size _ (HS.out.later hB)).mono ?_
          rintro e u1 ⟨rfl, hC⟩
          replace hB := hB.trans (hC.mono hB.size)
          clear hC
          go_wp2_with fail
          refine (HA.out _).mono ?_
          rintro e u2 ⟨rfl, hC⟩
          replace hB := hB.trans (hC.mono hB.size)
          clear hC
          go_wp2_with fail
          refine (HB'.out _).mono ?_
          rintro e u3 ⟨rfl, hC⟩
          replace hB := hB.trans (hC.mono hB.size)
          clear hC
          go_wp2_with fail
          refine (HC'.out _).mono ?_
          rintro e u4 ⟨rfl, hC⟩
          replace hB := hB.trans (hC.mono hB.size)
          clear hC
          go_wp2_with fail
          go_ret
          exact ⟨rfl, hB⟩
    · rw [decide_eq_true o1, decide_eq_false o7] at HB'
      have do7 : decide (op ≤ 7) = false := decide_eq_false o7
      by_cases r1 : 1 ≤ role
      · by_cases r3 : role ≤ 3
        · rw [decide_eq_true r1, decide_eq_true r3] at HC'
          cases m with
          | true => exact absurd (l3 rfl) (by omega)
          | false =>
            clear l3
            go_enter Tryd.func4, Tryd.ntmps4
            have hB : Below w.heap.size w w := Below.refl _ w
            go_wp2_with fail
            refine (shown_any a0 b0 w.heap.size _ (HS.out.later hB)).mono ?_
            rintro e u1 ⟨rfl, hC⟩
            replace hB := hB.trans (hC.mono hB.size)
            clear hC
            go_wp2_with fail
            refine (HA.out _).mono ?_
            rintro e u2 ⟨rfl, hC⟩
            replace hB := hB.trans (hC.mono hB.size)
            clear hC
            go_wp2_with fail
            refine (HB'.out _).mono ?_
            rintro e u3 ⟨rfl, hC⟩
            replace hB := hB.trans (hC.mono hB.size)
            clear hC
            go_wp2_with fail
            refine (HC'.out _).mono ?_
            rintro e u4 ⟨rfl, hC⟩
            replace hB := hB.trans (hC.mono hB.size)
            clear hC
            go_wp2_with fail
            go_ret
            exact ⟨rfl, hB⟩
        · rw [decide_eq_true r1, decide_eq_false r3] at HC'
          have dr3 : decide (role ≤ 3) = false := decide_eq_false r3
          cases m with
          | true => exact absurd (l3 rfl) (by omega)
          | false =>
            clear l3
            go_enter Tryd.func4, Tryd.ntmps4
            have hB : Below w.heap.size w w := Below.refl _ w
            go_wp2_with fail
            refine (shown_any a0 b0 w.heap.size _ (HS.out.later hB)).mono ?_
            rintro e u1 ⟨rfl, hC⟩
            replace hB := hB.trans (hC.mono hB.size)
            clear hC
            go_wp2_with fail
            refine (HA.out _).mono ?_
            rintro e u2 ⟨rfl, hC⟩
            replace hB := hB.trans (hC.mono hB.size)
            clear hC
            go_wp2_with fail
            refine (HB'.out _).mono ?_
            rintro e u3 ⟨rfl, hC⟩
            replace hB := hB.trans (hC.mono hB.size)
            clear hC
            go_wp2_with fail
            refine (HC'.out _).mono ?_
            rintro e u4 ⟨rfl, hC⟩
            replace hB := hB.trans (hC.mono hB.size)
            clear hC
            go_wp2_with fail
            go_ret
            exact ⟨rfl, hB⟩
      · rw [decide_eq_false r1] at HC'
        have dr1 : decide (1 ≤ role) = false := decide_eq_false r1
        cases m with
        | true => exact absurd (l3 rfl) (by omega)
        | false =>
          clear l3
          go_enter Tryd.func4, Tryd.ntmps4
          have hB : Below w.heap.size w w := Below.refl _ w
          go_wp2_with fail
          refine (shown_any a0 b0 w.heap.size _ (HS.out.later hB)).mono ?_
          rintro e u1 ⟨rfl, hC⟩
          replace hB := hB.trans (hC.mono hB.size)
          clear hC
          go_wp2_with fail
          refine (HA.out _).mono ?_
          rintro e u2 ⟨rfl, hC⟩
          replace hB := hB.trans (hC.mono hB.size)
          clear hC
          go_wp2_with fail
          refine (HB'.out _).mono ?_
          rintro e u3 ⟨rfl, hC⟩
          replace hB := hB.trans (hC.mono hB.size)
          clear hC
          go_wp2_with fail
          refine (HC'.out _).mono ?_
          rintro e u4 ⟨rfl, hC⟩
          replace hB := hB.trans (hC.mono hB.size)
          clear hC
          go_wp2_with fail
          go_ret
          exact ⟨rfl, hB⟩
  · rw [decide_eq_false o1] at HB'
    have do1 : decide (1 ≤ op) = false := decide_eq_false o1
    by_cases r1 : 1 ≤ role
    · by_cases r3 : role ≤ 3
      · rw [decide_eq_true r1, decide_eq_true r3] at HC'
        cases m with
        | true => exact absurd (l3 rfl) (by omega)
        | false =>
          clear l3
          go_enter Tryd.func4, Tryd.ntmps4
          have hB : Below w.heap.size w w := Below.refl _ w
          go_wp2_with fail
          refine (shown_any a0 b0 w.heap.size _ (HS.out.later hB)).mono ?_
          rintro e u1 ⟨rfl, hC⟩
          replace hB := hB.trans (hC.mono hB.size)
          clear hC
          go_wp2_with fail
          refine (HA.out _).mono ?_
          rintro e u2 ⟨rfl, hC⟩
          replace hB := hB.trans (hC.mono hB.size)
          clear hC
          go_wp2_with fail
          refine (HB'.out _).mono ?_
          rintro e u3 ⟨rfl, hC⟩
          replace hB := hB.trans (hC.mono hB.size)
          clear hC
          go_wp2_with fail
          refine (HC'.out _).mono ?_
          rintro e u4 ⟨rfl, hC⟩
          replace hB := hB.trans (hC.mono hB.size)
          clear hC
          go_wp2_with fail
          go_ret
          exact ⟨rfl, hB⟩
      · rw [decide_eq_true r1, decide_eq_false r3] at HC'
        have dr3 : decide (role ≤ 3) = false := decide_eq_false r3
        cases m with
        | true => exact absurd (l3 rfl) (by omega)
        | false =>
          clear l3
          go_enter Tryd.func4, Tryd.ntmps4
          have hB : Below w.heap.size w w := Below.refl _ w
          go_wp2_with fail
          refine (shown_any a0 b0 w.heap.size _ (HS.out.later hB)).mono ?_
          rintro e u1 ⟨rfl, hC⟩
          replace hB := hB.trans (hC.mono hB.size)
          clear hC
          go_wp2_with fail
          refine (HA.out _).mono ?_
          rintro e u2 ⟨rfl, hC⟩
          replace hB := hB.trans (hC.mono hB.size)
          clear hC
          go_wp2_with fail
          refine (HB'.out _).mono ?_
          rintro e u3 ⟨rfl, hC⟩
          replace hB := hB.trans (hC.mono hB.size)
          clear hC
          go_wp2_with fail
          refine (HC'.out _).mono ?_
          rintro e u4 ⟨rfl, hC⟩
          replace hB := hB.trans (hC.mono hB.size)
          clear hC
          go_wp2_with fail
          go_ret
          exact ⟨rfl, hB⟩
    · rw [decide_eq_false r1] at HC'
      have dr1 : decide (1 ≤ role) = false := decide_eq_false r1
      cases m with
      | true => exact absurd (l3 rfl) (by omega)
      | false =>
        clear l3
        go_enter Tryd.func4, Tryd.ntmps4
        have hB : Below w.heap.size w w := Below.refl _ w
        go_wp2_with fail
        refine (shown_any a0 b0 w.heap.size _ (HS.out.later hB)).mono ?_
        rintro e u1 ⟨rfl, hC⟩
        replace hB := hB.trans (hC.mono hB.size)
        clear hC
        go_wp2_with fail
        refine (HA.out _).mono ?_
        rintro e u2 ⟨rfl, hC⟩
        replace hB := hB.trans (hC.mono hB.size)
        clear hC
        go_wp2_with fail
        refine (HB'.out _).mono ?_
        rintro e u3 ⟨rfl, hC⟩
        replace hB := hB.trans (hC.mono hB.size)
        clear hC
        go_wp2_with fail
        refine (HC'.out _).mono ?_
        rintro e u4 ⟨rfl, hC⟩
        replace hB := hB.trans (hC.mono hB.size)
        clear hC
        go_wp2_with fail
        go_ret
        exact ⟨rfl, hB⟩
end Go.Proofs.YtpekedldoplmmaaDoor
