/-
  What roles may do: May of package token and of the reference.
-/
import Derived.Test.YtpekedldoplmmaaDoorFldZ
import Derived.Test.YtpekedldoplmmaaDoorLater
import Derived.Test.YtpekedldoplmmaaDoorFldE
import Derived.Test.YtpekedldoplmmaaDoorFldN
import Derived.MapKept
import Derived.Carry
namespace Go.Proofs.YtpekedldoplmmaaDoor
open Go.RowKit

theorem upd_int {P : Program} {w : World} (mty kt et : TypeId) (r clock : Nat) (es : Array MapEntry) (kk : Int) (val : Value) (hm : P.underlying mty = some (.map kt et)) (hk : P.underlying kt = some (.int .i64)) (hb : w.heap[r]? = some (.map es clock))
    (hf : Instr.findNow (.int .i64) (.int .i64 kk) es.toList 0 = some none) :
    (Instr.mapUpdate mty (.map (some r)) (.int .i64 kk) val).run P w = .ok () { w with heap := w.heap.setIfInBounds r (.map (es.push { key := .int .i64 kk, val := val, born := clock }) (clock + 1)) } := by
  have hc : (Instr.checkKey false 10000 kt (.int .i64 kk)).run P w = .ok () w := MapKept.run_checkKey hk (by simp [MapKept.IsKey]) false 9999
  simp [Instr.mapUpdate, run_underlying hm, MapKept.run_getObj_map hb, hc, MapKept.run_findKey hk hf, MapKept.run_setObj_map _ hb, Result.andThen]
theorem look_int {P : Program} {w : World} (mty kt et : TypeId) (r clock : Nat) (es : Array MapEntry) (kk : Int) (i : Nat) (v : Value) (hm : P.underlying mty = some (.map kt et)) (hk : P.underlying kt = some (.int .i64)) (hb : w.heap[r]? = some (.map es clock))
    (hf : Instr.findNow (.int .i64) (.int .i64 kk) es.toList 0 = some (some (i, v))) : (Instr.lookup mty (.map (some r)) (.int .i64 kk) false).run P w = .ok v w := by
  have hc : (Instr.checkKey es.isEmpty 10000 kt (.int .i64 kk)).run P w = .ok () w := MapKept.run_checkKey hk (by simp [MapKept.IsKey]) _ 9999
  simp [Instr.lookup, run_underlying hm, MapKept.run_getObj_map hb, hc, MapKept.run_findKey hk hf, Result.andThen]
theorem look_none {P : Program} {w : World} (mty kt et : TypeId) (r clock : Nat) (es : Array MapEntry) (kk : Int) (z : Value) (hm : P.underlying mty = some (.map kt et)) (hk : P.underlying kt = some (.int .i64)) (hb : w.heap[r]? = some (.map es clock))
    (hf : Instr.findNow (.int .i64) (.int .i64 kk) es.toList 0 = some none) (hz : (zeroValue et).run P w = .ok z w) : (Instr.lookup mty (.map (some r)) (.int .i64 kk) false).run P w = .ok z w := by
  have hc : (Instr.checkKey es.isEmpty 10000 kt (.int .i64 kk)).run P w = .ok () w := MapKept.run_checkKey hk (by simp [MapKept.IsKey]) _ 9999
  simp [Instr.lookup, run_underlying hm, MapKept.run_getObj_map hb, hc, MapKept.run_findKey hk hf, hz, Result.andThen]
theorem alloc_set (w : World) (o o' : Obj) : ({ w.alloc o with heap := (w.alloc o).heap.setIfInBounds w.heap.size o' } : World) = w.alloc o' := by
  have e : (w.alloc o).heap.setIfInBounds w.heap.size o' = (w.alloc o').heap := by
    show (w.heap.push o).setIfInBounds w.heap.size o' = w.heap.push o'
    refine Array.ext_getElem? fun i => ?_
    rw [Array.getElem?_setIfInBounds, Array.getElem?_push, Array.getElem?_push]
    by_cases hi : w.heap.size = i
    · subst hi
      simp
    · have hi' : ¬ i = w.heap.size := fun h => hi h.symm
      rw [if_neg hi, if_neg hi', if_neg hi']
  unfold World.alloc at *
  simp only at e
  rw [e]

/-- What a role may do. -/
def mayB (role op : Int) : Bool := (role == 1 && (op == 1 || op == 7)) || (role == 2 && (op == 2 || (op == 3 || (op == 6 || op == 7)))) || (role == 3 && (decide (1 ≤ op) && decide (op ≤ 7)))

set_option maxRecDepth 100000 in
set_option maxHeartbeats 4000000 in
theorem contains4 (b : Nat) (T : TypeId) (x0 x1 x2 x3 v : Int) (w : World) (h : w.heap[b]? = some (.cells #[.int .i64 x0, .int .i64 x1, .int .i64 x2, .int .i64 x3] T (0, 0))) :
    Calls Tryd.prog 27 #[.slice (some ⟨b, 0, none⟩) 4 4, .int .i64 v] w fun e w' => e = .returned (.bool (v == x0 || (v == x1 || (v == x2 || v == x3)))) ∧ w' = w := by
  have c0 : w.cell? ⟨b, 0, none⟩ = some (.int .i64 x0) := by simp [World.cell?, h]
  have c1 : w.cell? ⟨b, 1, none⟩ = some (.int .i64 x1) := by simp [World.cell?, h]
  have c2 : w.cell? ⟨b, 2, none⟩ = some (.int .i64 x2) := by simp [World.cell?, h]
  have c3 : w.cell? ⟨b, 3, none⟩ = some (.int .i64 x3) := by simp [World.cell?, h]
  have idx : ∃ n : Int, (Calls Tryd.prog 41 #[.slice (some ⟨b, 0, none⟩) 4 4, .int .i64 v] w fun e w' => e = .returned (.int .i64 n) ∧ w' = w) ∧ (decide (0 ≤ n) = (v == x0 || (v == x1 || (v == x2 || v == x3)))) := by
    cases h0 : v == x0 with
    | true =>
      refine ⟨0, ?_, by simp⟩
      go_enter Tryd.func41, Tryd.ntmps41
      go_wp2_with fail
      refine wp_loop_rounds 5 ?_
      rw [rounds_succ]
      go_wp2_with fail
      go_ret
      exact ⟨rfl, rfl⟩
    | false =>
      cases h1 : v == x1 with
      | true =>
        refine ⟨1, ?_, by simp⟩
        go_enter Tryd.func41, Tryd.ntmps41
        go_wp2_with fail
        refine wp_loop_rounds 5 ?_
        rw [rounds_succ]
        go_wp2_with fail
        rw [rounds_succ]
        go_wp2_with fail
        go_ret
        exact ⟨rfl, rfl⟩
      | false =>
        cases h2 : v == x2 with
        | true =>
          refine ⟨2, ?_, by simp⟩
          go_enter Tryd.func41, Tryd.ntmps41
          go_wp2_with fail
          refine wp_loop_rounds 5 ?_
          rw [rounds_succ]
          go_wp2_with fail
          rw [rounds_succ]
          go_wp2_with fail
          rw [rounds_succ]
          go_wp2_with fail
          go_ret
          exact ⟨rfl, rfl⟩
        | false =>
          cases h3 : v == x3 with
          | true =>
            refine ⟨3, ?_, by simp⟩
            go_enter Tryd.func41, Tryd.ntmps41
            go_wp2_with fail
            refine wp_loop_rounds 5 ?_
            rw [rounds_succ]
            go_wp2_with fail
            rw [rounds_succ]
            go_wp2_with fail
            rw [rounds_succ]
            go_wp2_with fail
            rw [rounds_succ]
            go_wp2_with fail
            go_ret
            exact ⟨rfl, rfl⟩
          | false =>
            refine ⟨-1, ?_, by simp⟩
            go_enter Tryd.func41, Tryd.ntmps41
            go_wp2_with fail
            refine wp_loop_rounds 5 ?_
            rw [rounds_succ]
            go_wp2_with fail
            rw [rounds_succ]
            go_wp2_with fail
            rw [rounds_succ]
            go_wp2_with fail
            rw [rounds_succ]
            go_wp2_with fail
            rw [rounds_succ]
            go_wp2_with fail
            go_ret
            exact ⟨rfl, rfl⟩
  obtain ⟨n, hc, hn⟩ := idx
  rw [← hn]
  have HC := Lib.hid hc
  clear hc hn c0 c1 c2 c3 h
  go_enter Tryd.func27, Tryd.ntmps27
  go_wp2_with fail
  with_reducible refine HC.out.mono ?_
  rintro e w1 ⟨rfl, rfl⟩
  go_wp2_with fail
  go_ret
  exact ⟨rfl, rfl⟩
/-- The four that a role may do, but an admin. -/
def fourOf (role : Int) : Int × Int × Int × Int := if role = 1 then (1, 7, 0, 0) else if role = 2 then (2, 3, 6, 7) else (0, 0, 0, 0)
theorem may_four (role op : Int) (h : role ≠ 3) : mayB role op = (op != 0 && (op == (fourOf role).1 || (op == (fourOf role).2.1 || (op == (fourOf role).2.2.1 || op == (fourOf role).2.2.2)))) := by
  unfold mayB fourOf
  have h3 : (role == 3) = false := by rw [beq_eq_false_iff_ne]; exact h
  rw [h3]
  by_cases e0 : op = 0
  · subst e0
    by_cases h1 : role = 1
    · subst h1; rfl
    · by_cases h2 : role = 2
      · subst h2; rfl
      · have q1 : (role == 1) = false := by rw [beq_eq_false_iff_ne]; exact h1
        have q2 : (role == 2) = false := by rw [beq_eq_false_iff_ne]; exact h2
        rw [q1, q2]; rfl
  · have k0 : (op == 0) = false := by rw [beq_eq_false_iff_ne]; exact e0
    have k1 : (op != 0) = true := by rw [bne_iff_ne]; exact e0
    by_cases h1 : role = 1
    · subst h1
      rw [if_pos rfl]
      dsimp only
      rw [k0, k1]
      generalize (op == 1) = a
      generalize (op == 7) = b
      generalize (op == 2) = c
      generalize (op == 3) = d
      generalize (op == 6) = e
      cases a <;> cases b <;> cases c <;> cases d <;> cases e <;> rfl
    · by_cases h2 : role = 2
      · subst h2
        rw [if_neg (by decide), if_pos rfl]
        dsimp only
        rw [k1]
        generalize (op == 1) = a
        generalize (op == 7) = b
        generalize (op == 2) = c
        generalize (op == 3) = d
        generalize (op == 6) = e
        cases a <;> cases b <;> cases c <;> cases d <;> cases e <;> rfl
      · have q1 : (role == 1) = false := by rw [beq_eq_false_iff_ne]; exact h1
        have q2 : (role == 2) = false := by rw [beq_eq_false_iff_ne]; exact h2
        rw [if_neg h1, if_neg h2, q1, q2]
        dsimp only
        rw [k0, k1]
        rfl
set_option maxRecDepth 100000 in
set_option maxHeartbeats 4000000 in
theorem May_any (role op : Int) (w : World) : Calls Tryd.prog 12 #[.int .i64 role, .int .i64 op] w fun e w' => e = .returned (.bool (mayB role op)) ∧ Below w.heap.size w w' := by
  have hmm := @run_makeMap Tryd.prog
  have u1 : (Instr.mapUpdate 58 (.map (some w.heap.size)) (.int .i64 1) (.agg #[.int .i64 1, .int .i64 7, .int .i64 0, .int .i64 0])).run Tryd.prog (w.alloc (.map #[] 0)) = .ok () (w.alloc (.map #[{ key := .int .i64 1, val := .agg #[.int .i64 1, .int .i64 7, .int .i64 0, .int .i64 0], born := 0 }] 1)) := by
    rw [upd_int 58 3 57 w.heap.size 0 #[] 1 _ Tryd.underlying58 Tryd.underlying3 (new_at w _ _ rfl) rfl, alloc_set]
    rfl
  have u2 : (Instr.mapUpdate 58 (.map (some w.heap.size)) (.int .i64 2) (.agg #[.int .i64 2, .int .i64 3, .int .i64 6, .int .i64 7])).run Tryd.prog (w.alloc (.map #[{ key := .int .i64 1, val := .agg #[.int .i64 1, .int .i64 7, .int .i64 0, .int .i64 0], born := 0 }] 1)) = .ok () (w.alloc (.map #[{ key := .int .i64 1, val := .agg #[.int .i64 1, .int .i64 7, .int .i64 0, .int .i64 0], born := 0 }, { key := .int .i64 2, val := .agg #[.int .i64 2, .int .i64 3, .int .i64 6, .int .i64 7], born := 1 }] 2)) := by
    rw [upd_int 58 3 57 w.heap.size 1 #[{ key := .int .i64 1, val := .agg #[.int .i64 1, .int .i64 7, .int .i64 0, .int .i64 0], born := 0 }] 2 _ Tryd.underlying58 Tryd.underlying3 (new_at w _ _ rfl) rfl, alloc_set]
    rfl
  have lk : (Instr.lookup 58 (.map (some w.heap.size)) (.int .i64 role) false).run Tryd.prog (w.alloc (.map #[{ key := .int .i64 1, val := .agg #[.int .i64 1, .int .i64 7, .int .i64 0, .int .i64 0], born := 0 }, { key := .int .i64 2, val := .agg #[.int .i64 2, .int .i64 3, .int .i64 6, .int .i64 7], born := 1 }] 2)) = .ok (.agg #[.int .i64 (fourOf role).1, .int .i64 (fourOf role).2.1, .int .i64 (fourOf role).2.2.1, .int .i64 (fourOf role).2.2.2]) (w.alloc (.map #[{ key := .int .i64 1, val := .agg #[.int .i64 1, .int .i64 7, .int .i64 0, .int .i64 0], born := 0 }, { key := .int .i64 2, val := .agg #[.int .i64 2, .int .i64 3, .int .i64 6, .int .i64 7], born := 1 }] 2)) := by
    by_cases h1 : role = 1
    · subst h1
      exact look_int 58 3 57 w.heap.size 2 _ 1 0 _ Tryd.underlying58 Tryd.underlying3 (new_at w _ _ rfl) rfl
    · by_cases h2 : role = 2
      · subst h2
        exact look_int 58 3 57 w.heap.size 2 _ 2 1 _ Tryd.underlying58 Tryd.underlying3 (new_at w _ _ rfl) rfl
      · have e : fourOf role = (0, 0, 0, 0) := by unfold fourOf; rw [if_neg h1, if_neg h2]
        rw [e]
        refine look_none 58 3 57 w.heap.size 2 _ role _ Tryd.underlying58 Tryd.underlying3 (new_at w _ _ rfl) ?_ (by kernel_rfl)
        have q1 : (1 == role) = false := by rw [beq_eq_false_iff_ne]; exact fun h => h1 h.symm
        have q2 : (2 == role) = false := by rw [beq_eq_false_iff_ne]; exact fun h => h2 h.symm
        have q3 : (role == 1) = false := by rw [beq_eq_false_iff_ne]; exact h1
        have q4 : (role == 2) = false := by rw [beq_eq_false_iff_ne]; exact h2
        simp [Instr.findNow, Instr.sameNow, q3, q4]
  by_cases h3 : role = 3
  · have k3 : (role == 3) = true := by rw [beq_iff_eq]; exact h3
    have e : mayB role op = (decide (1 ≤ op) && decide (op ≤ 7)) := by unfold mayB; rw [h3]; simp
    have HE := Lib.hid e
    clear e lk h3
    by_cases h1 : 1 ≤ op
    · by_cases h7 : op ≤ 7
      · have HT : Hid (mayB role op = true) := Lib.hid (by rw [HE.out, decide_eq_true h1, decide_eq_true h7]; rfl)
        go_enter Tryd.func12, Tryd.ntmps12
        go_wp2_with fail
        go_ret
        exact ⟨ret_bool HT.out.symm, (Below.refl _ w).alloc (Nat.le_refl _) _⟩
      · have HT : Hid (mayB role op = false) := Lib.hid (by rw [HE.out, decide_eq_true h1, decide_eq_false h7]; rfl)
        have hd7 : decide (op ≤ 7) = false := decide_eq_false h7
        go_enter Tryd.func12, Tryd.ntmps12
        go_wp2_with fail
        go_ret
        exact ⟨ret_bool HT.out.symm, (Below.refl _ w).alloc (Nat.le_refl _) _⟩
    · have HT : Hid (mayB role op = false) := Lib.hid (by rw [HE.out, decide_eq_false h1]; rfl)
      go_enter Tryd.func12, Tryd.ntmps12
      go_wp2_with fail
      go_ret
      exact ⟨ret_bool HT.out.symm, (Below.refl _ w).alloc (Nat.le_refl _) _⟩
  · have k3 : (role == 3) = false := by rw [beq_eq_false_iff_ne]; exact h3
    have HE := Lib.hid (may_four role op h3)
    clear h3
    generalize (fourOf role).1 = x0 at *
    generalize (fourOf role).2.1 = x1 at *
    generalize (fourOf role).2.2.1 = x2 at *
    generalize (fourOf role).2.2.2 = x3 at *
    have HCo := Lib.hid (fun W h => contains4 (w.heap.size + 1) 57 x0 x1 x2 x3 op W h)
    by_cases h0 : op = 0
    · have k0 : (op != 0) = false := by rw [bne_eq_false_iff_eq]; exact h0
      have HT : Hid (mayB role op = false) := Lib.hid (by rw [HE.out, k0]; rfl)
      clear h0
      go_enter Tryd.func12, Tryd.ntmps12
      go_wp2_with fail
      go_ret
      exact ⟨ret_bool HT.out.symm, ((Below.refl _ w).alloc (Nat.le_refl _) _).alloc (by simp) _⟩
    · have k0 : (op != 0) = true := by rw [bne_iff_ne]; exact h0
      have HT : Hid (mayB role op = (op == x0 || (op == x1 || (op == x2 || op == x3)))) := Lib.hid (by rw [HE.out, k0]; rfl)
      generalize (op == x0 || (op == x1 || (op == x2 || op == x3))) = q at *
      clear h0
      go_enter Tryd.func12, Tryd.ntmps12
      go_wp2_with fail
      refine (HCo.out _ (new_at _ _ _ (by simp))).mono ?_
      rintro e w1 ⟨rfl, rfl⟩
      go_wp2_with fail
      go_ret
      exact ⟨ret_bool HT.out.symm, ((Below.refl _ w).alloc (Nat.le_refl _) _).alloc (by simp) _⟩

set_option maxRecDepth 100000 in
set_option maxHeartbeats 8000000 in
theorem refMay_any (role op : Int) (w : World) : Calls Tryd.prog 18 #[.int .i64 role, .int .i64 op] w fun e w' => e = .returned (.bool (mayB role op)) ∧ w' = w := by
  have hr : role = 1 ∨ role = 2 ∨ role = 3 ∨ (role ≠ 1 ∧ role ≠ 2 ∧ role ≠ 3) := by omega
  have ho : op = 1 ∨ op = 2 ∨ op = 3 ∨ op = 4 ∨ op = 5 ∨ op = 6 ∨ op = 7 ∨ op < 1 ∨ 7 < op := by omega
  rcases hr with rfl | rfl | rfl | ⟨h1, h2, h3⟩
  · rcases ho with rfl | rfl | rfl | rfl | rfl | rfl | rfl | h | h
    all_goals
      first
        | (go_enter Tryd.func18, Tryd.ntmps18
           go_wp2_with fail
           go_ret
           exact ⟨rfl, rfl⟩)
        | (have q1 : (op == 1) = false := by rw [beq_eq_false_iff_ne]; omega
           have q7 : (op == 7) = false := by rw [beq_eq_false_iff_ne]; omega
           have HT : Hid (mayB 1 op = false) := Lib.hid (by unfold mayB; rw [q1, q7]; rfl)
           go_enter Tryd.func18, Tryd.ntmps18
           go_wp2_with fail
           go_ret
           exact ⟨ret_bool HT.out.symm, rfl⟩)
  · rcases ho with rfl | rfl | rfl | rfl | rfl | rfl | rfl | h | h
    all_goals
      first
        | (go_enter Tryd.func18, Tryd.ntmps18
           go_wp2_with fail
           go_ret
           exact ⟨rfl, rfl⟩)
        | (have q2 : (op == 2) = false := by rw [beq_eq_false_iff_ne]; omega
           have q3 : (op == 3) = false := by rw [beq_eq_false_iff_ne]; omega
           have q6 : (op == 6) = false := by rw [beq_eq_false_iff_ne]; omega
           have q7 : (op == 7) = false := by rw [beq_eq_false_iff_ne]; omega
           have HT : Hid (mayB 2 op = false) := Lib.hid (by unfold mayB; rw [q2, q3, q6, q7]; rfl)
           go_enter Tryd.func18, Tryd.ntmps18
           go_wp2_with fail
           go_ret
           exact ⟨ret_bool HT.out.symm, rfl⟩)
  · rcases ho with rfl | rfl | rfl | rfl | rfl | rfl | rfl | h | h
    all_goals
      first
        | (go_enter Tryd.func18, Tryd.ntmps18
           go_wp2_with fail
           go_ret
           exact ⟨rfl, rfl⟩)
        | (have HT : Hid (mayB 3 op = false) := Lib.hid (by
             unfold mayB
             by_cases h9 : 1 ≤ op
             · rw [decide_eq_false (show ¬ op ≤ 7 by omega)]; simp
             · rw [decide_eq_false h9]; simp)
           first
             | (have hd7 : decide (op ≤ 7) = false := decide_eq_false (by omega))
             | (have hd1 : decide (1 ≤ op) = false := decide_eq_false (by omega))
           go_enter Tryd.func18, Tryd.ntmps18
           go_wp2_with fail
           go_ret
           exact ⟨ret_bool HT.out.symm, rfl⟩)
  · have q1 : (role == 1) = false := by rw [beq_eq_false_iff_ne]; exact h1
    have q2 : (role == 2) = false := by rw [beq_eq_false_iff_ne]; exact h2
    have q3 : (role == 3) = false := by rw [beq_eq_false_iff_ne]; exact h3
    have HT : Hid (mayB role op = false) := Lib.hid (by unfold mayB; rw [q1, q2, q3]; rfl)
    clear ho h1 h2 h3
    go_enter Tryd.func18, Tryd.ntmps18
    go_wp2_with fail
    go_ret
    exact ⟨ret_bool HT.out.symm, rfl⟩
end Go.Proofs.YtpekedldoplmmaaDoor
