/-
  Whether two lists of entries are the same: by package audit and by the reference.
-/
import Derived.Test.YtdhbomipffidlaaAudC
namespace Go.Proofs.Ytdhbomipffidlaa
open Go.RowKit Go.Shelf
attribute [local go_sem] Oper.semAt_some calmOp calmUpon effOp effUpon

instance : DecidableEq Ent := fun x y => by
  obtain ⟨a, b, c, d⟩ := x
  obtain ⟨a', b', c', d'⟩ := y
  exact decidable_of_iff (a = a' ∧ b = b' ∧ c = c' ∧ d = d') ⟨fun ⟨h1, h2, h3, h4⟩ => by rw [h1, h2, h3, h4], fun h => by injection h with h1 h2 h3 h4; exact ⟨h1, h2, h3, h4⟩⟩
theorem ba_beq (x y : ByteArray) : (x.toList == y.toList) = decide (x = y) := by
  rw [Bool.eq_iff_iff, beq_iff_eq, decide_eq_true_iff]
  constructor
  · intro h
    exact ByteArray.ext (Array.toList_inj.1 (by rw [ByteArray.toList_eq, ByteArray.toList_eq] at h; exact h))
  · intro h; rw [h]
/-- Are two entries the same, by the model. -/
theorem ent_neq (x y : Ent) (W : World) : (binOp .neq 41 (.agg #[.int .u64 (U x.s), .int .u64 (U x.t), .string x.x, .int .u64 (U x.m)]) (.agg #[.int .u64 (U y.s), .int .u64 (U y.t), .string y.x, .int .u64 (U y.m)])).run Try.prog W = .ok (.bool (!decide (x = y))) W := by
  obtain ⟨xs, xt, xx, xm⟩ := x
  obtain ⟨ys, yt, yx, ym⟩ := y
  have u1 := Try.underlying22
  have u2 := Try.underlying9
  have hS : Try.prog.underlying 41 = some (.struct (Try.prog.fieldsOf 41)) := by kernel_rfl
  have hp : Try.prog.stoodInHeld 41 = false := by kernel_rfl
  rw [run_neq_struct, show (10000 : Nat) = 9999 + 1 from rfl, run_equalIn_agg W 9999 41 _ _ hS hp]
  simp only [Program.fieldsOf, Try.underlying41]
  go_simp
  have e1 := U_beq xs ys
  have e2 := U_beq xt yt
  have e3 := ba_beq xx yx
  have e4 := U_beq xm ym
  by_cases h1 : xs = ys <;> by_cases h2 : xt = yt <;> by_cases h3 : xx = yx <;> by_cases h4 : xm = ym <;> simp_all

set_option maxRecDepth 100000 in
set_option maxHeartbeats 4000000 in
theorem equal_any (A A' : Option Addr) (c c' : Nat) (l l' : LE) (n n' : Nat) (hn : l.length = n) (hn' : l'.length = n') (hm : n ≤ 65535) (w : World) (hA : AtE w w.heap.size A l) (hA' : AtE w w.heap.size A' l') :
    Calls Try.prog 39 #[.slice A n c, .slice A' n' c'] w fun e w' => e = .returned (.bool (decide (l = l'))) ∧ Below w.heap.size w w' := by
  by_cases hq : n = n'
  · subst hq
    have HN := Lib.hid hn
    have HN' := Lib.hid hn'
    clear hn hn'
    go_enter Try.func39, Try.ntmps39
    go_wp2_with fail
    go_loopw [5, 13] (fun _ iv wr => ∃ j : Nat, j ≤ n ∧ iv = .int .i64 j ∧ Below w.heap.size w wr ∧ ∀ i, i < j → nthE l i = nthE l' i) (fun _ iv _ => n - (intOf iv).toNat)
    case atStart => exact ⟨0, Nat.zero_le _, rfl, Below.refl _ w, fun i hi => absurd hi (by omega)⟩
    case round =>
      obtain ⟨j, hj, rfl, hB, hs⟩ := hrel
      have HS := Lib.hid hs
      clear hs
      by_cases hjn : j < n
      · obtain ⟨b, o, rfl, hb, hc⟩ := hA (by rw [HN.out]; omega)
        obtain ⟨b', o', rfl, hb', hc'⟩ := hA' (by rw [HN'.out]; omega)
        obtain ⟨y0, y1, y2, y3⟩ := (hc j (by rw [HN.out]; exact hjn)).below hB hb
        obtain ⟨z0, z1, z2, z3⟩ := (hc' j (by rw [HN'.out]; exact hjn)).below hB hb'
        have HNE := Lib.hid (fun h : nthE l j ≠ nthE l' j => show (decide (l = l')) = false from decide_eq_false (fun e => h (by rw [e])))
        have HX := Lib.hid (fun h : nthE l j = nthE l' j => show ∀ i, i < j + 1 → nthE l i = nthE l' i from fun i hi => by
          by_cases hij : i < j
          · exact HS.out i hij
          · obtain rfl : i = j := by omega
            exact h)
        have hne := fun W => ent_neq (nthE l j) (nthE l' j) W
        generalize nthE l j = x at *
        generalize nthE l' j = y at *
        clear hc hc'
        obtain ⟨q, hq⟩ : ∃ q, decide (x = y) = q := ⟨_, rfl⟩
        rw [hq] at hne
        have HQ := Lib.hid hq
        clear hq
        cases q with
        | false =>
          simp only [Bool.not_false] at hne
          go_wp2_with fail
          go_quiet (fail)
          go_wp2_with fail
          go_ret
          exact ⟨ret_bool (HNE.out (of_decide_eq_false HQ.out)).symm, dn hB _⟩
        | true =>
          simp only [Bool.not_true] at hne
          go_wp2_with fail
          go_quiet (fail)
          go_wp2_with fail
          go_roundw
          case rel => exact ⟨j + 1, by omega, by go_num, dn hB _, HX.out (of_decide_eq_true HQ.out)⟩
          case measure => simp [intOf]; omega
      · obtain rfl : j = n := by omega
        have hE : decide (l = l') = true := decide_eq_true (nthE_ext (HN.out.trans HN'.out.symm) (fun i hi => HS.out i (by rw [HN.out] at hi; exact hi)))
        have HE := Lib.hid hE
        clear hE
        go_wp2_with fail
        go_ret
        exact ⟨ret_bool HE.out.symm, hB⟩
  · have hE : decide (l = l') = false := decide_eq_false (fun e => hq (by rw [← hn, ← hn', e]))
    rw [hE]
    have hne : ((n : Int) == (n' : Int)) = false := by rw [beq_eq_false_iff_ne]; omega
    have hne2 : ((n : Int) != (n' : Int)) = true := by rw [bne_iff_ne]; omega
    clear hE hn hn' hq
    go_enter Try.func39, Try.ntmps39
    go_wp2_with fail
    go_ret
    exact ⟨rfl, Below.refl _ w⟩

set_option maxRecDepth 100000 in
set_option maxHeartbeats 4000000 in
theorem entries_any (A A' : Option Addr) (c c' : Nat) (l l' : LE) (n n' : Nat) (hn : l.length = n) (hn' : l'.length = n') (hm : n ≤ 65535) (w : World) (hA : AtE w w.heap.size A l) (hA' : AtE w w.heap.size A' l') :
    Calls Try.prog 19 #[.slice A n c, .slice A' n' c'] w fun e w' => e = .returned (.bool (decide (l = l'))) ∧ Below w.heap.size w w' := by
  by_cases hq : n = n'
  · subst hq
    have HN := Lib.hid hn
    have HN' := Lib.hid hn'
    clear hn hn'
    go_enter Try.func19, Try.ntmps19
    go_wp2_with fail
    go_loopw [5] (fun iv wr => ∃ j : Nat, j ≤ n ∧ iv = .int .i64 j ∧ Below w.heap.size w wr ∧ ∀ i, i < j → nthE l i = nthE l' i) (fun iv _ => n - (intOf iv).toNat)
    case atStart => exact ⟨0, Nat.zero_le _, rfl, Below.refl _ w, fun i hi => absurd hi (by omega)⟩
    case round =>
      obtain ⟨j, hj, rfl, hB, hs⟩ := hrel
      have HS := Lib.hid hs
      clear hs
      by_cases hjn : j < n
      · obtain ⟨b, o, rfl, hb, hc⟩ := hA (by rw [HN.out]; omega)
        obtain ⟨b', o', rfl, hb', hc'⟩ := hA' (by rw [HN'.out]; omega)
        obtain ⟨y0, y1, y2, y3⟩ := (hc j (by rw [HN.out]; exact hjn)).below hB hb
        obtain ⟨z0, z1, z2, z3⟩ := (hc' j (by rw [HN'.out]; exact hjn)).below hB hb'
        have HNE := Lib.hid (fun h : nthE l j ≠ nthE l' j => show (decide (l = l')) = false from decide_eq_false (fun e => h (by rw [e])))
        have HX := Lib.hid (fun h : nthE l j = nthE l' j => show ∀ i, i < j + 1 → nthE l i = nthE l' i from fun i hi => by
          by_cases hij : i < j
          · exact HS.out i hij
          · obtain rfl : i = j := by omega
            exact h)
        have hne := fun W => ent_neq (nthE l j) (nthE l' j) W
        generalize nthE l j = x at *
        generalize nthE l' j = y at *
        clear hc hc'
        obtain ⟨q, hq⟩ : ∃ q, decide (x = y) = q := ⟨_, rfl⟩
        rw [hq] at hne
        have HQ := Lib.hid hq
        clear hq
        cases q with
        | false =>
          simp only [Bool.not_false] at hne
          go_wp2_with fail
          go_quiet (fail)
          go_wp2_with fail
          go_ret
          exact ⟨ret_bool (HNE.out (of_decide_eq_false HQ.out)).symm, dn hB _⟩
        | true =>
          simp only [Bool.not_true] at hne
          go_wp2_with fail
          go_quiet (fail)
          go_wp2_with fail
          go_roundw
          case rel => exact ⟨j + 1, by omega, by go_num, dn hB _, HX.out (of_decide_eq_true HQ.out)⟩
          case measure => simp [intOf]; omega
      · obtain rfl : j = n := by omega
        have hE : decide (l = l') = true := decide_eq_true (nthE_ext (HN.out.trans HN'.out.symm) (fun i hi => HS.out i (by rw [HN.out] at hi; exact hi)))
        have HE := Lib.hid hE
        clear hE
        go_wp2_with fail
        go_ret
        exact ⟨ret_bool HE.out.symm, hB⟩
  · have hE : decide (l = l') = false := decide_eq_false (fun e => hq (by rw [← hn, ← hn', e]))
    rw [hE]
    have hne : ((n : Int) == (n' : Int)) = false := by rw [beq_eq_false_iff_ne]; omega
    have hne2 : ((n : Int) != (n' : Int)) = true := by rw [bne_iff_ne]; omega
    clear hE hn hn' hq
    go_enter Try.func19, Try.ntmps19
    go_wp2_with fail
    go_ret
    exact ⟨rfl, Below.refl _ w⟩
end Go.Proofs.Ytdhbomipffidlaa
