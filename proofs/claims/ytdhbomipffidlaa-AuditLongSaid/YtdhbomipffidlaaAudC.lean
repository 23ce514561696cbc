/-
  The last entry, whether one may stand behind another: by package audit and the reference.
-/
import Derived.Test.YtdhbomipffidlaaAudB
namespace Go.Proofs.Ytdhbomipffidlaa
open Go.RowKit Go.Shelf

theorem U_lit1 : U 1#64 = 1 := by decide +kernel
theorem U_beq (x y : BitVec 64) : (U x == U y) = decide (x = y) := by
  rw [Bool.eq_iff_iff, beq_iff_eq, decide_eq_true_iff]
  exact ⟨fun h => U_inj h, fun h => by rw [h]⟩
theorem U_le2 (x y : BitVec 64) : (U x ≤ U y) ↔ x.toNat ≤ y.toNat := by unfold U; omega

set_option maxRecDepth 100000 in
set_option maxHeartbeats 4000000 in
theorem last_any (p : BitVec 64) (A : Option Addr) (c : Nat) (l : LE) (n : Nat) (hn : l.length = n) (hm : n ≤ 9223372036854775807) (w : World) (hA : AtE w w.heap.size A l) :
    Calls Try.prog 31 #[.agg #[.int .u64 (U p), .slice A n c]] w fun e w' => e = .returned (lastE p l).val ∧ Below w.heap.size w w' := by
  by_cases h0 : n = 0
  · subst h0
    have e : lastE p l = ⟨0#64, 0#64, ⟨#[]⟩, p⟩ := by unfold lastE; rw [if_pos hn]
    rw [e]
    clear e hn
    go_enter Try.func31, Try.ntmps31
    go_wp2_with fail
    refine bodyPost_ret (v := .agg #[.int .u64 0, .int .u64 0, .string ⟨#[]⟩, .int .u64 (U p)]) (by simp [results, Try.results31, go_sem]) rfl ⟨rfl, ?_⟩
    exact ((Below.refl _ w).alloc (Nat.le_refl _) _).alloc (by simp) _
  · have e : lastE p l = nthE l (n - 1) := by rw [lastE_pos (by omega), hn]
    rw [e]
    obtain ⟨b, o, rfl, hb, hc⟩ := hA (by omega)
    obtain ⟨y0, y1, y2, y3⟩ := hc (n - 1) (by omega)
    generalize nthE l (n - 1) = x at *
    obtain ⟨k, rfl⟩ : ∃ k, n = k + 1 := ⟨n - 1, by omega⟩
    rw [Nat.add_sub_cancel] at y0 y1 y2 y3
    clear hc e hn h0
    go_enter Try.func31, Try.ntmps31
    go_wp2_with fail
    refine bodyPost_ret (v := .agg #[.int .u64 (U x.s), .int .u64 (U x.t), .string x.x, .int .u64 (U x.m)]) (by simp [results, Try.results31, go_sem]) rfl ⟨rfl, ?_⟩
    exact ((Below.refl _ w).alloc (Nat.le_refl _) _).alloc (by simp) _

set_option maxRecDepth 100000 in
set_option maxHeartbeats 4000000 in
theorem Head_any (p : BitVec 64) (A : Option Addr) (c : Nat) (l : LE) (n : Nat) (hn : l.length = n) (hm : n ≤ 9223372036854775807) (w : World) (hA : AtE w w.heap.size A l) :
    Calls Try.prog 22 #[.agg #[.int .u64 (U p), .slice A n c]] w fun e w' => e = .returned (.int .u64 (U (lastE p l).m)) ∧ Below w.heap.size w w' := by
  have hB0 : Below w.heap.size w (w.alloc (.cells #[.int .u64 (U p), .slice A n c] 27)) := (Below.refl _ w).alloc (Nat.le_refl _) _
  have HL := Lib.hid (last_any p A c l n hn hm _ (hA.later hB0))
  have HB0 := Lib.hid hB0
  unfold Ent.val at HL
  generalize lastE p l = x at *
  have hfd : ∀ w : World, (Instr.field 41 (.agg #[.int .u64 (U x.s), .int .u64 (U x.t), .string x.x, .int .u64 (U x.m)]) 3).run Try.prog w = .ok (.int .u64 (U x.m)) w := fun _ => by kernel_rfl
  clear hn hB0
  go_enter Try.func22, Try.ntmps22
  go_wp2_with fail
  with_reducible refine HL.out.mono ?_
  rintro e w1 ⟨rfl, hB⟩
  have HB := Lib.hid (HB0.out.trans (hB.mono HB0.out.size))
  clear hB
  go_wp2_with fail
  go_ret
  exact ⟨rfl, HB.out⟩

set_option maxRecDepth 100000 in
set_option maxHeartbeats 4000000 in
theorem refHead_any (p : BitVec 64) (A : Option Addr) (c : Nat) (l : LE) (n : Nat) (hn : l.length = n) (hm : n ≤ 9223372036854775807) (w : World) (hA : AtE w w.heap.size A l) :
    Calls Try.prog 26 #[.agg #[.int .u64 (U p), .slice A n c]] w fun e w' => e = .returned (.int .u64 (U (lastE p l).m)) ∧ Below w.heap.size w w' := by
  by_cases h0 : n = 0
  · subst h0
    have e : lastE p l = ⟨0#64, 0#64, ⟨#[]⟩, p⟩ := by unfold lastE; rw [if_pos hn]
    rw [e]
    clear e hn
    go_enter Try.func26, Try.ntmps26
    go_wp2_with fail
    go_ret
    exact ⟨rfl, (Below.refl _ w).alloc (Nat.le_refl _) _⟩
  · have e : lastE p l = nthE l (n - 1) := by rw [lastE_pos (by omega), hn]
    rw [e]
    obtain ⟨b, o, rfl, hb, hc⟩ := hA (by omega)
    obtain ⟨y0, y1, y2, y3⟩ := hc (n - 1) (by omega)
    generalize nthE l (n - 1) = x at *
    obtain ⟨k, rfl⟩ : ∃ k, n = k + 1 := ⟨n - 1, by omega⟩
    rw [Nat.add_sub_cancel] at y0 y1 y2 y3
    clear hc e hn h0
    go_enter Try.func26, Try.ntmps26
    go_wp2_with fail
    go_ret
    exact ⟨rfl, (Below.refl _ w).alloc (Nat.le_refl _) _⟩

set_option maxRecDepth 100000 in
set_option maxHeartbeats 4000000 in
theorem Last_any (p : BitVec 64) (A : Option Addr) (c : Nat) (l : LE) (n : Nat) (hn : l.length = n) (hm : n ≤ 9223372036854775807) (w : World) (hA : AtE w w.heap.size A l) :
    Calls Try.prog 20 #[.agg #[.int .u64 (U p), .slice A n c]] w fun e w' => e = .returned (.int .u64 (U (lastE p l).s)) ∧ Below w.heap.size w w' := by
  have hB0 : Below w.heap.size w (w.alloc (.cells #[.int .u64 (U p), .slice A n c] 27)) := (Below.refl _ w).alloc (Nat.le_refl _) _
  have HL := Lib.hid (last_any p A c l n hn hm _ (hA.later hB0))
  have HB0 := Lib.hid hB0
  unfold Ent.val at HL
  generalize lastE p l = x at *
  have hfd : ∀ w : World, (Instr.field 41 (.agg #[.int .u64 (U x.s), .int .u64 (U x.t), .string x.x, .int .u64 (U x.m)]) 0).run Try.prog w = .ok (.int .u64 (U x.s)) w := fun _ => by kernel_rfl
  clear hn hB0
  go_enter Try.func20, Try.ntmps20
  go_wp2_with fail
  with_reducible refine HL.out.mono ?_
  rintro e w1 ⟨rfl, hB⟩
  have HB := Lib.hid (HB0.out.trans (hB.mono HB0.out.size))
  clear hB
  go_wp2_with fail
  go_ret
  exact ⟨rfl, HB.out⟩

set_option maxRecDepth 100000 in
set_option maxHeartbeats 4000000 in
theorem refLast_any (p : BitVec 64) (A : Option Addr) (c : Nat) (l : LE) (n : Nat) (hn : l.length = n) (hm : n ≤ 9223372036854775807) (w : World) (hA : AtE w w.heap.size A l) :
    Calls Try.prog 27 #[.agg #[.int .u64 (U p), .slice A n c]] w fun e w' => e = .returned (.int .u64 (U (lastE p l).s)) ∧ Below w.heap.size w w' := by
  by_cases h0 : n = 0
  · subst h0
    have e : lastE p l = ⟨0#64, 0#64, ⟨#[]⟩, p⟩ := by unfold lastE; rw [if_pos hn]
    rw [e]
    clear e hn
    go_enter Try.func27, Try.ntmps27
    go_wp2_with fail
    go_ret
    exact ⟨rfl, (Below.refl _ w).alloc (Nat.le_refl _) _⟩
  · have e : lastE p l = nthE l (n - 1) := by rw [lastE_pos (by omega), hn]
    rw [e]
    obtain ⟨b, o, rfl, hb, hc⟩ := hA (by omega)
    obtain ⟨y0, y1, y2, y3⟩ := hc (n - 1) (by omega)
    generalize nthE l (n - 1) = x at *
    obtain ⟨k, rfl⟩ : ∃ k, n = k + 1 := ⟨n - 1, by omega⟩
    rw [Nat.add_sub_cancel] at y0 y1 y2 y3
    clear hc e hn h0
    go_enter Try.func27, Try.ntmps27
    go_wp2_with fail
    go_ret
    exact ⟨rfl, (Below.refl _ w).alloc (Nat.le_refl _) _⟩

set_option maxRecDepth 100000 in
set_option maxHeartbeats 4000000 in
theorem isStep_any (x y : Ent) (w : World) :
    Calls Try.prog 32 #[x.val, y.val] w fun e w' => e = .returned (.bool (stepE x y)) ∧ Below w.heap.size w w' := by
  obtain ⟨xs, xt, xx, xm⟩ := x
  obtain ⟨ys, yt, yx, ym⟩ := y
  obtain ⟨e1, h1⟩ : ∃ e1, decide (U xs < 18446744073709551615) = e1 := ⟨_, rfl⟩
  have k1 : decide (xs.toNat < 18446744073709551615) = e1 := by
    rw [← h1, Bool.eq_iff_iff, decide_eq_true_iff, decide_eq_true_iff]; unfold U; omega
  obtain ⟨e2, k2⟩ : ∃ e2, decide (ys = xs + 1#64) = e2 := ⟨_, rfl⟩
  have hadd : IntKind.u64.wrap (U xs + 1) = U (xs + 1#64) := by have h := U_add xs 1#64; rw [U_lit1] at h; exact h
  have h2 : (U ys == IntKind.u64.wrap (U xs + 1)) = e2 := by rw [hadd, ← k2]; exact U_beq _ _
  obtain ⟨e3, k3⟩ : ∃ e3, decide (xt.toNat ≤ yt.toNat) = e3 := ⟨_, rfl⟩
  have h3 : decide (U xt ≤ U yt) = e3 := by
    rw [← k3, Bool.eq_iff_iff, decide_eq_true_iff, decide_eq_true_iff]; exact U_le2 _ _
  have HE : stepE ⟨xs, xt, xx, xm⟩ ⟨ys, yt, yx, ym⟩ = (e1 && (e2 && e3)) := by
    show (decide (xs.toNat < 18446744073709551615) && (decide (ys = xs + 1#64) && decide (xt.toNat ≤ yt.toNat))) = _
    rw [k1, k2, k3]
  rw [HE]
  clear HE k1 k2 k3 hadd
  show Calls _ _ #[.agg #[.int .u64 (U xs), .int .u64 (U xt), .string xx, .int .u64 (U xm)], .agg #[.int .u64 (U ys), .int .u64 (U yt), .string yx, .int .u64 (U ym)]] _ _
  have hB2 : Below w.heap.size w ((w.alloc (.cells #[.int .u64 (U xs), .int .u64 (U xt), .string xx, .int .u64 (U xm)] 41)).alloc (.cells #[.int .u64 (U ys), .int .u64 (U yt), .string yx, .int .u64 (U ym)] 41)) := ((Below.refl _ w).alloc (Nat.le_refl _) _).alloc (by simp) _
  have HB := Lib.hid hB2
  clear hB2
  cases e1 <;> cases e2 <;> cases e3
  all_goals
    simp only [Bool.and_true, Bool.and_false]
    go_enter Try.func32, Try.ntmps32
    go_wp2_with fail
    go_ret
    exact ⟨rfl, HB.out⟩
end Go.Proofs.Ytdhbomipffidlaa
