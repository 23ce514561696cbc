/-
  The walks of small functions of package exact and of the library: what is told, places in lists, the places found.
-/
import Derived.Test.YthnnbpmpaeddgaaU64
import Derived.Test.YthnnbpmpaeddgaaExaP
namespace Go.Proofs.Ythnnbpmpaeddgaa
open Go.RowKit

set_option maxRecDepth 100000 in
theorem told_wrong (w : World) : Calls Try.prog 27 #[.iface 48 (.agg #[])] w fun e w' => e = .returned (.int .i64 60) ∧ Below w.heap.size w w' := by
  have ta : ∀ W : World, (Instr.typeAssert (.iface 48 (.agg #[])) 51 48 true).run Try.prog W = .ok (.tuple #[.agg #[], .bool true]) W := fun W => by kernel_rfl
  go_enter Try.func27, Try.ntmps27
  go_wp2
  go_ret
  exact ⟨rfl, (Below.refl _ w).alloc (Nat.le_refl _) _⟩
set_option maxRecDepth 100000 in
theorem told_nil (w : World) : Calls Try.prog 27 #[.nilIface] w fun e w' => e = .returned (.int .i64 0) ∧ Below w.heap.size w w' := by
  have ta : ∀ W : World, (Instr.typeAssert .nilIface 51 48 true).run Try.prog W = .ok (.tuple #[.agg #[], .bool false]) W := fun W => by kernel_rfl
  go_enter Try.func27, Try.ntmps27
  go_wp2
  go_ret
  exact ⟨rfl, (Below.refl _ w).alloc (Nat.le_refl _) _⟩
set_option maxRecDepth 100000 in
theorem isNaN_any (x : BitVec 64) (w : World) : Calls Try.prog 42 #[.int .u64 (U x)] w fun e w' => e = .returned (.bool false) ∧ w' = w := by
  have h : (U x != U x) = false := by simp
  go_enter Try.func42, Try.ntmps42
  go_wp2
  go_ret
  exact ⟨rfl, rfl⟩
set_option maxRecDepth 100000 in
theorem isNaN2_any (x : BitVec 64) (w : World) : Calls Try.prog 41 #[.int .u64 (U x)] w fun e w' => e = .returned (.bool false) ∧ w' = w := by
  have h : (U x != U x) = false := by simp
  go_enter Try.func41, Try.ntmps41
  go_wp2
  go_ret
  exact ⟨rfl, rfl⟩
theorem U_lt_iff (x y : BitVec 64) : decide (U x < U y) = decide (x.toNat < y.toNat) := by
  rw [Bool.eq_iff_iff, decide_eq_true_iff, decide_eq_true_iff]; unfold U; omega
theorem U_le_iff (x y : BitVec 64) : decide (U x ≤ U y) = decide (x.toNat ≤ y.toNat) := by
  rw [Bool.eq_iff_iff, decide_eq_true_iff, decide_eq_true_iff]; unfold U; omega
theorem U_beq (x y : BitVec 64) : (U x == U y) = (x == y) := by
  rw [Bool.eq_iff_iff, beq_iff_eq, beq_iff_eq]; exact ⟨fun h => U_inj h, fun h => by rw [h]⟩
set_option maxRecDepth 100000 in
theorem less_any (x y : BitVec 64) (w : World) : Calls Try.prog 40 #[.int .u64 (U x), .int .u64 (U y)] w fun e w' => e = .returned (.bool (decide (x.toNat < y.toNat))) ∧ w' = w := by
  rw [← U_lt_iff]
  go_enter Try.func40, Try.ntmps40
  go_wp2_with (go_at_call 42; refine (isNaN_any _ _).mono ?_; rintro e w1 ⟨rfl, rfl⟩)
  go_ret
  exact ⟨rfl, rfl⟩

set_option maxRecDepth 100000 in
set_option maxHeartbeats 4000000 in
theorem search_any (A : Option Addr) (c : Nat) (l : L64) (n : BitVec 64) (N : Nat) (hN : l.length = N) (hN2 : N ≤ 65536) (hs : Sorted l) (w : World) (hA : At w w.heap.size A l) :
    Calls Try.prog 39 #[.slice A N c, .int .u64 (U n)] w fun e w' => e = .returned (.tuple #[.int .i64 (posU l n : Nat), .bool (isAt l n)]) ∧ w' = w := by
  have HN := Lib.hid hN
  have HS := Lib.hid hs
  clear hN hs
  go_enter Try.func39, Try.ntmps39
  go_wp2_with fail
  go_loop [7, 8] (fun iv jv => ∃ i j : Nat, i ≤ j ∧ j ≤ N ∧ iv = .int .i64 i ∧ jv = .int .i64 j ∧ Hid (∀ t, t < i → (nth l t).toNat < n.toNat) ∧ Hid (∀ t, j ≤ t → t < N → n.toNat ≤ (nth l t).toNat)) (fun iv jv => (intOf jv).toNat - (intOf iv).toNat)
  case atStart => exact ⟨0, N, Nat.zero_le _, Nat.le_refl _, rfl, rfl, Lib.hid (fun t ht => absurd ht (by omega)), Lib.hid (fun t h1 h2 => absurd h2 (by omega))⟩
  case round =>
    obtain ⟨i, j, hij, hjN, rfl, rfl, H1, H2⟩ := hrel
    by_cases hlt : i < j
    · obtain ⟨h, hh⟩ : ∃ h, (i + j) / 2 = h := ⟨_, rfl⟩
      have hi1 : i ≤ h := by omega
      have hj1 : h < j := by omega
      obtain ⟨b, o, rfl, hb, hc⟩ := hA (by rw [HN.out]; omega)
      have y := hc h (by rw [HN.out]; omega)
      have HH := Lib.hid hh
      have e1 : ((i : Int) + (j : Int)) / 2 = (h : Int) := by omega
      clear hc hh
      by_cases hx : (nth l h).toNat < n.toNat
      · have hd : decide ((nth l h).toNat < n.toNat) = true := decide_eq_true hx
        have HX := Lib.hid hx
        clear hx
        go_wp2_with fail
        refine (less_any (nth l h) n _).mono ?_
        rw [hd]
        rintro e w1 ⟨rfl, rfl⟩
        go_wp2_with fail
        go_round
        case rel => exact ⟨h + 1, j, by omega, hjN, by go_num, rfl, Lib.hid (fun t ht => by
          by_cases e : t = h
          · rw [e]; exact HX.out
          · have := HS.out.nth (i := t) (j := h) (by omega) (by rw [HN.out]; omega)
            have := HX.out
            omega), H2⟩
        case measure => simp [intOf]; omega
      · have hd : decide ((nth l h).toNat < n.toNat) = false := decide_eq_false hx
        have HX := Lib.hid hx
        clear hx
        go_wp2_with fail
        refine (less_any (nth l h) n _).mono ?_
        rw [hd]
        rintro e w1 ⟨rfl, rfl⟩
        go_wp2_with fail
        go_round
        case rel => exact ⟨i, h, by omega, by omega, rfl, rfl, H1, Lib.hid (fun t ht htN => by
          by_cases e : t = h
          · have := HX.out; rw [e]; omega
          · have := HS.out.nth (i := h) (j := t) (by omega) (by rw [HN.out]; omega)
            have := HX.out
            omega)⟩
        case measure => simp [intOf]; omega
    · obtain rfl : i = j := by omega
      have hp : i = posU l n := posU_eq (fun t ht => H1.out t ht) (by rw [HN.out]; exact hjN) (fun h => H2.out i (Nat.le_refl _) (by rw [← HN.out]; exact h))
      have hat : isAt l n = (decide (i < N) && (nth l i == n)) := by unfold isAt; rw [← hp, HN.out]
      have HE : Hid (∀ q : Bool, isAt l n = q → Ending.returned (.tuple #[.int .i64 (i : Nat), .bool q]) = .returned (.tuple #[.int .i64 (posU l n : Nat), .bool (isAt l n)])) := Lib.hid (fun q hq => by rw [hq, ← hp])
      have HAt := Lib.hid hat
      by_cases hiN : i < N
      · obtain ⟨b, o, rfl, hb, hc⟩ := hA (by rw [HN.out]; omega)
        have y := hc i (by rw [HN.out]; omega)
        have hu := U_beq (nth l i) n
        obtain ⟨q, hq⟩ : ∃ q, (nth l i == n) = q := ⟨_, rfl⟩
        rw [hq] at hu
        have HQ : Hid (isAt l n = q) := Lib.hid (by rw [HAt.out, decide_eq_true hiN, hq]; rfl)
        clear hc hp hat hq H1 H2 HAt
        cases q
        all_goals
          go_wp2_with (go_at_call 41; refine (isNaN2_any _ _).mono ?_; rintro e w1 ⟨rfl, rfl⟩)
          go_ret2
          exact ⟨HE.out _ HQ.out, rfl⟩
      · have HQ : Hid (isAt l n = false) := Lib.hid (by rw [HAt.out, decide_eq_false hiN]; rfl)
        clear hp hat H1 H2 HAt
        go_wp2_with fail
        go_ret2
        exact ⟨HE.out _ HQ.out, rfl⟩

set_option maxRecDepth 100000 in
set_option maxHeartbeats 4000000 in
theorem find_any (A : Option Addr) (c : Nat) (l : L64) (n : BitVec 64) (N : Nat) (hN : l.length = N) (hN2 : N ≤ 65536) (hs : Sorted l) (bl : Nat) (w : World) (hbl : w.cell? ⟨bl, 0, none⟩ = some (.slice A N c)) (hA : At w w.heap.size A l) :
    Calls Try.prog 38 #[.int .u64 (U n), .pointer (some ⟨bl, 0, none⟩)] w fun e w' => e = .returned (.tuple #[.int .i64 (posU l n : Nat), .bool (isAt l n)]) ∧ w' = w := by
  go_enter Try.func38, Try.ntmps38
  go_wp2_with fail
  refine (search_any A c l n N hN hN2 hs _ hA).mono ?_
  rintro e w1 ⟨rfl, rfl⟩
  go_wp2_with fail
  go_ret2
  exact ⟨rfl, rfl⟩

/-- The library's list with room for so many numbers. -/
theorem run_append_zeros (n : Nat) (h1 : 1 ≤ n) (hn : n ≤ 65536) (w : World) : ∃ c W, (Builtin.append_ #[22, 3] 22 #[.slice none 0 0, .int .i64 (n : Int)]).run Try.prog w = .ok (.slice (some ⟨w.heap.size, 0, none⟩) n c) W ∧
    n ≤ c ∧ OwnL W w.heap.size (.slice (some ⟨w.heap.size, 0, none⟩) 0 c) [] ∧ Below w.heap.size w W := by
  obtain ⟨i0, hi, hz0, hz1, hz2⟩ := info_parts u64_info
  have hge := grownCap_ge w n 0 25
  have hcm := grownCap_le_maxLen w n 0 25 (by simp only [maxLen]; omega)
  have hw : IntKind.i64.wrap (n : Int) = (n : Int) := by rw [IntKind.wrap_i64]; omega
  have hfit : Builtin.nextslicecap n 0 * i0.bytes ≤ 281474976710656 := growslice_fits (by omega) (by rw [hz2]; omega)
  have h8 : ¬ (281474976710656 < (n : Int) * (i0.bytes : Int)) := by rw [hz2]; omega
  have h48 : ¬ (281474976710656 < Builtin.nextslicecap n 0 * i0.bytes) := by omega
  have hn0 : ¬ n = 0 := by omega
  have hmx : ¬ (9223372036854775807 < (n : Int)) := by omega
  have hneg : ¬ ((n : Int) < 0) := by omega
  refine ⟨grownCap w n 0 25, w.drew.alloc (.cells (Builtin.zeroCells (Value.int .u64 0).cells n ++ Builtin.zeroCells (Value.int .u64 0).cells (grownCap w n 0 25 - n)) 25), ?_, hge, ⟨by simp, .inr ⟨w.heap.size, _, _, rfl, Nat.le_refl _, heap_alloc_new w.drew _, Nat.zero_le _, hcm, ?_, by simp⟩⟩, ?_⟩
  · simp [Builtin.append_, run_underlying Try.underlying22, run_underlying Try.underlying3, sizeOf, typeInfo, zeroValue, hi, hz0, hz1, asInt, asIntOf, hw, hneg, h8, hn0, hmx, h48, Question.forced, newRow, grownCap, Builtin.firstCells]
  · have hs : (Value.int .u64 0).cells.size = 1 := rfl
    simp only [Array.size_append, size_zeroCells, hs]
    omega
  · exact (Below.refl _ w).drew.alloc (Nat.le_refl _) _
/-- A list's end. -/
def cutA (A : Option Addr) (c p : Nat) : Option Addr := if c = p then A else A.map (·.add p)
theorem run_cut (A : Option Addr) (N c p : Nat) (hp : p ≤ N) (w : World) : (Instr.slice 22 (.slice A N c) (some (.int .i64 (p : Int))) none none).run Try.prog w = .ok (.slice (cutA A c p) (N - p) (c - p)) w := by
  rw [run_slice_l w 22 A N c (by kernel_rfl) .i64 (p : Int) (by omega) (by omega)]
  have hs : (sizeOf (Try.prog.elem 22)).run Try.prog w = .ok 1 w := by kernel_rfl
  rw [hs, Result.andThen_ok]
  unfold sliced cutA
  rw [Int.toNat_natCast, Nat.mul_one]
theorem At.cut {w : World} {B : Nat} {A : Option Addr} {l : L64} {c p : Nat} (h : At w B A l) (hc : l.length ≤ c) : At w B (cutA A c p) (l.drop p) := fun hl => by
  have hl2 : p < l.length := by simp at hl; omega
  obtain ⟨b, o, rfl, hlt, hcell⟩ := h (by omega)
  refine ⟨b, o + p, ?_, hlt, fun j hj => ?_⟩
  · unfold cutA
    rw [if_neg (by omega)]
    simp [add_mk]
  · have hj2 : p + j < l.length := by simp at hj; omega
    have e : nth (l.drop p) j = nth l (p + j) := by
      unfold nth
      rw [List.getD_eq_getElem?_getD, List.getD_eq_getElem?_getD, List.getElem?_drop]
    rw [e, Nat.add_assoc]
    exact hcell _ hj2
end Go.Proofs.Ythnnbpmpaeddgaa
