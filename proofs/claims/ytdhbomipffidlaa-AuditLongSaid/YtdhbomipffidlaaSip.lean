/-
  The walks of package sip: a turn by a constant, a round of four numbers.
-/
import Derived.Test.YtdhbomipffidlaaRows
import Derived.Test.YtdhbomipffidlaaBv
import Derived.Test.YtdhbomipffidlaaMem
import Derived.WalkKit
import Derived.WalkSpells
import Derived.WalkLawsBesides
import Derived.BigQuiet
import Derived.Deep.QuietTactic
import Derived.StillTailTactics
import Derived.Lib.Hide
namespace Go.Proofs.Ytdhbomipffidlaa
open Go.RowKit
attribute [local go_sem] U_add U_sub U_xor U_or U_and
theorem rot_arith (x : BitVec 64) (k : Nat) (h : k < 64) : bits .or .u64 (IntKind.u64.wrap (U x * 2 ^ k)) (U x / 2 ^ (64 - k)) = U (x.rotateLeft k) := by
  rw [U_shl, U_shr, U_or, rot_eq x k h]

set_option maxHeartbeats 400000 in
theorem rot13 (x : BitVec 64) (w : World) :
    Calls Try.prog 48 #[.int .u64 (U x), .int .i64 13] w fun e w' => e = .returned (.int .u64 (U (x.rotateLeft 13))) ∧ w' = w := by
  have h := rot_arith x 13 (by decide)
  have hb : bits .and .u64 13 63 = 13 := by decide
  simp at h
  have H := Lib.hid h
  clear h
  go_enter Try.func48, Try.ntmps48
  go_wp2
  go_ret
  exact ⟨by rw [H.out]; rfl, rfl⟩

set_option maxHeartbeats 400000 in
theorem rot16 (x : BitVec 64) (w : World) :
    Calls Try.prog 48 #[.int .u64 (U x), .int .i64 16] w fun e w' => e = .returned (.int .u64 (U (x.rotateLeft 16))) ∧ w' = w := by
  have h := rot_arith x 16 (by decide)
  have hb : bits .and .u64 16 63 = 16 := by decide
  simp at h
  have H := Lib.hid h
  clear h
  go_enter Try.func48, Try.ntmps48
  go_wp2
  go_ret
  exact ⟨by rw [H.out]; rfl, rfl⟩

set_option maxHeartbeats 400000 in
theorem rot17 (x : BitVec 64) (w : World) :
    Calls Try.prog 48 #[.int .u64 (U x), .int .i64 17] w fun e w' => e = .returned (.int .u64 (U (x.rotateLeft 17))) ∧ w' = w := by
  have h := rot_arith x 17 (by decide)
  have hb : bits .and .u64 17 63 = 17 := by decide
  simp at h
  have H := Lib.hid h
  clear h
  go_enter Try.func48, Try.ntmps48
  go_wp2
  go_ret
  exact ⟨by rw [H.out]; rfl, rfl⟩

set_option maxHeartbeats 400000 in
theorem rot21 (x : BitVec 64) (w : World) :
    Calls Try.prog 48 #[.int .u64 (U x), .int .i64 21] w fun e w' => e = .returned (.int .u64 (U (x.rotateLeft 21))) ∧ w' = w := by
  have h := rot_arith x 21 (by decide)
  have hb : bits .and .u64 21 63 = 21 := by decide
  simp at h
  have H := Lib.hid h
  clear h
  go_enter Try.func48, Try.ntmps48
  go_wp2
  go_ret
  exact ⟨by rw [H.out]; rfl, rfl⟩

set_option maxHeartbeats 400000 in
theorem rot32 (x : BitVec 64) (w : World) :
    Calls Try.prog 48 #[.int .u64 (U x), .int .i64 32] w fun e w' => e = .returned (.int .u64 (U (x.rotateLeft 32))) ∧ w' = w := by
  have h := rot_arith x 32 (by decide)
  have hb : bits .and .u64 32 63 = 32 := by decide
  simp at h
  have H := Lib.hid h
  clear h
  go_enter Try.func48, Try.ntmps48
  go_wp2
  go_ret
  exact ⟨by rw [H.out]; rfl, rfl⟩

/-- Block b holds four numbers. -/
def Four (w : World) (b : Nat) (T : TypeId) (x0 x1 x2 x3 : BitVec 64) : Prop :=
  w.heap[b]? = some (.cells #[.int .u64 (U x0), .int .u64 (U x1), .int .u64 (U x2), .int .u64 (U x3)] T (0, 0))
theorem Four.facts {w : World} {b : Nat} {T : TypeId} {x0 x1 x2 x3 : BitVec 64} (h : Four w b T x0 x1 x2 x3) :
    (w.cell? ⟨b, 0, none⟩ = some (.int .u64 (U x0)) ∧ w.cell? ⟨b, 1, none⟩ = some (.int .u64 (U x1)) ∧ w.cell? ⟨b, 2, none⟩ = some (.int .u64 (U x2)) ∧ w.cell? ⟨b, 3, none⟩ = some (.int .u64 (U x3))) ∧
    (w.frozen? ⟨b, 0, none⟩ = false ∧ w.frozen? ⟨b, 1, none⟩ = false ∧ w.frozen? ⟨b, 2, none⟩ = false ∧ w.frozen? ⟨b, 3, none⟩ = false) := by
  unfold Four at h
  simp [World.cell?, World.frozen?, h]
theorem Four.lt {w : World} {b : Nat} {T : TypeId} {x0 x1 x2 x3 : BitVec 64} (h : Four w b T x0 x1 x2 x3) : b < w.heap.size := (Array.getElem?_eq_some_iff.1 h).1
/-- w' is w but that block b holds four other numbers. -/
def FourPut (w w' : World) (b : Nat) (T : TypeId) (x0 x1 x2 x3 : BitVec 64) : Prop :=
  Put w w' b (.cells #[.int .u64 (U x0), .int .u64 (U x1), .int .u64 (U x2), .int .u64 (U x3)] T (0, 0))
theorem FourPut.four {w w' : World} {b : Nat} {T : TypeId} {x0 x1 x2 x3 : BitVec 64} (h : FourPut w w' b T x0 x1 x2 x3) (hb : b < w.heap.size) : Four w' b T x0 x1 x2 x3 := h.get hb
/-- A round of four numbers. -/
def rnd (v : BitVec 64 × BitVec 64 × BitVec 64 × BitVec 64) : BitVec 64 × BitVec 64 × BitVec 64 × BitVec 64 :=
  let v0 := v.1 + v.2.1
  let v1 := v.2.1.rotateLeft 13 ^^^ v0
  let v0 := v0.rotateLeft 32
  let v2 := v.2.2.1 + v.2.2.2
  let v3 := v.2.2.2.rotateLeft 16 ^^^ v2
  let v0 := v0 + v3
  let v3 := v3.rotateLeft 21 ^^^ v0
  let v2 := v2 + v1
  let v1 := v1.rotateLeft 17 ^^^ v2
  let v2 := v2.rotateLeft 32
  (v0, v1, v2, v3)


set_option maxRecDepth 100000 in
set_option maxHeartbeats 4000000 in
theorem round_any (b : Nat) (T : TypeId) (x0 x1 x2 x3 : BitVec 64) (w : World) (h4 : Four w b T x0 x1 x2 x3) :
    Calls Try.prog 43 #[.pointer (some ⟨b, 0, none⟩)] w fun e w' => e = .returned (.tuple #[]) ∧
      FourPut w w' b T (rnd (x0, x1, x2, x3)).1 (rnd (x0, x1, x2, x3)).2.1 (rnd (x0, x1, x2, x3)).2.2.1 (rnd (x0, x1, x2, x3)).2.2.2 := by
  have hlt := h4.lt
  have hP0 : FourPut w w b T x0 x1 x2 x3 := Put.refl h4
  obtain ⟨⟨c0, c1, c2, c3⟩, f0, f1, f2, f3⟩ := h4.facts
  have HP0 := Lib.hid hP0
  clear hP0 h4
  go_enter Try.func43, Try.ntmps43
  go_wp2
  refine wp_region_still_tail 11 (by kernel_rfl) (by kernel_rfl) ?_
  simp only [List.take_succ_cons, List.take_zero, List.drop_succ_cons, List.drop_zero]
  repeat still_step
  try refine wpStill_nil ?_
  change wpList _ _ _ _ _ w.drew
  go_wp2
  refine abs_code (fun u => FourPut w u b T (x0 + x1) x1 x2 x3) ((HP0.out.set 0 _).drew) ?_
  intro w1 hP1
  clear c0 c1 c2 c3 f0 f1 f2 f3
  obtain ⟨⟨c0, c1, c2, c3⟩, f0, f1, f2, f3⟩ := (hP1.four hlt).facts
  have HP1 := Lib.hid hP1
  clear hP1 HP0
  refine wp_region_still_tail 13 (by kernel_rfl) (by kernel_rfl) ?_
  simp only [List.take_succ_cons, List.take_zero, List.drop_succ_cons, List.drop_zero]
  repeat still_step
  still_call (rot13 _ _)
  repeat still_step
  try refine wpStill_nil ?_
  change wpList _ _ _ _ _ w1.drew
  go_wp2
  refine abs_code (fun u => FourPut w u b T (x0 + x1) (x1.rotateLeft 13 ^^^ (x0 + x1)) x2 x3) ((HP1.out.set 1 _).drew) ?_
  intro w2 hP2
  clear c0 c1 c2 c3 f0 f1 f2 f3
  obtain ⟨⟨c0, c1, c2, c3⟩, f0, f1, f2, f3⟩ := (hP2.four hlt).facts
  have HP2 := Lib.hid hP2
  clear hP2 HP1
  refine wp_region_still_tail 8 (by kernel_rfl) (by kernel_rfl) ?_
  simp only [List.take_succ_cons, List.take_zero, List.drop_succ_cons, List.drop_zero]
  repeat still_step
  still_call (rot32 _ _)
  repeat still_step
  try refine wpStill_nil ?_
  change wpList _ _ _ _ _ w2.drew
  go_wp2
  refine abs_code (fun u => FourPut w u b T ((x0 + x1).rotateLeft 32) (x1.rotateLeft 13 ^^^ (x0 + x1)) x2 x3) ((HP2.out.set 0 _).drew) ?_
  intro w3 hP3
  clear c0 c1 c2 c3 f0 f1 f2 f3
  obtain ⟨⟨c0, c1, c2, c3⟩, f0, f1, f2, f3⟩ := (hP3.four hlt).facts
  have HP3 := Lib.hid hP3
  clear hP3 HP2
  refine wp_region_still_tail 11 (by kernel_rfl) (by kernel_rfl) ?_
  simp only [List.take_succ_cons, List.take_zero, List.drop_succ_cons, List.drop_zero]
  repeat still_step
  try refine wpStill_nil ?_
  change wpList _ _ _ _ _ w3.drew
  go_wp2
  refine abs_code (fun u => FourPut w u b T ((x0 + x1).rotateLeft 32) (x1.rotateLeft 13 ^^^ (x0 + x1)) (x2 + x3) x3) ((HP3.out.set 2 _).drew) ?_
  intro w4 hP4
  clear c0 c1 c2 c3 f0 f1 f2 f3
  obtain ⟨⟨c0, c1, c2, c3⟩, f0, f1, f2, f3⟩ := (hP4.four hlt).facts
  have HP4 := Lib.hid hP4
  clear hP4 HP3
  refine wp_region_still_tail 13 (by kernel_rfl) (by kernel_rfl) ?_
  simp only [List.take_succ_cons, List.take_zero, List.drop_succ_cons, List.drop_zero]
  repeat still_step
  still_call (rot16 _ _)
  repeat still_step
  try refine wpStill_nil ?_
  change wpList _ _ _ _ _ w4.drew
  go_wp2
  refine abs_code (fun u => FourPut w u b T ((x0 + x1).rotateLeft 32) (x1.rotateLeft 13 ^^^ (x0 + x1)) (x2 + x3) (x3.rotateLeft 16 ^^^ (x2 + x3))) ((HP4.out.set 3 _).drew) ?_
  intro w5 hP5
  clear c0 c1 c2 c3 f0 f1 f2 f3
  obtain ⟨⟨c0, c1, c2, c3⟩, f0, f1, f2, f3⟩ := (hP5.four hlt).facts
  have HP5 := Lib.hid hP5
  clear hP5 HP4
  refine wp_region_still_tail 11 (by kernel_rfl) (by kernel_rfl) ?_
  simp only [List.take_succ_cons, List.take_zero, List.drop_succ_cons, List.drop_zero]
  repeat still_step
  try refine wpStill_nil ?_
  change wpList _ _ _ _ _ w5.drew
  go_wp2
  refine abs_code (fun u => FourPut w u b T (((x0 + x1).rotateLeft 32) + (x3.rotateLeft 16 ^^^ (x2 + x3))) (x1.rotateLeft 13 ^^^ (x0 + x1)) (x2 + x3) (x3.rotateLeft 16 ^^^ (x2 + x3))) ((HP5.out.set 0 _).drew) ?_
  intro w6 hP6
  clear c0 c1 c2 c3 f0 f1 f2 f3
  obtain ⟨⟨c0, c1, c2, c3⟩, f0, f1, f2, f3⟩ := (hP6.four hlt).facts
  have HP6 := Lib.hid hP6
  clear hP6 HP5
  refine wp_region_still_tail 13 (by kernel_rfl) (by kernel_rfl) ?_
  simp only [List.take_succ_cons, List.take_zero, List.drop_succ_cons, List.drop_zero]
  repeat still_step
  still_call (rot21 _ _)
  repeat still_step
  try refine wpStill_nil ?_
  change wpList _ _ _ _ _ w6.drew
  go_wp2
  refine abs_code (fun u => FourPut w u b T (((x0 + x1).rotateLeft 32) + (x3.rotateLeft 16 ^^^ (x2 + x3))) (x1.rotateLeft 13 ^^^ (x0 + x1)) (x2 + x3) ((x3.rotateLeft 16 ^^^ (x2 + x3)).rotateLeft 21 ^^^ (((x0 + x1).rotateLeft 32) + (x3.rotateLeft 16 ^^^ (x2 + x3))))) ((HP6.out.set 3 _).drew) ?_
  intro w7 hP7
  clear c0 c1 c2 c3 f0 f1 f2 f3
  obtain ⟨⟨c0, c1, c2, c3⟩, f0, f1, f2, f3⟩ := (hP7.four hlt).facts
  have HP7 := Lib.hid hP7
  clear hP7 HP6
  refine wp_region_still_tail 11 (by kernel_rfl) (by kernel_rfl) ?_
  simp only [List.take_succ_cons, List.take_zero, List.drop_succ_cons, List.drop_zero]
  repeat still_step
  try refine wpStill_nil ?_
  change wpList _ _ _ _ _ w7.drew
  go_wp2
  refine abs_code (fun u => FourPut w u b T (((x0 + x1).rotateLeft 32) + (x3.rotateLeft 16 ^^^ (x2 + x3))) (x1.rotateLeft 13 ^^^ (x0 + x1)) ((x2 + x3) + (x1.rotateLeft 13 ^^^ (x0 + x1))) ((x3.rotateLeft 16 ^^^ (x2 + x3)).rotateLeft 21 ^^^ (((x0 + x1).rotateLeft 32) + (x3.rotateLeft 16 ^^^ (x2 + x3))))) ((HP7.out.set 2 _).drew) ?_
  intro w8 hP8
  clear c0 c1 c2 c3 f0 f1 f2 f3
  obtain ⟨⟨c0, c1, c2, c3⟩, f0, f1, f2, f3⟩ := (hP8.four hlt).facts
  have HP8 := Lib.hid hP8
  clear hP8 HP7
  refine wp_region_still_tail 13 (by kernel_rfl) (by kernel_rfl) ?_
  simp only [List.take_succ_cons, List.take_zero, List.drop_succ_cons, List.drop_zero]
  repeat still_step
  still_call (rot17 _ _)
  repeat still_step
  try refine wpStill_nil ?_
  change wpList _ _ _ _ _ w8.drew
  go_wp2
  refine abs_code (fun u => FourPut w u b T (((x0 + x1).rotateLeft 32) + (x3.rotateLeft 16 ^^^ (x2 + x3))) ((x1.rotateLeft 13 ^^^ (x0 + x1)).rotateLeft 17 ^^^ ((x2 + x3) + (x1.rotateLeft 13 ^^^ (x0 + x1)))) ((x2 + x3) + (x1.rotateLeft 13 ^^^ (x0 + x1))) ((x3.rotateLeft 16 ^^^ (x2 + x3)).rotateLeft 21 ^^^ (((x0 + x1).rotateLeft 32) + (x3.rotateLeft 16 ^^^ (x2 + x3))))) ((HP8.out.set 1 _).drew) ?_
  intro w9 hP9
  clear c0 c1 c2 c3 f0 f1 f2 f3
  obtain ⟨⟨c0, c1, c2, c3⟩, f0, f1, f2, f3⟩ := (hP9.four hlt).facts
  have HP9 := Lib.hid hP9
  clear hP9 HP8
  refine wp_region_still_tail 8 (by kernel_rfl) (by kernel_rfl) ?_
  simp only [List.take_succ_cons, List.take_zero, List.drop_succ_cons, List.drop_zero]
  repeat still_step
  still_call (rot32 _ _)
  repeat still_step
  try refine wpStill_nil ?_
  change wpList _ _ _ _ _ w9.drew
  go_wp2
  go_end0
  exact ⟨rfl, ((HP9.out.set 2 _).drew)⟩

end Go.Proofs.Ytdhbomipffidlaa
