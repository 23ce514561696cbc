/-
  The walks of package sip: a summer adds one number; the eights of a text.
-/
import Derived.Test.YtdhbomipffidlaaSip
import Derived.Test.YtdhbomipffidlaaIter
namespace Go.Proofs.Ytdhbomipffidlaa
open Go.RowKit Go.Shelf
attribute [local go_sem] U_add U_sub U_xor U_or U_and

/-- A number is added: two rounds. -/
def addm (v : BitVec 64 × BitVec 64 × BitVec 64 × BitVec 64) (m : BitVec 64) : BitVec 64 × BitVec 64 × BitVec 64 × BitVec 64 :=
  let r := rnd (rnd (v.1, v.2.1, v.2.2.1, v.2.2.2 ^^^ m))
  (r.1 ^^^ m, r.2.1, r.2.2.1, r.2.2.2)

def FourV (w : World) (b : Nat) (T : TypeId) (v : BitVec 64 × BitVec 64 × BitVec 64 × BitVec 64) : Prop := Four w b T v.1 v.2.1 v.2.2.1 v.2.2.2
def PutV (w w' : World) (b : Nat) (T : TypeId) (v : BitVec 64 × BitVec 64 × BitVec 64 × BitVec 64) : Prop := FourPut w w' b T v.1 v.2.1 v.2.2.1 v.2.2.2

theorem round_v (b : Nat) (T : TypeId) (v : BitVec 64 × BitVec 64 × BitVec 64 × BitVec 64) (w : World) (h4 : FourV w b T v) :
    Calls Try.prog 43 #[.pointer (some ⟨b, 0, none⟩)] w fun e w' => e = .returned (.tuple #[]) ∧ PutV w w' b T (rnd v) :=
  round_any b T v.1 v.2.1 v.2.2.1 v.2.2.2 w h4

set_option maxRecDepth 100000 in
set_option maxHeartbeats 4000000 in
theorem add_any (b bm : Nat) (T : TypeId) (v : BitVec 64 × BitVec 64 × BitVec 64 × BitVec 64) (m : BitVec 64) (w : World) (h4 : FourV w b T v) (hm : w.cell? ⟨bm, 0, none⟩ = some (.int .u64 (U m))) :
    Calls Try.prog 42 #[.pointer (some ⟨b, 0, none⟩), .slice (some ⟨bm, 0, none⟩) 1 1] w fun e w' => e = .returned (.tuple #[]) ∧ PutV w w' b T (addm v m) := by
  have hlt := Four.lt h4
  have HP0 := Lib.hid (show PutV w w b T v from Put.refl h4)
  obtain ⟨⟨c0, c1, c2, c3⟩, f0, f1, f2, f3⟩ := Four.facts h4
  clear h4
  go_enter Try.func42, Try.ntmps42
  go_wp2
  refine wp_loop_rounds 2 ?_
  rw [rounds_succ]
  go_wp2
  refine wp_region_still_tail 10 (by kernel_rfl) (by kernel_rfl) ?_
  simp only [List.take_succ_cons, List.take_zero, List.drop_succ_cons, List.drop_zero]
  repeat still_step
  try refine wpStill_nil ?_
  change wpList _ _ _ _ _ w.drew
  go_wp2_with fail
  refine abs_call (fun u => PutV w u b T (v.1, v.2.1, v.2.2.1, v.2.2.2 ^^^ m)) ((HP0.out.set 3 _).drew) ?_
  intro w1 hP1
  refine (round_v b T _ w1 (hP1.four hlt)).mono ?_
  rintro e w2 ⟨rfl, hP2⟩
  have HP2 := Lib.hid (hP1.trans hP2)
  clear hP1 hP2 c0 c1 c2 c3 f0 f1 f2 f3 hm HP0
  go_wp2_with fail
  refine (round_v b T _ w2 (HP2.out.get hlt)).mono ?_
  rintro e w3 ⟨rfl, hP3⟩
  have hP4 := HP2.out.trans hP3
  clear HP2 hP3
  obtain ⟨⟨c0, c1, c2, c3⟩, f0, f1, f2, f3⟩ := Four.facts (hP4.get hlt)
  have HP4 := Lib.hid hP4
  clear hP4
  go_wp2_with fail
  refine wp_region_still_tail 10 (by kernel_rfl) (by kernel_rfl) ?_
  simp only [List.take_succ_cons, List.take_zero, List.drop_succ_cons, List.drop_zero]
  repeat still_step
  try refine wpStill_nil ?_
  change wpList _ _ _ _ _ w3.drew
  go_wp2_with fail
  rw [rounds_succ]
  refine abs_code (fun u => PutV w u b T (addm v m)) ((HP4.out.set 0 _).drew) ?_
  intro w5 hP5
  have HP5 := Lib.hid hP5
  clear hP5 HP4 c0 c1 c2 c3 f0 f1 f2 f3
  go_wp2_with fail
  go_end0
  exact ⟨rfl, HP5.out⟩

end Go.Proofs.Ytdhbomipffidlaa
