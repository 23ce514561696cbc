/-
  The walks of the reference of layer 1: turns, rounds, rounds undone.
-/
import Derived.Test.YtdhbomipffidlaaSip4
import Derived.Test.YtdhbomipffidlaaLater
import Derived.Test.YtdhbomipffidlaaTail
namespace Go.Proofs.Ytdhbomipffidlaa
open Go.RowKit Go.Shelf
attribute [local go_sem] U_add U_sub U_xor U_or U_and

set_option maxHeartbeats 400000 in
theorem turn13 (x : BitVec 64) (w : World) :
    Calls Try.prog 50 #[.int .u64 (U x), .int .i64 13] w fun e w' => e = .returned (.int .u64 (U (x.rotateLeft 13))) ∧ ∃ n, w' = w.drewN n := by
  have h := rot_arith x 13 (by decide)
  simp at h
  have H := Lib.hid h
  clear h
  go_enter Try.func50, Try.ntmps50
  go_wp2
  go_quiet (fail)
  go_wp2
  go_ret
  exact ⟨by rw [H.out]; rfl, _, rfl⟩

set_option maxHeartbeats 400000 in
theorem turn16 (x : BitVec 64) (w : World) :
    Calls Try.prog 50 #[.int .u64 (U x), .int .i64 16] w fun e w' => e = .returned (.int .u64 (U (x.rotateLeft 16))) ∧ ∃ n, w' = w.drewN n := by
  have h := rot_arith x 16 (by decide)
  simp at h
  have H := Lib.hid h
  clear h
  go_enter Try.func50, Try.ntmps50
  go_wp2
  go_quiet (fail)
  go_wp2
  go_ret
  exact ⟨by rw [H.out]; rfl, _, rfl⟩

set_option maxHeartbeats 400000 in
theorem turn17 (x : BitVec 64) (w : World) :
    Calls Try.prog 50 #[.int .u64 (U x), .int .i64 17] w fun e w' => e = .returned (.int .u64 (U (x.rotateLeft 17))) ∧ ∃ n, w' = w.drewN n := by
  have h := rot_arith x 17 (by decide)
  simp at h
  have H := Lib.hid h
  clear h
  go_enter Try.func50, Try.ntmps50
  go_wp2
  go_quiet (fail)
  go_wp2
  go_ret
  exact ⟨by rw [H.out]; rfl, _, rfl⟩

set_option maxHeartbeats 400000 in
theorem turn21 (x : BitVec 64) (w : World) :
    Calls Try.prog 50 #[.int .u64 (U x), .int .i64 21] w fun e w' => e = .returned (.int .u64 (U (x.rotateLeft 21))) ∧ ∃ n, w' = w.drewN n := by
  have h := rot_arith x 21 (by decide)
  simp at h
  have H := Lib.hid h
  clear h
  go_enter Try.func50, Try.ntmps50
  go_wp2
  go_quiet (fail)
  go_wp2
  go_ret
  exact ⟨by rw [H.out]; rfl, _, rfl⟩

set_option maxHeartbeats 400000 in
theorem turn32 (x : BitVec 64) (w : World) :
    Calls Try.prog 50 #[.int .u64 (U x), .int .i64 32] w fun e w' => e = .returned (.int .u64 (U (x.rotateLeft 32))) ∧ ∃ n, w' = w.drewN n := by
  have h := rot_arith x 32 (by decide)
  simp at h
  have H := Lib.hid h
  clear h
  go_enter Try.func50, Try.ntmps50
  go_wp2
  go_quiet (fail)
  go_wp2
  go_ret
  exact ⟨by rw [H.out]; rfl, _, rfl⟩

set_option maxHeartbeats 400000 in
theorem turn43 (x : BitVec 64) (w : World) :
    Calls Try.prog 50 #[.int .u64 (U x), .int .i64 43] w fun e w' => e = .returned (.int .u64 (U (x.rotateLeft 43))) ∧ ∃ n, w' = w.drewN n := by
  have h := rot_arith x 43 (by decide)
  simp at h
  have H := Lib.hid h
  clear h
  go_enter Try.func50, Try.ntmps50
  go_wp2
  go_quiet (fail)
  go_wp2
  go_ret
  exact ⟨by rw [H.out]; rfl, _, rfl⟩

set_option maxHeartbeats 400000 in
theorem turn47 (x : BitVec 64) (w : World) :
    Calls Try.prog 50 #[.int .u64 (U x), .int .i64 47] w fun e w' => e = .returned (.int .u64 (U (x.rotateLeft 47))) ∧ ∃ n, w' = w.drewN n := by
  have h := rot_arith x 47 (by decide)
  simp at h
  have H := Lib.hid h
  clear h
  go_enter Try.func50, Try.ntmps50
  go_wp2
  go_quiet (fail)
  go_wp2
  go_ret
  exact ⟨by rw [H.out]; rfl, _, rfl⟩

set_option maxHeartbeats 400000 in
theorem turn48 (x : BitVec 64) (w : World) :
    Calls Try.prog 50 #[.int .u64 (U x), .int .i64 48] w fun e w' => e = .returned (.int .u64 (U (x.rotateLeft 48))) ∧ ∃ n, w' = w.drewN n := by
  have h := rot_arith x 48 (by decide)
  simp at h
  have H := Lib.hid h
  clear h
  go_enter Try.func50, Try.ntmps50
  go_wp2
  go_quiet (fail)
  go_wp2
  go_ret
  exact ⟨by rw [H.out]; rfl, _, rfl⟩

set_option maxHeartbeats 400000 in
theorem turn51 (x : BitVec 64) (w : World) :
    Calls Try.prog 50 #[.int .u64 (U x), .int .i64 51] w fun e w' => e = .returned (.int .u64 (U (x.rotateLeft 51))) ∧ ∃ n, w' = w.drewN n := by
  have h := rot_arith x 51 (by decide)
  simp at h
  have H := Lib.hid h
  clear h
  go_enter Try.func50, Try.ntmps50
  go_wp2
  go_quiet (fail)
  go_wp2
  go_ret
  exact ⟨by rw [H.out]; rfl, _, rfl⟩

/-- Two blocks at hand: the numbers at hand in the one, nothing yet in the other. -/
def TwoB (w u : World) (T : TypeId) (v : BitVec 64 × BitVec 64 × BitVec 64 × BitVec 64) : Prop :=
  Below w.heap.size w u ∧ FourV u w.heap.size T v ∧ FourV u (w.heap.size + 1) T (0, 0, 0, 0)
theorem TwoB.step {w u : World} {T : TypeId} {v v' : BitVec 64 × BitVec 64 × BitVec 64 × BitVec 64} (h : TwoB w u T v) {u' : World} (hp : PutV u u' w.heap.size T v') : TwoB w u' T v' :=
  ⟨h.1.trans (hp.below (Nat.le_refl _)), hp.get (Four.lt h.2.1), (hp.other (by omega)).trans h.2.2⟩
theorem TwoB.later {w u : World} {T : TypeId} {v : BitVec 64 × BitVec 64 × BitVec 64 × BitVec 64} (h : TwoB w u T v) (s : Later u.heap.size u) : TwoB w s.W T v :=
  ⟨h.1.trans (s.below.mono h.1.size), (s.below.block _ (Four.lt h.2.1)).trans h.2.1, (s.below.block _ (Four.lt h.2.2)).trans h.2.2⟩

theorem TwoB.put {w u : World} {T : TypeId} {v : BitVec 64 × BitVec 64 × BitVec 64 × BitVec 64} (h : TwoB w u T v) : PutV u u w.heap.size T v := Put.refl h.2.1
/-- A round, undone. -/
def bck (v : BitVec 64 × BitVec 64 × BitVec 64 × BitVec 64) : BitVec 64 × BitVec 64 × BitVec 64 × BitVec 64 :=
  let v2 := v.2.2.1.rotateLeft 32
  let v1 := (v.2.1 ^^^ v2).rotateLeft 47
  let v2 := v2 - v1
  let v3 := (v.2.2.2 ^^^ v.1).rotateLeft 43
  let v0 := v.1 - v3
  let v3 := (v3 ^^^ v2).rotateLeft 48
  let v2 := v2 - v3
  let v0 := v0.rotateLeft 32
  let v1 := (v1 ^^^ v0).rotateLeft 51
  let v0 := v0 - v1
  (v0, v1, v2, v3)

set_option maxRecDepth 100000 in
set_option maxHeartbeats 4000000 in
theorem refRound_any (v : BitVec 64 × BitVec 64 × BitVec 64 × BitVec 64) (w : World) : Calls Try.prog 45 #[.agg #[.int .u64 (U v.1), .int .u64 (U v.2.1), .int .u64 (U v.2.2.1), .int .u64 (U v.2.2.2)]] w fun e w' =>
    e = .returned (.agg #[.int .u64 (U (rnd v).1), .int .u64 (U (rnd v).2.1), .int .u64 (U (rnd v).2.2.1), .int .u64 (U (rnd v).2.2.2)]) ∧ Below w.heap.size w w' := by
  go_enter Try.func45, Try.ntmps45
  apply wp_seq_k; intro _ _
  go_wp2_with fail
  refine abs_code (fun u => TwoB w u 70 ((v.1 + v.2.1), v.2.1, v.2.2.1, v.2.2.2)) ⟨((Below.refl _ w).alloc (Nat.le_refl _) _).alloc (by simp) _, old_at (new_at _ _ _ rfl), new_at _ _ _ (by simp)⟩ ?_
  intro w0 h0
  obtain ⟨⟨c0, c1, c2, c3⟩, g0, g1, g2, g3⟩ := Four.facts h0.2.1
  have H0 := Lib.hid h0
  clear h0
  refine wp_region_later_tail w0.heap.size 7 (by kernel_rfl) (by kernel_rfl) ?_
  simp only [List.take_succ_cons, List.take_zero, List.drop_succ_cons, List.drop_zero]
  have l0 : ∀ s : Later w0.heap.size w0, s.W.cell? ⟨w.heap.size, 0, none⟩ = some _ := fun s => s.cell c0 (Four.lt H0.out.2.1)
  have l1 : ∀ s : Later w0.heap.size w0, s.W.cell? ⟨w.heap.size, 1, none⟩ = some _ := fun s => s.cell c1 (Four.lt H0.out.2.1)
  have l2 : ∀ s : Later w0.heap.size w0, s.W.cell? ⟨w.heap.size, 2, none⟩ = some _ := fun s => s.cell c2 (Four.lt H0.out.2.1)
  have l3 : ∀ s : Later w0.heap.size w0, s.W.cell? ⟨w.heap.size, 3, none⟩ = some _ := fun s => s.cell c3 (Four.lt H0.out.2.1)
  repeat (go_big_quiet_step (exact Calls.later_drew (turn13 _ _)))
  refine wpQuiet_nil ?_
  rintro _ ⟨s, rfl⟩
  have hs := H0.out.later s
  clear l0 l1 l2 l3 c0 c1 c2 c3 g0 g1 g2 g3
  obtain ⟨⟨c0, c1, c2, c3⟩, g0, g1, g2, g3⟩ := Four.facts hs.2.1
  have HS0 := Lib.hid hs
  clear hs H0
  go_wp2_with fail
  refine abs_call (fun u => TwoB w u 70 ((v.1 + v.2.1), (v.2.1.rotateLeft 13 ^^^ (v.1 + v.2.1)), v.2.2.1, v.2.2.2)) (HS0.out.step (HS0.out.put.set 1 _)) ?_
  clear c0 c1 c2 c3 g0 g1 g2 g3 HS0
  intro w1 h1
  obtain ⟨⟨c0, c1, c2, c3⟩, g0, g1, g2, g3⟩ := Four.facts h1.2.1
  have H1 := Lib.hid h1
  clear h1
  refine (turn32 _ _).mono ?_
  rintro e wd ⟨rfl, nd, rfl⟩
  go_wp2_with fail
  refine abs_code (fun u => TwoB w u 70 (((v.1 + v.2.1).rotateLeft 32), (v.2.1.rotateLeft 13 ^^^ (v.1 + v.2.1)), (v.2.2.1 + v.2.2.2), v.2.2.2)) (H1.out.step (((H1.out.put.drewN nd).set 0 _).set 2 _)) ?_
  clear c0 c1 c2 c3 g0 g1 g2 g3 H1
  intro w2 h2
  obtain ⟨⟨c0, c1, c2, c3⟩, g0, g1, g2, g3⟩ := Four.facts h2.2.1
  have H2 := Lib.hid h2
  clear h2
  refine wp_region_later_tail w2.heap.size 7 (by kernel_rfl) (by kernel_rfl) ?_
  simp only [List.take_succ_cons, List.take_zero, List.drop_succ_cons, List.drop_zero]
  have l0 : ∀ s : Later w2.heap.size w2, s.W.cell? ⟨w.heap.size, 0, none⟩ = some _ := fun s => s.cell c0 (Four.lt H2.out.2.1)
  have l1 : ∀ s : Later w2.heap.size w2, s.W.cell? ⟨w.heap.size, 1, none⟩ = some _ := fun s => s.cell c1 (Four.lt H2.out.2.1)
  have l2 : ∀ s : Later w2.heap.size w2, s.W.cell? ⟨w.heap.size, 2, none⟩ = some _ := fun s => s.cell c2 (Four.lt H2.out.2.1)
  have l3 : ∀ s : Later w2.heap.size w2, s.W.cell? ⟨w.heap.size, 3, none⟩ = some _ := fun s => s.cell c3 (Four.lt H2.out.2.1)
  repeat (go_big_quiet_step (exact Calls.later_drew (turn16 _ _)))
  refine wpQuiet_nil ?_
  rintro _ ⟨s, rfl⟩
  have hs := H2.out.later s
  clear l0 l1 l2 l3 c0 c1 c2 c3 g0 g1 g2 g3
  obtain ⟨⟨c0, c1, c2, c3⟩, g0, g1, g2, g3⟩ := Four.facts hs.2.1
  have HS2 := Lib.hid hs
  clear hs H2
  go_wp2_with fail
  refine abs_code (fun u => TwoB w u 70 ((((v.1 + v.2.1).rotateLeft 32) + (v.2.2.2.rotateLeft 16 ^^^ (v.2.2.1 + v.2.2.2))), (v.2.1.rotateLeft 13 ^^^ (v.1 + v.2.1)), (v.2.2.1 + v.2.2.2), (v.2.2.2.rotateLeft 16 ^^^ (v.2.2.1 + v.2.2.2)))) (HS2.out.step ((HS2.out.put.set 3 _).set 0 _)) ?_
  clear c0 c1 c2 c3 g0 g1 g2 g3 HS2
  intro w3 h3
  obtain ⟨⟨c0, c1, c2, c3⟩, g0, g1, g2, g3⟩ := Four.facts h3.2.1
  have H3 := Lib.hid h3
  clear h3
  refine wp_region_later_tail w3.heap.size 7 (by kernel_rfl) (by kernel_rfl) ?_
  simp only [List.take_succ_cons, List.take_zero, List.drop_succ_cons, List.drop_zero]
  have l0 : ∀ s : Later w3.heap.size w3, s.W.cell? ⟨w.heap.size, 0, none⟩ = some _ := fun s => s.cell c0 (Four.lt H3.out.2.1)
  have l1 : ∀ s : Later w3.heap.size w3, s.W.cell? ⟨w.heap.size, 1, none⟩ = some _ := fun s => s.cell c1 (Four.lt H3.out.2.1)
  have l2 : ∀ s : Later w3.heap.size w3, s.W.cell? ⟨w.heap.size, 2, none⟩ = some _ := fun s => s.cell c2 (Four.lt H3.out.2.1)
  have l3 : ∀ s : Later w3.heap.size w3, s.W.cell? ⟨w.heap.size, 3, none⟩ = some _ := fun s => s.cell c3 (Four.lt H3.out.2.1)
  repeat (go_big_quiet_step (exact Calls.later_drew (turn21 _ _)))
  refine wpQuiet_nil ?_
  rintro _ ⟨s, rfl⟩
  have hs := H3.out.later s
  clear l0 l1 l2 l3 c0 c1 c2 c3 g0 g1 g2 g3
  obtain ⟨⟨c0, c1, c2, c3⟩, g0, g1, g2, g3⟩ := Four.facts hs.2.1
  have HS3 := Lib.hid hs
  clear hs H3
  go_wp2_with fail
  refine abs_code (fun u => TwoB w u 70 ((((v.1 + v.2.1).rotateLeft 32) + (v.2.2.2.rotateLeft 16 ^^^ (v.2.2.1 + v.2.2.2))), (v.2.1.rotateLeft 13 ^^^ (v.1 + v.2.1)), ((v.2.2.1 + v.2.2.2) + (v.2.1.rotateLeft 13 ^^^ (v.1 + v.2.1))), ((v.2.2.2.rotateLeft 16 ^^^ (v.2.2.1 + v.2.2.2)).rotateLeft 21 ^^^ (((v.1 + v.2.1).rotateLeft 32) + (v.2.2.2.rotateLeft 16 ^^^ (v.2.2.1 + v.2.2.2)))))) (HS3.out.step ((HS3.out.put.set 3 _).set 2 _)) ?_
  clear c0 c1 c2 c3 g0 g1 g2 g3 HS3
  intro w4 h4
  obtain ⟨⟨c0, c1, c2, c3⟩, g0, g1, g2, g3⟩ := Four.facts h4.2.1
  have H4 := Lib.hid h4
  clear h4
  refine wp_region_later_tail w4.heap.size 7 (by kernel_rfl) (by kernel_rfl) ?_
  simp only [List.take_succ_cons, List.take_zero, List.drop_succ_cons, List.drop_zero]
  have l0 : ∀ s : Later w4.heap.size w4, s.W.cell? ⟨w.heap.size, 0, none⟩ = some _ := fun s => s.cell c0 (Four.lt H4.out.2.1)
  have l1 : ∀ s : Later w4.heap.size w4, s.W.cell? ⟨w.heap.size, 1, none⟩ = some _ := fun s => s.cell c1 (Four.lt H4.out.2.1)
  have l2 : ∀ s : Later w4.heap.size w4, s.W.cell? ⟨w.heap.size, 2, none⟩ = some _ := fun s => s.cell c2 (Four.lt H4.out.2.1)
  have l3 : ∀ s : Later w4.heap.size w4, s.W.cell? ⟨w.heap.size, 3, none⟩ = some _ := fun s => s.cell c3 (Four.lt H4.out.2.1)
  repeat (go_big_quiet_step (exact Calls.later_drew (turn17 _ _)))
  refine wpQuiet_nil ?_
  rintro _ ⟨s, rfl⟩
  have hs := H4.out.later s
  clear l0 l1 l2 l3 c0 c1 c2 c3 g0 g1 g2 g3
  obtain ⟨⟨c0, c1, c2, c3⟩, g0, g1, g2, g3⟩ := Four.facts hs.2.1
  have HS4 := Lib.hid hs
  clear hs H4
  go_wp2_with fail
  refine abs_call (fun u => TwoB w u 70 ((((v.1 + v.2.1).rotateLeft 32) + (v.2.2.2.rotateLeft 16 ^^^ (v.2.2.1 + v.2.2.2))), ((v.2.1.rotateLeft 13 ^^^ (v.1 + v.2.1)).rotateLeft 17 ^^^ ((v.2.2.1 + v.2.2.2) + (v.2.1.rotateLeft 13 ^^^ (v.1 + v.2.1)))), ((v.2.2.1 + v.2.2.2) + (v.2.1.rotateLeft 13 ^^^ (v.1 + v.2.1))), ((v.2.2.2.rotateLeft 16 ^^^ (v.2.2.1 + v.2.2.2)).rotateLeft 21 ^^^ (((v.1 + v.2.1).rotateLeft 32) + (v.2.2.2.rotateLeft 16 ^^^ (v.2.2.1 + v.2.2.2)))))) (HS4.out.step (HS4.out.put.set 1 _)) ?_
  clear c0 c1 c2 c3 g0 g1 g2 g3 HS4
  intro w5 h5
  obtain ⟨⟨c0, c1, c2, c3⟩, g0, g1, g2, g3⟩ := Four.facts h5.2.1
  have H5 := Lib.hid h5
  clear h5
  refine (turn32 _ _).mono ?_
  rintro e wd ⟨rfl, nd, rfl⟩
  obtain ⟨⟨d0, d1, d2, d3⟩, f0, f1, f2, f3⟩ := Four.facts H5.out.2.2
  go_wp2_with fail
  have hE : TwoB w _ 70 (rnd v) := (H5.out.step ((H5.out.put.drewN nd).set 2 _))
  refine bodyPost_ret (v := .agg #[.int .u64 (U (rnd v).1), .int .u64 (U (rnd v).2.1), .int .u64 (U (rnd v).2.2.1), .int .u64 (U (rnd v).2.2.2)]) ?_ rfl ⟨rfl, ?_⟩
  · simp [results, Try.results45, go_sem, d0, d1, d2, d3]
    exact ⟨rfl, rfl, rfl, rfl⟩
  · exact (((hE.1.setCell (by simp) _).setCell (by simp) _).setCell (by simp) _).setCell (by simp) _
end Go.Proofs.Ytdhbomipffidlaa
