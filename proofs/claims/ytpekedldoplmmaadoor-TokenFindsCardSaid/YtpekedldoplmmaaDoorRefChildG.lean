/-
  The walk of the reference's child. (Part of RefSum.)
-/
import Derived.Test.YtpekedldoplmmaaDoorRefSumG
namespace Go.Proofs.YtpekedldoplmmaaDoor
open Go.RowKit Go.Shelf
attribute [local go_sem] U_add U_sub U_xor U_or U_and



set_option maxRecDepth 100000 in
set_option maxHeartbeats 2000000 in
theorem refChild_any (a b : BitVec 64) (s : ByteArray) (hs : s.size + 1 ≤ 65535) (w : World) :
    Calls Tryd.prog 30 #[.agg #[.int .u64 (U a), .int .u64 (U b)], .string s] w fun e w' => e = .returned (.agg #[.int .u64 (U (sumF a b (⟨#[0]⟩ ++ s))), .int .u64 (U (sumF a b (⟨#[1]⟩ ++ s)))]) ∧ Below w.heap.size w w' := by
  have z : ∀ c : ByteArray, c.size = 1 → (c ++ s : ByteArray).size ≤ 65535 := fun c hc => by rw [size_cat, hc]; omega
  have Z := Lib.hid z
  clear z
  go_enter Tryd.func30, Tryd.ntmps30
  go_wp2_with fail
  refine abs_code (fun u => Below w.heap.size w u ∧ KeyAt u w.heap.size 24 a b ∧ KeyAt u (w.heap.size + 1) 24 0 0) ⟨((Below.refl _ w).alloc (Nat.le_refl _) _).alloc (by simp) _, old_at (new_at _ _ _ rfl), new_at _ _ _ (by simp)⟩ ?_
  rintro w0 ⟨hB0, h0, g0⟩
  obtain ⟨⟨c0, c1⟩, -⟩ := h0.facts
  refine wp_region_later_tail w0.heap.size 9 (by kernel_rfl) (by kernel_rfl) ?_
  simp only [List.take_succ_cons, List.take_zero, List.drop_succ_cons, List.drop_zero]
  have l0 : ∀ s : Later w0.heap.size w0, s.W.cell? ⟨w.heap.size, 0, none⟩ = some _ := fun s => s.cell c0 h0.lt
  have l1 : ∀ s : Later w0.heap.size w0, s.W.cell? ⟨w.heap.size, 1, none⟩ = some _ := fun s => s.cell c1 h0.lt
  repeat (go_big_quiet_step ((go_at_call 29; exact Calls.later (Nat.le_refl _) (refSum_any _ _ _ (Z.out _ rfl) _))))
  refine wpQuiet_nil ?_
  rintro _ ⟨u, rfl⟩
  have g1 : KeyAt u.W (w.heap.size + 1) 24 0 0 := (u.below.block _ g0.lt).trans g0
  have hB1 := hB0.trans (u.below.mono hB0.size)
  obtain ⟨⟨d0, d1⟩, f0, f1⟩ := g1.facts
  clear l0 l1 c0 c1
  go_wp2_with fail
  generalize sumF a b (⟨#[0]⟩ ++ s) = y0
  generalize sumF a b (⟨#[1]⟩ ++ s) = y1
  refine bodyPost_ret (v := .agg #[.int .u64 (U y0), .int .u64 (U y1)]) ?_ rfl ⟨rfl, ?_⟩
  · simp [results, Tryd.results30, go_sem, d0, d1]
  · exact (hB1.setCell (by simp) _).setCell (by simp) _

end Go.Proofs.YtpekedldoplmmaaDoor
