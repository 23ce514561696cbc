/-
  The walk of a sum with a key.
-/
import Derived.Test.YtdhbomipffidlaaSip3
namespace Go.Proofs.Ytdhbomipffidlaa
open Go.RowKit Go.Shelf
attribute [local go_sem] U_add U_sub U_xor U_or U_and
attribute [local go_sem] Oper.semAt_some

/-- The numbers that a sum begins with. -/
def sumInit (a b : BitVec 64) : BitVec 64 × BitVec 64 × BitVec 64 × BitVec 64 :=
  (a ^^^ 8317987319222330741#64, b ^^^ 7237128888997146477#64, a ^^^ 7816392313619706465#64, b ^^^ 8387220255154660723#64)
/-- What a sum ends with. -/
def sumEnd (v : BitVec 64 × BitVec 64 × BitVec 64 × BitVec 64) : BitVec 64 :=
  let r := rnd (rnd (rnd (rnd (v.1, v.2.1, v.2.2.1 ^^^ 255#64, v.2.2.2))))
  r.1 ^^^ r.2.1 ^^^ r.2.2.1 ^^^ r.2.2.2
def sumF (a b : BitVec 64) (s : ByteArray) : BitVec 64 := sumEnd ((eightsOf s).foldl addm (sumInit a b))

theorem lit_xor (x : BitVec 64) (n : Nat) (h : n < 18446744073709551616) : bits .xor .u64 (U x) (n : Int) = U (x ^^^ BitVec.ofNat 64 n) := by
  rw [← U_xor, U_lit]
  congr 1
  rw [IntKind.wrap_u64]; omega

theorem U_zero_xor (x : BitVec 64) : bits .xor .u64 0 (U x) = U x := by
  have h : bits .xor .u64 (U 0#64) (U x) = U x := by rw [U_xor, BitVec.zero_xor]
  exact h
attribute [local go_sem] U_zero_xor

theorem eights_any (s : ByteArray) (w : World) : Calls Try.prog 41 #[.string s] w fun e w' => e = .returned (.func (.func 47) #[] #[.pointer (some ⟨w.heap.size, 0, none⟩)]) ∧ w' = w.alloc (.cells #[.string s] 9) := by
  go_enter Try.func41, Try.ntmps41
  go_wp2
  go_ret
  exact ⟨rfl, rfl⟩

set_option maxRecDepth 100000 in
set_option maxHeartbeats 4000000 in
theorem sum_any (a b : BitVec 64) (s : ByteArray) (hs : s.size ≤ 9223372036854775807) (w : World) :
    Calls Try.prog 35 #[.agg #[.int .u64 (U a), .int .u64 (U b)], .string s] w fun e w' => e = .returned (.int .u64 (U (sumF a b s))) ∧ Below w.heap.size w w' := by
  have x0 : bits .xor .u64 (U a) 8317987319222330741 = U (a ^^^ 8317987319222330741#64) := lit_xor a 8317987319222330741 (by decide)
  have x1 : bits .xor .u64 (U b) 7237128888997146477 = U (b ^^^ 7237128888997146477#64) := lit_xor b 7237128888997146477 (by decide)
  have x2 : bits .xor .u64 (U a) 7816392313619706465 = U (a ^^^ 7816392313619706465#64) := lit_xor a 7816392313619706465 (by decide)
  have x3 : bits .xor .u64 (U b) 8387220255154660723 = U (b ^^^ 8387220255154660723#64) := lit_xor b 8387220255154660723 (by decide)
  refine (callsIn_wide (n := 3)).1 ?_
  refine callsIn_of_wp_marks Try.func35 rfl trivial ?_ rfl
  simp only [Try.ntmps35, List.size_toArray, List.length_cons, List.length_nil, Nat.reduceAdd, Nat.reduceSub, Array.replicate_succ, Array.replicate_zero, List.push_toArray, List.append_toArray, List.nil_append, List.cons_append]
  refine wpIn_wide.2 ?_
  go_wp2_with fail
  refine (eights_any s _).mono ?_
  rintro e w1 ⟨rfl, rfl⟩
  go_wp2_with fail
  clear x0 x1 x2 x3
  refine abs_code (fun W0 => Below w.heap.size w W0 ∧ FourV W0 (w.heap.size + 1) 73 (sumInit a b) ∧ Boxed W0 (w.heap.size + 2) 69 (.pointer (some ⟨w.heap.size + 1, 0, none⟩)) ∧ Boxed W0 (w.heap.size + 3) 9 (.string s) ∧ W0.heap.size = w.heap.size + 4) ?_ ?_
  · refine ⟨((((Below.refl _ w).alloc (Nat.le_refl _) _).alloc (by simp) _).alloc (by simp; omega) _).alloc (by simp; omega) _, ?_, ?_, ?_, ?_⟩
    · exact old_at (old_at (new_at _ _ _ (by simp)))
    · exact old_at (new_at _ _ _ (by simp))
    · exact new_at _ _ _ (by simp)
    · simp
  rintro W0 ⟨hB0, h4, hbx, hbs, hsz⟩
  refine (wpIn_wide (n := 3)).1 ?_
  refine wpIn_rangeFunc_st (F := Fence.wide) (n := 3) rfl (by omega) (gf := 47) (lb := #[.pointer (some ⟨w.heap.size + 3, 0, none⟩)]) rfl trivial (enters_of Try.func47 (by kernel_rfl) rfl)
    (encs := fun x : BitVec 64 => #[.int .u64 (U x)]) (Kp := fun A B => B.heap[w.heap.size + 3]? = A.heap[w.heap.size + 3]?) (St := fun A B => ∃ v, B = A.setCell ⟨w.heap.size + 3, 0, none⟩ v) (S := fun xs => xs = eightsOf s) (N := s.size + 1) (Pre := fun W => Boxed W (w.heap.size + 3) 9 (.string s))
    ?seq ?pre (fun h k => k.trans h) ?kb ?st (fun _ => rfl)
    (fun pre W => w.heap.size + 4 ≤ W.heap.size ∧ Below w.heap.size w W ∧ FourV W (w.heap.size + 1) 73 (pre.foldl addm (sumInit a b)) ∧ Boxed W (w.heap.size + 2) 69 (.pointer (some ⟨w.heap.size + 1, 0, none⟩)))
    ?own ?ownst ⟨by omega, hB0, h4, hbx⟩
    ?a1 ?assign ?body ?done
  case assign =>
    intro l x W K hK
    gi_wp2
    exact hK
  case seq =>
    intro l J hJ hY W h0 hp
    exact (eights1_in Fence.wide 2 trivial rfl (by omega) l (w.heap.size + 3) 9 s hs J (fun pre A v h => hJ pre A _ h ⟨v, rfl⟩) hY W hp h0).mono fun e W' ⟨he, hj⟩ => ⟨he, _, rfl, hj⟩
  case pre => exact fun W hW => (hW.block _ (by omega)).trans hbs
  case kb => exact fun W l o' hl => World.putObj_heap_other (by omega)
  case st =>
    rintro A B k o ⟨v, rfl⟩ h ho
    exact (KeepsOthers.setCell A _ v).same k o h ho
  case own =>
    refine OwnFrom.and (fun s A B row hs hg hr => Nat.le_trans hs hg.size) (OwnFrom.and (ownFrom_below (Nat.le_refl _) (by omega)) (OwnFrom.and (Own.from ?_ _) (Own.from (boxed_own _ _ _) _)))
    intro pre A B row h hg hr
    exact cells_kept h hg hr
  case ownst =>
    rintro pre A B ⟨hz, h1, h2, h3⟩ ⟨v, rfl⟩
    refine ⟨by simpa [World.setCell] using hz, h1.setCell (by simp) _, ?_, ?_⟩
    · exact (Below.heap_setCell A _ _ _ (by simp)).trans h2
    · exact (Below.heap_setCell A _ _ _ (by simp)).trans h3
  case body =>
    rintro l pre x W ⟨hz, hB, h4W, hbW⟩ _
    have hcb := hbW.cell
    have hm := (Boxed.new W 22 (.int .u64 (U x))).cell
    have h4a : FourV (W.alloc (.cells #[.int .u64 (U x)] 22)) (w.heap.size + 1) 73 (pre.foldl addm (sumInit a b)) := old_at h4W
    gi_wp2
    refine ⟨trivial, ?_⟩
    refine (CallsIn.inRound l (callsIn_wide.2 (add_any _ _ _ _ x _ h4a hm))).mono ?_
    rintro e W3 ⟨rfl, hP⟩
    have hlt := Four.lt h4W
    have hk := (KeepsOthers.alloc W (.cells #[.int .u64 (U x)] 22)).trans (keeps_of_cells h4a hP.size (fun k hk => hP.other hk))
    gi_wp2
    refine ⟨hk.from _, (hP.other (by omega)).trans (Below.heap_alloc _ _ _ (by omega)), by rw [hP.size]; simp; omega, (hB.alloc hB.size _).trans (hP.below (by omega)), hP.get (by simp; omega), (hP.other (by omega)).trans (old_at hbW)⟩
  case done =>
    rintro D xs W hD rfl ⟨hz, hB, h4W, hbW⟩ hK
    have hcb := hbW.cell
    have hlt := Four.lt h4W
    obtain ⟨⟨c0, c1, c2, c3⟩, f0, f1, f2, f3⟩ := Four.facts h4W
    have HK := hK
    clear hK
    have hB0' := hB
    clear hB0 h4 hbx hbs hB
    have hsum : sumF a b s = sumEnd ((eightsOf s).foldl addm (sumInit a b)) := rfl
    generalize (eightsOf s).foldl addm (sumInit a b) = v at *
    have HSum := Lib.hid hsum
    clear hsum
    have y0 : bits .xor .u64 (U v.2.2.1) 255 = U (v.2.2.1 ^^^ 255#64) := lit_xor v.2.2.1 255 (by decide)
    go_wp2_with fail
    refine wp_region_still_tail 9 (by kernel_rfl) (by kernel_rfl) ?_
    simp only [List.take_succ_cons, List.take_zero, List.drop_succ_cons, List.drop_zero]
    repeat still_step
    try refine wpStill_nil ?_
    change wpList _ _ _ _ _ W.drew
    go_wp2_with fail
    refine wp_loop_rounds 5 ?_
    rw [rounds_succ]
    have HW := Lib.hid (show PutV W W (w.heap.size + 1) 73 v from Put.refl h4W)
    refine abs_code (fun u => PutV W u (w.heap.size + 1) 73 (v.1, v.2.1, v.2.2.1 ^^^ 255#64, v.2.2.2)) ((HW.out.set 2 _).drew) ?_
    intro w1 hP1
    have HP1 := Lib.hid hP1
    clear hP1 HW c0 c1 c2 c3 f0 f1 f2 f3 hcb y0
    have hcb : w1.cell? ⟨w.heap.size + 2, 0, none⟩ = some (.pointer (some ⟨w.heap.size + 1, 0, none⟩)) := Boxed.cell ((HP1.out.other (by omega)).trans hbW)
    go_wp2_with fail
    refine (round_v _ 73 _ w1 (HP1.out.get hlt)).mono ?_
    rintro e w2 ⟨rfl, hP2⟩
    have HP2 := Lib.hid (HP1.out.trans hP2)
    clear hP2 HP1 hcb
    go_wp2_with fail
    rw [rounds_succ]
    have hcb : w2.cell? ⟨w.heap.size + 2, 0, none⟩ = some (.pointer (some ⟨w.heap.size + 1, 0, none⟩)) := Boxed.cell ((HP2.out.other (by omega)).trans hbW)
    go_wp2_with fail
    refine (round_v _ 73 _ w2 (HP2.out.get hlt)).mono ?_
    rintro e w3 ⟨rfl, hP3⟩
    have HP3 := Lib.hid (HP2.out.trans hP3)
    clear hP3 HP2 hcb
    go_wp2_with fail
    rw [rounds_succ]
    have hcb : w3.cell? ⟨w.heap.size + 2, 0, none⟩ = some (.pointer (some ⟨w.heap.size + 1, 0, none⟩)) := Boxed.cell ((HP3.out.other (by omega)).trans hbW)
    go_wp2_with fail
    refine (round_v _ 73 _ w3 (HP3.out.get hlt)).mono ?_
    rintro e w4 ⟨rfl, hP4⟩
    have HP4 := Lib.hid (HP3.out.trans hP4)
    clear hP4 HP3 hcb
    go_wp2_with fail
    rw [rounds_succ]
    have hcb : w4.cell? ⟨w.heap.size + 2, 0, none⟩ = some (.pointer (some ⟨w.heap.size + 1, 0, none⟩)) := Boxed.cell ((HP4.out.other (by omega)).trans hbW)
    go_wp2_with fail
    refine (round_v _ 73 _ w4 (HP4.out.get hlt)).mono ?_
    rintro e w5 ⟨rfl, hP5⟩
    have HP5 := Lib.hid (HP4.out.trans hP5)
    clear hP5 HP4 hcb
    go_wp2_with fail
    rw [rounds_succ]
    have hcb : w5.cell? ⟨w.heap.size + 2, 0, none⟩ = some (.pointer (some ⟨w.heap.size + 1, 0, none⟩)) := Boxed.cell ((HP5.out.other (by omega)).trans hbW)
    obtain ⟨⟨c0, c1, c2, c3⟩, -⟩ := Four.facts (HP5.out.get hlt)
    have hD5 : w5.heap[D]? = some (.deferred (some [])) := (HP5.out.other (by omega)).trans HK
    have hB5 : Below w.heap.size w w5 := hB0'.trans (HP5.out.below (by omega))
    have HD5 := Lib.hid hD5
    have hz5 : w5.heap.size = W.heap.size := HP5.out.size
    clear HP5 hD5 HK hbW hlt h4W
    have hend : sumEnd v = (rnd (rnd (rnd (rnd (v.1, v.2.1, v.2.2.1 ^^^ 255#64, v.2.2.2))))).1 ^^^ (rnd (rnd (rnd (rnd (v.1, v.2.1, v.2.2.1 ^^^ 255#64, v.2.2.2))))).2.1 ^^^ (rnd (rnd (rnd (rnd (v.1, v.2.1, v.2.2.1 ^^^ 255#64, v.2.2.2))))).2.2.1 ^^^ (rnd (rnd (rnd (rnd (v.1, v.2.1, v.2.2.1 ^^^ 255#64, v.2.2.2))))).2.2.2 := rfl
    generalize rnd (rnd (rnd (rnd (v.1, v.2.1, v.2.2.1 ^^^ 255#64, v.2.2.2)))) = r at *
    have HE := Lib.hid hend
    clear hend
    have i0 : ∀ w, (Instr.index 71 (.agg #[.int .u64 (U r.1), .int .u64 (U r.2.1), .int .u64 (U r.2.2.1), .int .u64 (U r.2.2.2)]) (.int .i64 0)).run Try.prog w = .ok (.int .u64 (U r.1)) w := fun _ => by kernel_rfl
    have i1 : ∀ w, (Instr.index 71 (.agg #[.int .u64 (U r.1), .int .u64 (U r.2.1), .int .u64 (U r.2.2.1), .int .u64 (U r.2.2.2)]) (.int .i64 1)).run Try.prog w = .ok (.int .u64 (U r.2.1)) w := fun _ => by kernel_rfl
    have i2 : ∀ w, (Instr.index 71 (.agg #[.int .u64 (U r.1), .int .u64 (U r.2.1), .int .u64 (U r.2.2.1), .int .u64 (U r.2.2.2)]) (.int .i64 2)).run Try.prog w = .ok (.int .u64 (U r.2.2.1)) w := fun _ => by kernel_rfl
    have i3 : ∀ w, (Instr.index 71 (.agg #[.int .u64 (U r.1), .int .u64 (U r.2.1), .int .u64 (U r.2.2.1), .int .u64 (U r.2.2.2)]) (.int .i64 3)).run Try.prog w = .ok (.int .u64 (U r.2.2.2)) w := fun _ => by kernel_rfl
    go_wp2_with fail
    refine wp_loop_rounds 5 ?_
    rw [rounds_succ]
    go_wp2_with fail
    rw [rounds_succ]
    go_wp2_with fail
    rw [rounds_succ]
    go_wp2_with fail
    rw [rounds_succ]
    go_wp2_with fail
    rw [rounds_succ]
    go_wp2_with fail
    refine ⟨by simp, .inl ⟨_, _, rfl, run_takeDeferred HD5.out, ?_⟩⟩
    refine ⟨_, results_tmp rfl _ _ _, ?_, ?_⟩
    · rw [HSum.out, HE.out]; rfl
    · exact hB5.trans (belowK_b (w := w) (Nat.le_refl _) w5 D _ _ (by omega) HD5.out rfl rfl)
end Go.Proofs.Ytdhbomipffidlaa
