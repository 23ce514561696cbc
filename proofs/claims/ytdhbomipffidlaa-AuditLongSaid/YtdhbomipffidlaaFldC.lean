/-
  A first byte, and so many of a number's: put of package field.
-/
import Derived.Test.YtdhbomipffidlaaFldB
import Derived.RangeFuncBox
import Derived.RangeFuncFrom
namespace Go.Proofs.Ytdhbomipffidlaa
open Go.RowKit Go.Shelf
attribute [local go_sem] Oper.semAt_some

theorem wpListIn_append_run {F : Fence} {n : Nat} {P : Program} {w : World} {ops : Array Oper} {rest : List Oper} {o : Oper} {a : Act} {Q : Exit → Act → World → Prop} (hgd : o.guard = none) (s x : Operand) (t : TypeId)
    (ho : o.op = .call { callee := .builtin .append, args := #[s, x], argTypes := #[t, t] }) {u1 u2 r : Value} {W : World} (hs : a.eval s = u1) (hx : a.eval x = u2)
    (hrun : (Builtin.append_ #[t, t] o.type #[u1, u2]).run P w = .ok r W) (h : wpListIn F n P ops Q rest (a.put o.dst r) W) : wpListIn F n P ops Q (o :: rest) a w := by
  refine wpListIn_plain hgd fun K hK' => ?_
  unfold Oper.wpIn
  refine ⟨?_, ?_⟩
  · simp [Oper.about, ho, resolve, Target.leads, Sem.run_pure]
  · rw [Oper.semAt_plain F _ _ (by rw [ho]; intro c hc'; cases hc')]
    simp [execOp, ho, resolve, invoke, builtin, hs, hx, hrun, Result.andThen]
    exact hK' _ _ h

theorem bytes_any (m : BitVec 64) (size : Nat) (w : World) : Calls Try.prog 51 #[.int .u64 (U m), .int .i64 (size : Int)] w fun e w' => e = .returned (.func (.func 52) #[] #[.pointer (some ⟨w.heap.size + 1, 0, none⟩), .pointer (some ⟨w.heap.size, 0, none⟩)]) ∧ w' = (w.alloc (.cells #[.int .u64 (U m)] 22)).alloc (.cells #[.int .i64 (size : Int)] 3) := by
  go_enter Try.func51, Try.ntmps51
  go_wp2
  go_ret
  exact ⟨by simp, rfl⟩

/-- The box of put's list holds these bytes, which are the call's own. -/
def OutB (n₀ : Nat) (first : UInt8) (pre : List UInt8) (W : World) : Prop := ∃ v, Boxed W (n₀ + 1) 78 v ∧ W.ownsRow n₀ 5 1 v (first :: pre).length ((first :: pre).map enc8) ∧ True
/-- A first byte, and so many of a number's. -/
def putL (first : UInt8) (m : BitVec 64) (size : Nat) : List UInt8 := first :: beGo m size

set_option maxRecDepth 100000 in
set_option maxHeartbeats 4000000 in
theorem put_any (first : UInt8) (m : BitVec 64) (size : Nat) (hsz : size ≤ 8) (w : World) :
    Calls Try.prog 49 #[.int .i64 (first.toNat : Int), .int .u64 (U m), .int .i64 (size : Int)] w fun e w' => e = .returned (.string ⟨(putL first m size).toArray⟩) ∧ Below w.heap.size w w' := by
  have hwr : IntKind.u8.wrap (first.toNat : Int) = (first.toNat : Int) := by
    have := first.toNat_lt
    simp [IntKind.wrap, IntKind.bits, IntKind.signed]
    omega
  refine (callsIn_wide (n := 3)).1 ?_
  refine callsIn_of_wp_marks Try.func49 rfl trivial ?_ rfl
  simp only [Try.ntmps49, List.size_toArray, List.length_cons, List.length_nil, Nat.reduceAdd, Nat.reduceSub, Array.replicate_succ, Array.replicate_zero, List.push_toArray, List.append_toArray, List.nil_append, List.cons_append]
  refine wpIn_wide.2 ?_
  go_wp2_with fail
  refine (bytes_any m size _).mono ?_
  rintro e w1 ⟨rfl, rfl⟩
  go_wp2_with fail
  clear hwr
  refine abs_code (fun W0 => Below w.heap.size w W0 ∧ Boxed W0 (w.heap.size + 1) 78 (.slice (some ⟨w.heap.size, 0, none⟩) 1 1) ∧ OwnB W0 w.heap.size (.slice (some ⟨w.heap.size, 0, none⟩) 1 1) [first] ∧ Boxed W0 (w.heap.size + 2) 22 (.int .u64 (U m)) ∧ Boxed W0 (w.heap.size + 3) 3 (.int .i64 (size : Int)) ∧ W0.heap.size = w.heap.size + 4) ?_ ?_
  · refine ⟨((((Below.refl _ w).alloc (Nat.le_refl _) _).alloc (by simp) _).alloc (by simp; omega) _).alloc (by simp; omega) _, ?_, ?_, ?_, ?_, ?_⟩
    · exact old_at (old_at (new_at _ _ _ (by simp)))
    · have hq : ((((w.alloc (.cells #[.int .u8 (first.toNat : Int)] 5)).alloc (.cells #[.slice (some ⟨w.heap.size, 0, none⟩) 1 1] 78)).alloc (.cells #[.int .u64 (U m)] 22)).alloc (.cells #[.int .i64 (size : Int)] 3)).heap[w.heap.size]? = some (.cells #[.int .u8 (first.toNat : Int)] 5 (0, 0)) := old_at (old_at (old_at (new_at _ _ _ rfl)))
      exact ⟨by simp, .inr ⟨w.heap.size, 1, #[.int .u8 (first.toNat : Int)], rfl, Nat.le_refl _, hq, by simp, by decide, by simp, by simp [enc8]⟩⟩
    · exact old_at (new_at _ _ _ (by simp))
    · exact new_at _ _ _ (by simp)
    · simp
  rintro W0 ⟨hB0, hbo, hown0, hbn, hbz, hsz4⟩
  refine (wpIn_wide (n := 3)).1 ?_
  refine wpIn_rangeFunc_st (F := Fence.wide) (n := 3) rfl (by omega) (gf := 52) (lb := #[.pointer (some ⟨w.heap.size + 3, 0, none⟩), .pointer (some ⟨w.heap.size + 2, 0, none⟩)]) rfl trivial (enters_of Try.func52 (by kernel_rfl) rfl)
    (encs := fun x : UInt8 => #[.int .u8 (x.toNat : Int)]) (Kp := fun A B => B.heap[w.heap.size + 2]? = A.heap[w.heap.size + 2]? ∧ B.heap[w.heap.size + 3]? = A.heap[w.heap.size + 3]?) (St := fun A B => A = B) (S := fun xs => xs = beGo m size) (N := size) (Pre := fun W => Boxed W (w.heap.size + 2) 22 (.int .u64 (U m)) ∧ Boxed W (w.heap.size + 3) 3 (.int .i64 (size : Int)))
    ?seq ?pre (fun h k => ⟨k.1.trans h.1, k.2.trans h.2⟩) ?kb ?st (fun _ => rfl)
    (fun pre W => w.heap.size + 4 ≤ W.heap.size ∧ Below w.heap.size w W ∧ OutB w.heap.size first pre W ∧ Boxed W (w.heap.size + 2) 22 (.int .u64 (U m)) ∧ Boxed W (w.heap.size + 3) 3 (.int .i64 (size : Int)))
    ?own ?ownst ⟨by omega, hB0, ⟨_, hbo, hown0, trivial⟩, hbn, hbz⟩
    ?a1 ?assign ?body ?done
  case assign =>
    intro l x W K hK
    gi_wp2
    exact hK
  case seq =>
    intro l J hJ hY W h0 hp
    exact (bytes1_in Fence.wide 2 trivial rfl (by omega) l (w.heap.size + 2) (w.heap.size + 3) 22 3 m size hsz J hY W hp.1 hp.2 h0).mono fun e W' ⟨he, hj⟩ => ⟨he, _, rfl, hj⟩
  case pre => exact fun W hW => ⟨(hW.block _ (by omega)).trans hbn, (hW.block _ (by omega)).trans hbz⟩
  case kb => exact fun W l o' hl => ⟨World.putObj_heap_other (by omega), World.putObj_heap_other (by omega)⟩
  case st =>
    rintro A B k o rfl h ho
    exact h
  case own =>
    exact OwnFrom.and (fun s A B row hs hg hr => Nat.le_trans hs hg.size) (OwnFrom.and (ownFrom_below (Nat.le_refl _) (by omega)) (OwnFrom.and (Own.from (show Own (fun (pre : List UInt8) W => OutB w.heap.size first pre W) from holdsRow_own w.heap.size (w.heap.size + 1) 78 5 1 (fun pre => (first :: pre).length) (fun pre => (first :: pre).map enc8) (fun _ _ => True)) _) (OwnFrom.and (Own.from (boxed_own _ _ _) _) (Own.from (boxed_own _ _ _) _))))
  case ownst =>
    rintro pre A B h rfl
    exact h
  case body =>
    rintro l pre x W ⟨hz, hB, ⟨v, hv, hown, -⟩, h2, h3⟩ hlen
    have hm := (Boxed.new W 5 (.int .u8 (x.toNat : Int))).cell
    have hcb := hv.cell
    have hown1 : OwnB (W.alloc (.cells #[.int .u8 (x.toNat : Int)] 5)) w.heap.size v (first :: pre) := OwnB.of hown (fun k _ hk => Below.heap_alloc _ _ _ hk)
    obtain ⟨v', w1, hrun, hown', -, hgrow⟩ := append_byte _ w.heap.size v (first :: pre) x W.heap.size hown1 hm (by simp; omega) (by simp; omega)
    obtain ⟨g1, g2, g3, g4, g5⟩ := Boxed.appended hv (by decide) hown (by omega) (Nat.le_succ _) hown' hgrow
    have b2 : Boxed w1 (w.heap.size + 2) 22 (.int .u64 (U m)) := (h2.alloc _).kept hgrow (h2.not_row (by decide) hown)
    have b3 : Boxed w1 (w.heap.size + 3) 3 (.int .i64 (size : Int)) := (h3.alloc _).kept hgrow (h3.not_row (by decide) hown)
    have hs1 : W.heap.size + 1 ≤ w1.heap.size := by have := hgrow.size; simpa using this
    obtain ⟨A', c', rfl, -⟩ := hown'.slice
    have hOut : OutB w.heap.size first (pre ++ [x]) (w1.setCell ⟨w.heap.size + 1, 0, none⟩ (.slice A' ((first :: pre) ++ [x]).length c')) := ⟨_, g2, g3, trivial⟩
    have hc1 := g1.cell
    have hf1 := g1.frozen
    have b2s := (Below.heap_setCell w1 ⟨w.heap.size + 1, 0, none⟩ (.slice A' ((first :: pre) ++ [x]).length c') (w.heap.size + 2) (by simp)).trans b2
    have b3s := (Below.heap_setCell w1 ⟨w.heap.size + 1, 0, none⟩ (.slice A' ((first :: pre) ++ [x]).length c') (w.heap.size + 3) (by simp)).trans b3
    clear hown1 hown' hgrow hown hm g1 g2 g3
    generalize ((first :: pre) ++ [x]).length = N' at *
    have HR := Lib.hid hrun
    have HOut := Lib.hid hOut
    have K2 := Lib.hid (b2s.trans h2.symm)
    have K3 := Lib.hid (b3s.trans h3.symm)
    have B2 := Lib.hid b2s
    have B3 := Lib.hid b3s
    clear hrun hOut b2s b3s
    gi_wp2_with (gi_at_builtin; refine wpListIn_append_run rfl (.tmp 16) (.tmp 18) _ rfl rfl rfl HR.out ?_)
    refine ⟨g4.from _, ⟨K2.out, K3.out⟩, ?_, hB.trans g5, HOut.out, B2.out, B3.out⟩
    have h8 := (KeepsWalks.setCell w1 ⟨w.heap.size + 1, 0, none⟩ (.slice A' N' c')).size
    omega
  case done =>
    rintro D xs W hD rfl ⟨hz, hB, ⟨v, hv, hown, -⟩, -, -⟩ hK
    have hcb := hv.cell
    have HT := text_of W w.heap.size v (first :: beGo m size) hown
    clear hown hB0 hbo hown0 hbn hbz
    go_wp2_with fail
    refine ⟨by simp, .inl ⟨_, _, rfl, run_takeDeferred hK, ?_⟩⟩
    refine ⟨_, results_tmp rfl _ _ _, rfl, ?_⟩
    exact hB.trans (belowK_b (w := w) (Nat.le_refl _) W D _ _ (by omega) hK rfl rfl)
end Go.Proofs.Ytdhbomipffidlaa
