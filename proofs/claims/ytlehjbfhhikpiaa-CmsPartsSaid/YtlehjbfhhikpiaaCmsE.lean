/-
  The places of a number, one by one: the program's iterator.
-/
import Derived.Test.YtlehjbfhhikpiaaCmsD
import Derived.Test.YtlehjbfhhikpiaaIter
import Derived.Test.YtlehjbfhhikpiaaTailIn
namespace Go.Proofs.Ytlehjbfhhikpiaa
open Go.RowKit Go.Shelf
attribute [local go_sem] Oper.semAt_some

/-- The places of a number in the first j rows. -/
def placesTo (k : Nat) (x : BitVec 64) (j : Nat) : List Nat := (List.range j).map fun i => i * k + colF k i x
theorem placesTo_succ (k : Nat) (x : BitVec 64) (j : Nat) : placesTo k x (j + 1) = placesTo k x j ++ [j * k + colF k j x] := by simp [placesTo, List.range_succ]

/-- What the iterator reads. -/
def Eyes (W : World) (g bw bh r k : Nat) (x : BitVec 64) : Prop :=
  W.cell? ⟨bw, 0, none⟩ = some (.pointer (some ⟨g, 0, none⟩)) ∧ W.cell? ⟨bh, 0, none⟩ = some (.int .u64 (U x)) ∧ W.cell? ⟨g, 0, none⟩ = some (.int .i64 (r : Int)) ∧ W.cell? ⟨g, 1, none⟩ = some (.int .i64 (k : Int))
def Keep3 (g bw bh : Nat) (A B : World) : Prop := B.heap[bw]? = A.heap[bw]? ∧ B.heap[bh]? = A.heap[bh]? ∧ B.heap[g]? = A.heap[g]?
theorem Eyes.keep {A B : World} {g bw bh r k : Nat} {x : BitVec 64} (h : Eyes A g bw bh r k x) (e : Keep3 g bw bh A B) : Eyes B g bw bh r k x :=
  ⟨(World.cell?_of_block e.1).trans h.1, (World.cell?_of_block e.2.1).trans h.2.1, (World.cell?_of_block e.2.2).trans h.2.2.1, (World.cell?_of_block e.2.2).trans h.2.2.2⟩

set_option maxRecDepth 100000 in
set_option maxHeartbeats 2000000 in
theorem places1_in (n : Nat) (hn : 1 ≤ n) (l g bw bh r k : Nat) (hr : r ≤ 4) (hk : k = 4 ∨ k = 8 ∨ k = 16 ∨ k = 32) (x : BitVec 64)
    (J : List Nat → World → Prop) (hJ : ∀ pre A q, J pre A → J pre (A.drewN q))
    (hY : ∀ pre (i : Nat) W1, i < r * k → J pre W1 → pre.length < r → YieldAt Fence.wide (n - 1) Try.prog l #[.int .i64 (i : Int)] W1 fun e W' => e = .returned (.bool true) ∧ J (pre ++ [i]) W' ∧ Keep3 g bw bh W1 W')
    (W : World) (hE : Eyes W g bw bh r k x) (h0 : J [] W) :
    CallsIn Fence.wide n Try.prog 43 #[.func (.yield l) #[] #[], .pointer (some ⟨bw, 0, none⟩), .pointer (some ⟨bh, 0, none⟩)] W fun e W' => (∃ v, e = .returned v) ∧ J (placesTo k x r) W' := by
  obtain ⟨e0, e1, e2, e3⟩ := hE
  refine callsIn_of_wp Try.func43 rfl trivial ?_ rfl
  simp only [Try.ntmps43, List.size_toArray, List.length_cons, List.length_nil, Nat.reduceAdd, Nat.reduceSub, Array.replicate_succ, Array.replicate_zero, List.push_toArray, List.append_toArray, List.nil_append, List.cons_append]
  gi_wp2
  refine wpIn_scope_straight ?_
  gi_wp2
  refine wpIn_label ?_
  gi_wp2
  gi_loopw [4, 10] (fun _ iv wr => ∃ j : Nat, j ≤ r ∧ iv = .int .i64 j ∧ Eyes wr g bw bh r k x ∧ J (placesTo k x j) wr) (fun _ iv _ => r - (intOf iv).toNat)
  case atStart => exact ⟨0, Nat.zero_le _, rfl, ⟨e0, e1, e2, e3⟩, h0⟩
  case round =>
    obtain ⟨j, hj, rfl, hE, hJj⟩ := hrel
    clear e0 e1 e2 e3
    obtain ⟨e0, e1, e2, e3⟩ := hE
    obtain ⟨wo, rfl⟩ : ∃ wo : World, wo = wr := ⟨_, rfl⟩
    by_cases hjr : j < r
    · have hkk : k ≤ 32 := by omega
      obtain ⟨c, hc⟩ : ∃ c, colF k j x = c := ⟨_, rfl⟩
      have hcl : c < k := by rw [← hc]; exact Nat.mod_lt _ (by omega)
      have hjk : j * k ≤ 128 := by rcases hk with rfl | rfl | rfl | rfl <;> omega
      obtain ⟨d, hd⟩ : ∃ d, j * k = d := ⟨_, rfl⟩
      have hm : IntKind.i64.wrap ((j : Int) * (k : Int)) = (d : Int) := by
        have e : (j : Int) * (k : Int) = (d : Int) := by rw [← hd]; simp
        rw [e, IntKind.wrap_i64]; omega
      have hd128 : d ≤ 128 := by rw [← hd]; exact hjk
      have hcol := fun w => col_any k j hk (by omega) x w
      rw [hc] at hcol
      have hplace : d + c = j * k + colF k j x := by rw [hc, hd]
      have hin : d + c < r * k := by
        have h1 : (j + 1) * k ≤ r * k := Nat.mul_le_mul_right _ hjr
        rw [Nat.add_mul, Nat.one_mul, hd] at h1
        omega
      have HI := Lib.hid hin
      have hlen : (placesTo k x j).length = j := by simp [placesTo]
      have HC := Lib.hid hcol
      have HP := Lib.hid hplace
      have HL := Lib.hid hlen
      clear hc hcol hd hplace hk hlen hin
      gi_wp2
      refine wpIn_region_drawn_tail 17 rfl (by kernel_rfl) (by kernel_rfl) ?_
      simp only [List.take_succ_cons, List.take_zero, List.drop_succ_cons, List.drop_zero]
      repeat (gi_big_quiet_step (fail))
      refine wpQuietIn_step (fun w _ f _ => trivial) (fun K hK => ?_)
      go_simp
      refine ⟨_, fun _ => CallsIn.quiet_of_same (callsIn_wide.2 (HC.out _)), hK _ ?_⟩
      clear hK K
      repeat (gi_big_quiet_step (fail))
      refine wpQuietIn_nil ?_
      rintro _ ⟨q, rfl⟩
      obtain ⟨fn, tmps, assign, body, hy, hR⟩ := hY (placesTo k x j) (d + c) (wo.drewN q) HI.out (hJ _ _ _ hJj) (by rw [HL.out]; exact hjr)
      rw [show ((d + c : Nat) : Int) = (d : Int) + (c : Int) by simp] at hy
      gi_wp2
      refine hR.mono ?_
      rintro e W3 ⟨rfl, hJ3, hk3⟩
      have hE3 : Eyes W3 g bw bh r k x := Eyes.keep (A := wo.drewN q) ⟨e0, e1, e2, e3⟩ hk3
      clear e0 e1 e2 e3 hy
      gi_wp2
      go_roundw
      case rel => exact ⟨j + 1, by omega, by go_num, hE3, by rw [placesTo_succ, ← HP.out]; exact hJ3⟩
      case measure => simp [intOf]; omega
    · obtain rfl : j = r := by omega
      gi_wp2
      rw [Exit.noGoto_normal]
      go_end0
      exact ⟨⟨_, rfl⟩, hJj⟩
end Go.Proofs.Ytlehjbfhhikpiaa
