/-
  What two closures of package cms hand out; counters joined by such a closure.
-/
import Derived.Test.YtlehjbfhhikpiaaCmsJ
namespace Go.Proofs.Ytlehjbfhhikpiaa
open Go.RowKit

/-- A list of the call's own. -/
def OwnL (W : World) (base : Nat) (v : Value) (l : List (BitVec 64)) : Prop := W.ownsRow base 25 1 v l.length (l.map enc64)
theorem OwnL.nil (W : World) (base : Nat) : OwnL W base (.slice none 0 0) [] := ⟨by simp, .inl ⟨rfl, rfl⟩⟩
theorem OwnL.of {W W' : World} {base : Nat} {v : Value} {l : List (BitVec 64)} (h : OwnL W base v l) (hb : ∀ k, base ≤ k → k < W.heap.size → W'.heap[k]? = W.heap[k]?) : OwnL W' base v l := by
  refine ⟨h.1, ?_⟩
  rcases h.2 with h0 | ⟨g, cap, cur, h1, h2, h3, h4⟩
  · exact .inl h0
  · exact .inr ⟨g, cap, cur, h1, h2, (hb g h2 (Array.getElem?_eq_some_iff.1 h3).1).trans h3, h4⟩
theorem OwnL.at_ {W : World} {base : Nat} {v : Value} {l : List (BitVec 64)} (h : OwnL W base v l) : ∃ A c, v = .slice A l.length c ∧ l.length ≤ c ∧ At W W.heap.size A l := by
  rcases h.2 with ⟨rfl, h0⟩ | ⟨g, cap, cur, rfl, hb, hh, hn, _, hc, ht⟩
  · have : l = [] := List.eq_nil_of_length_eq_zero h0
    subst this
    exact ⟨none, 0, rfl, Nat.le_refl _, At.nil⟩
  · refine ⟨some ⟨g, 0, none⟩, cap, rfl, hn, RowP.at_ (T := 25) ⟨cur.toList.drop l.length, ?_⟩ (Array.getElem?_eq_some_iff.1 hh).1⟩
    rw [hh]
    congr 2
    rw [← ht, Nat.mul_one, List.take_append_drop]
theorem append_one (w : World) (base : Nat) (v : Value) (l : List (BitVec 64)) (x : BitVec 64) (b : Nat) (h : OwnL w base v l) (hc : w.cell? ⟨b, 0, none⟩ = some (.int .u64 (U x))) (hb : base ≤ w.heap.size) (hl : l.length ≤ 65535) :
    ∃ v' W, (Builtin.append_ #[22, 22] 22 #[v, .slice (some ⟨b, 0, none⟩) 1 1]).run Try.prog w = .ok v' W ∧ OwnL W base v' (l ++ [x]) ∧ Below base w W := by
  obtain ⟨i0, hi, hz0, hz1, hz2⟩ := info_parts u64_info
  obtain ⟨v', W, hr, hown, hg, -, -⟩ := run_append_own_at (P := Try.prog) w base 22 22 25 i0 (.int .u64 0) 1 8 Try.underlying22 hi hz0 hz1 hz2 rfl (by decide) v l.length (l.map enc64) h
    ⟨b, 0, none⟩ 1 1 [enc64 x] (by simp) (fun j u hj => by
      match j, hj with
      | 0, hj =>
        simp at hj
        subst hj
        exact hc) (fun v hv => by
      obtain rfl : v = enc64 x := by simpa using hv
      rfl) (by simp only [maxLen]; omega) (by omega) hb
  refine ⟨v', W, hr, ?_, (Below.refl base w).grown hg hb (fun k hk => ?_)⟩
  · unfold OwnL
    rw [List.length_append, List.map_append]
    exact hown
  · rcases h.2 with ⟨rfl, _⟩ | ⟨g, cap, cur, rfl, hbg, _⟩
    · simp [Value.ownBlock] at hk
    · simp [Value.ownBlock] at hk
      omega

set_option maxRecDepth 100000 in
set_option maxHeartbeats 1000000 in
theorem merge1_any (R C : Int) (A A' : Option Addr) (R' C' : Int) (n c c' bx by_ r j k : Nat) (x y : BitVec 64) (b o b' o' : Nat) (hC : C = (k : Int)) (hk : k ≤ 32) (hr : r < 4) (hj : j < 32) (hA : A = some ⟨b, o, none⟩) (hA' : A' = some ⟨b', o', none⟩) (w : World)
    (kx : w.heap[bx]? = some (.cells #[.int .i64 R, .int .i64 C, .slice A n c] 24 (0, 0))) (ky : w.heap[by_]? = some (.cells #[.int .i64 R', .int .i64 C', .slice A' n c'] 24 (0, 0)))
    (hn : r * k + j < n) (hx : w.cell? ⟨b, o + (r * k + j), none⟩ = some (.int .u64 (U x))) (hy : w.cell? ⟨b', o' + (r * k + j), none⟩ = some (.int .u64 (U y))) :
    Calls Try.prog 39 #[.int .i64 (r : Int), .int .i64 (j : Int), .pointer (some ⟨bx, 0, none⟩), .pointer (some ⟨by_, 0, none⟩)] w fun e w' =>
      ∃ g, e = .returned (.slice (some ⟨g, 0, none⟩) 2 2) ∧ w'.cell? ⟨g, 0, none⟩ = some (.int .u64 (U x)) ∧ w'.cell? ⟨g, 1, none⟩ = some (.int .u64 (U y)) ∧ Below w.heap.size w w' := by
  subst hC hA hA'
  obtain ⟨d, hd⟩ : ∃ d, r * k = d := ⟨_, rfl⟩
  have hd128 : d ≤ 128 := by rw [← hd]; exact Nat.le_trans (Nat.mul_le_mul (show r ≤ 4 by omega) hk) (by omega)
  have hm : IntKind.i64.wrap ((r : Int) * (k : Int)) = (d : Int) := by
    have e : (r : Int) * (k : Int) = (d : Int) := by rw [← hd]; simp
    rw [e, IntKind.wrap_i64]; omega
  rw [hd] at hn hx hy
  obtain ⟨i, hi⟩ : ∃ i, d + j = i := ⟨_, rfl⟩
  have his : (d : Int) + (j : Int) = (i : Int) := by omega
  rw [hi] at hn hx hy
  have c1 := cell_at kx 1
  have c2 := cell_at kx 2
  have d2 := cell_at ky 2
  clear hd kx ky hi
  go_enter Try.func39, Try.ntmps39
  go_wp2_with fail
  refine wp_region_still_tail 10 (by kernel_rfl) (by kernel_rfl) ?_
  simp only [List.take_succ_cons, List.take_zero, List.drop_succ_cons, List.drop_zero]
  repeat still_step
  try refine wpStill_nil ?_
  change wpList _ _ _ _ _ w.drew
  go_wp2
  go_ret
  have hnew : (w.alloc (.cells #[.int .u64 (U x), .int .u64 (U y)] 25)).drew.heap[w.heap.size]? = some (.cells #[.int .u64 (U x), .int .u64 (U y)] 25 (0, 0)) := new_at w _ _ rfl
  exact ⟨w.heap.size, rfl, cell_at hnew 0, cell_at hnew 1, ((Below.refl _ w).alloc (Nat.le_refl _) _).drew⟩
end Go.Proofs.Ytlehjbfhhikpiaa
