/-
  Sums of items as the statements make them; lists of items that a call makes.
-/
import Derived.Test.YtlehjbfhhikpiaaCmsS
namespace Go.Proofs.Ytlehjbfhhikpiaa
open Go.RowKit

/-- How often a number came, and how often all did, saturated. -/
def ownF (x : BitVec 64) (its : List (BitVec 64 × BitVec 64)) : BitVec 64 := its.foldl (fun v q => if q.1 == x then sat v q.2 else v) 0
def allF (its : List (BitVec 64 × BitVec 64)) : BitVec 64 := its.foldl (fun v q => sat v q.2) 0
theorem ownF_fold (x : BitVec 64) : ∀ its (v : BitVec 64), (its.foldl (fun v q => if q.1 == x then sat v q.2 else v) v).toNat = cap (v.toNat + tot (fun y => y == x) its)
  | [], v => by rw [tot, Nat.add_zero, cap_of_bv]; rfl
  | q :: its, v => by
    rw [List.foldl_cons, ownF_fold x its, tot]
    cases h : q.1 == x with
    | true => rw [if_pos rfl, if_pos rfl, sat_toNat]; unfold cap; omega
    | false => simp
theorem allF_fold : ∀ (its : List (BitVec 64 × BitVec 64)) (v : BitVec 64), (its.foldl (fun v q => sat v q.2) v).toNat = cap (v.toNat + tot (fun _ => true) its)
  | [], v => by rw [tot, Nat.add_zero, cap_of_bv]; rfl
  | q :: its, v => by
    rw [List.foldl_cons, allF_fold its, tot, sat_toNat, if_pos rfl]
    unfold cap; omega
theorem ownF_toNat (x : BitVec 64) (its) : (ownF x its).toNat = cap (tot (fun y => y == x) its) := by
  unfold ownF; rw [ownF_fold]
  have : (0 : BitVec 64).toNat = 0 := rfl
  rw [this, Nat.zero_add]
theorem allF_toNat (its) : (allF its).toNat = cap (tot (fun _ => true) its) := by
  unfold allF; rw [allF_fold]
  have : (0 : BitVec 64).toNat = 0 := rfl
  rw [this, Nat.zero_add]
theorem take_snocI (its : List (BitVec 64 × BitVec 64)) (j : Nat) (h : j < its.length) : its.take (j + 1) = its.take j ++ [nthI its j] := by
  rw [List.take_add_one, nthI_get h]; rfl
theorem ownF_snoc (x : BitVec 64) (its : List (BitVec 64 × BitVec 64)) (j : Nat) (h : j < its.length) : ownF x (its.take (j + 1)) = if (nthI its j).1 == x then sat (ownF x (its.take j)) (nthI its j).2 else ownF x (its.take j) := by
  rw [take_snocI its j h]; unfold ownF; rw [List.foldl_append]; rfl
theorem allF_snoc (its : List (BitVec 64 × BitVec 64)) (j : Nat) (h : j < its.length) : allF (its.take (j + 1)) = sat (allF (its.take j)) (nthI its j).2 := by
  rw [take_snocI its j h]; unfold allF; rw [List.foldl_append]; rfl
theorem U_ge {x y : BitVec 64} (h : y.toNat ≤ x.toNat) : decide (U y ≤ U x) = true := by
  rw [decide_eq_true_iff]; unfold U; omega

/-- Items' cells. -/
def encI (q : BitVec 64 × BitVec 64) : List Value := [enc64 q.1, enc64 q.2]
def OwnI (W : World) (base : Nat) (v : Value) (l : List (BitVec 64 × BitVec 64)) : Prop := W.ownsRow base 43 2 v l.length (l.flatMap encI)
theorem OwnI.nil (W : World) (base : Nat) : OwnI W base (.slice none 0 0) [] := ⟨by simp, .inl ⟨rfl, rfl⟩⟩
theorem OwnI.of {W W' : World} {base : Nat} {v : Value} {l : List (BitVec 64 × BitVec 64)} (h : OwnI W base v l) (hb : ∀ k, base ≤ k → k < W.heap.size → W'.heap[k]? = W.heap[k]?) : OwnI W' base v l := by
  refine ⟨h.1, ?_⟩
  rcases h.2 with h0 | ⟨g, cap, cur, h1, h2, h3, h4⟩
  · exact .inl h0
  · exact .inr ⟨g, cap, cur, h1, h2, (hb g h2 (Array.getElem?_eq_some_iff.1 h3).1).trans h3, h4⟩
theorem encI_length : ∀ l : List (BitVec 64 × BitVec 64), (l.flatMap encI).length = l.length * 2
  | [] => rfl
  | q :: l => by rw [List.flatMap_cons, List.length_append, encI_length l, List.length_cons]; simp [encI]; omega
theorem encI_get : ∀ (l : List (BitVec 64 × BitVec 64)) (j : Nat), j < l.length → (l.flatMap encI)[j * 2]? = some (enc64 (nthI l j).1) ∧ (l.flatMap encI)[j * 2 + 1]? = some (enc64 (nthI l j).2)
  | q :: l, 0, _ => by rw [List.flatMap_cons]; exact ⟨rfl, rfl⟩
  | q :: l, j + 1, h => by
    have ih := encI_get l j (by simpa using h)
    have e : nthI (q :: l) (j + 1) = nthI l j := rfl
    have e2 : (j + 1) * 2 = j * 2 + 1 + 1 := by omega
    rw [List.flatMap_cons, e, e2]
    exact ih
theorem OwnI.at_ {W : World} {base : Nat} {v : Value} {l : List (BitVec 64 × BitVec 64)} (h : OwnI W base v l) : ∃ A c, v = .slice A l.length c ∧ l.length ≤ c ∧ ItAt W W.heap.size A l := by
  rcases h.2 with ⟨rfl, h0⟩ | ⟨g, cap, cur, rfl, hb, hh, hn, _, hc, ht⟩
  · have : l = [] := List.eq_nil_of_length_eq_zero h0
    subst this
    exact ⟨none, 0, rfl, Nat.le_refl _, ItAt.nil⟩
  · refine ⟨some ⟨g, 0, none⟩, cap, rfl, hn, fun _ => ⟨g, 0, rfl, (Array.getElem?_eq_some_iff.1 hh).1, fun j hj => ?_⟩⟩
    have hg := encI_get l j hj
    rw [← ht] at hg
    have e : ∀ i v, (cur.toList.take (l.length * 2))[i]? = some v → cur[i]? = some v := fun i v hi => by
      rw [List.getElem?_take] at hi
      split at hi
      · simpa using hi
      · cases hi
    simp only [World.cell?, hh, Nat.zero_add]
    have e1 : enc64 (nthI l j).1 = .int .u64 (U (nthI l j).1) := rfl
    have e2 : enc64 (nthI l j).2 = .int .u64 (U (nthI l j).2) := rfl
    rw [e1, e2] at hg
    exact ⟨by simpa using e _ _ hg.1, by simpa using e _ _ hg.2⟩
theorem item_info : (Try.prog.info? 43).map (fun i => (i.zero, i.size, i.bytes)) = some (some (.agg #[.int .u64 0, .int .u64 0]), 2, 16) := by kernel_rfl
theorem append_oneI (w : World) (base : Nat) (v : Value) (l : List (BitVec 64 × BitVec 64)) (q : BitVec 64 × BitVec 64) (b : Nat) (h : OwnI w base v l) (hc : w.cell? ⟨b, 0, none⟩ = some (.int .u64 (U q.1))) (hc1 : w.cell? ⟨b, 1, none⟩ = some (.int .u64 (U q.2))) (hb : base ≤ w.heap.size) (hl : l.length ≤ 65535) :
    ∃ v' W, (Builtin.append_ #[37, 37] 37 #[v, .slice (some ⟨b, 0, none⟩) 1 1]).run Try.prog w = .ok v' W ∧ OwnI W base v' (l ++ [q]) ∧ Below base w W := by
  obtain ⟨i0, hi, hz0, hz1, hz2⟩ := info_parts item_info
  obtain ⟨v', W, hr, hown, hg, -, -⟩ := run_append_own_at (P := Try.prog) w base 37 37 43 i0 (.agg #[.int .u64 0, .int .u64 0]) 2 16 Try.underlying37 hi hz0 hz1 hz2 rfl (by decide) v l.length (l.flatMap encI) h
    ⟨b, 0, none⟩ 1 1 (encI q) (by simp [encI]) (fun j u hj => by
      match j, hj with
      | 0, hj =>
        simp [encI] at hj
        subst hj
        exact hc
      | 1, hj =>
        simp [encI] at hj
        subst hj
        exact hc1) (fun v hv => by
      simp [encI] at hv
      rcases hv with rfl | rfl <;> rfl) (by simp only [maxLen]; omega) (by omega) hb
  refine ⟨v', W, hr, ?_, (Below.refl base w).grown hg hb (fun k hk => ?_)⟩
  · unfold OwnI
    rw [List.length_append, List.flatMap_append]
    simpa using hown
  · rcases h.2 with ⟨rfl, _⟩ | ⟨g, cap, cur, rfl, hbg, _⟩
    · simp [Value.ownBlock] at hk
    · simp [Value.ownBlock] at hk
      omega
/-- The last ones, the last one first. -/
def backTo (its : List (BitVec 64 × BitVec 64)) (t : Nat) : List (BitVec 64 × BitVec 64) := (its.drop t).reverse
theorem backTo_succ (its : List (BitVec 64 × BitVec 64)) (t : Nat) (h : t < its.length) : backTo its t = backTo its (t + 1) ++ [nthI its t] := by
  unfold backTo
  rw [List.drop_eq_getElem_cons h, List.reverse_cons]
  congr 2
  unfold nthI
  rw [List.getD_eq_getElem?_getD, List.getElem?_eq_getElem h]
  rfl
/-- A list's end. -/
theorem ItAt.drop {w : World} {B b o : Nat} {l : List (BitVec 64 × BitVec 64)} (h : ItAt w B (some ⟨b, o, none⟩) l) (n : Nat) : ItAt w B (some ⟨b, o + n * 2, none⟩) (l.drop n) := fun hl => by
  have hl2 : 0 < l.length := by simp at hl; omega
  obtain ⟨b', o', e, hlt, hc⟩ := h hl2
  injection e with e
  injection e with e1 e2
  subst e1 e2
  refine ⟨b, o + n * 2, rfl, hlt, fun j hj => ?_⟩
  have hj2 : n + j < l.length := by simp at hj; omega
  have e2 : nthI (l.drop n) j = nthI l (n + j) := by
    unfold nthI
    rw [List.getD_eq_getElem?_getD, List.getD_eq_getElem?_getD, List.getElem?_drop]
  rw [e2]
  have h2 := hc (n + j) hj2
  have e3 : o + n * 2 + j * 2 = o + (n + j) * 2 := by omega
  rw [e3]
  exact h2
end Go.Proofs.Ytlehjbfhhikpiaa
