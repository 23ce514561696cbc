/-
  Sketches of parts, of joined lists, of many numbers, plainly. No walk in sight.
-/
import Derived.Test.YthnnbpmpaeddgaaExactMerges0
namespace Go.Proofs.Ythnnbpmpaeddgaa
open Go.RowKit

theorem capX_ok {l : L64} (h : l.length ≤ 64) : capX l = ⟨l, 0⟩ := by unfold capX; rw [if_pos h]
theorem capX_bad {l : L64} (h : ¬ l.length ≤ 64) : capX l = ⟨[], 60⟩ := by unfold capX; rw [if_neg h]
theorem rightX_ofX {L : L64} (h : (ofX L).length ≤ 64) : rightX (ofX L) = true := rightX_iff.2 ⟨h, sorted_ofX L⟩
theorem rightX_nil : rightX [] = true := rfl
theorem mergeX_right {l m : L64} (hl : rightX l = true) (hm : rightX m = true) : mergeX l m = capX (ofX (l ++ m)) := by unfold mergeX; rw [hl, hm]; rfl
theorem mergeX_self {l : L64} (hl : rightX l = true) : mergeX l l = ⟨l, 0⟩ := by
  have h := rightX_iff.1 hl
  have e : ofX (l ++ l) = l := by
    rw [ofX_ext (a := l ++ l) (b := l) (fun x => by rw [List.mem_append, or_self]), ofX_sorted h.2]
  rw [mergeX_right hl hl, e, capX_ok h.1]
theorem mergeX_nil {l : L64} (hl : rightX l = true) : mergeX l [] = ⟨l, 0⟩ := by
  have h := rightX_iff.1 hl
  rw [mergeX_right hl rightX_nil, List.append_nil, ofX_sorted h.2, capX_ok h.1]
theorem rightX_capX (L : L64) : rightX (capX (ofX L)).l = true := by
  by_cases h : (ofX L).length ≤ 64
  · rw [capX_ok h]; exact rightX_ofX h
  · rw [capX_bad h]; rfl
theorem rightX_mergeX (l m : L64) : rightX (mergeX l m).l = true := by
  unfold mergeX pickX
  split
  · exact rightX_capX _
  · rfl
theorem capX_cases (L : L64) : (capX (ofX L) = ⟨ofX L, 0⟩ ∧ (ofX L).length ≤ 64) ∨ capX (ofX L) = ⟨[], 60⟩ := by
  by_cases h : (ofX L).length ≤ 64
  · exact .inl ⟨capX_ok h, h⟩
  · exact .inr (capX_bad h)
/-- Three sketches, merged either way about. -/
theorem rules {X Y Z : L64} (hX : rightX X = true) (hY : rightX Y = true) (hZ : rightX Z = true) :
    (mergeX X Y).e = 60 ∨ ((mergeX X Y).e = 0 ∧ (mergeX (mergeX X Y).l Z).e = 60) ∨ ((mergeX X Y).e = 0 ∧ (mergeX (mergeX X Y).l Z).e = 0 ∧ (mergeX Y Z).e = 60) ∨
    ((mergeX X Y).e = 0 ∧ (mergeX (mergeX X Y).l Z).e = 0 ∧ (mergeX Y Z).e = 0 ∧ mergeX X (mergeX Y Z).l = mergeX (mergeX X Y).l Z) := by
  rw [mergeX_right hX hY]
  rcases capX_cases (X ++ Y) with ⟨h1, l1⟩ | h1
  · rw [h1]
    have r1 := rightX_ofX l1
    rw [mergeX_right (l := ofX (X ++ Y)) r1 hZ]
    rcases capX_cases (ofX (X ++ Y) ++ Z) with ⟨h2, l2⟩ | h2
    · rw [h2]
      rw [mergeX_right hY hZ]
      rcases capX_cases (Y ++ Z) with ⟨h3, l3⟩ | h3
      · rw [h3]
        have r3 := rightX_ofX l3
        refine .inr (.inr (.inr ⟨rfl, rfl, rfl, ?_⟩))
        show mergeX X (ofX (Y ++ Z)) = _
        rw [mergeX_right hX r3, ← h2]
        congr 1
        refine ofX_ext fun x => ?_
        simp only [List.mem_append, mem_ofX]
        exact or_assoc.symm
      · rw [h3]; exact .inr (.inr (.inl ⟨rfl, rfl, rfl⟩))
    · rw [h2]; exact .inr (.inl ⟨rfl, rfl⟩)
  · rw [h1]; exact .inl rfl
/-- Numbers, one behind the other. -/
def runs (first : BitVec 64) (n : Nat) : L64 := (List.range n).map fun i => first + BitVec.ofNat 64 i
theorem runs_succ (first : BitVec 64) (n : Nat) : runs first (n + 1) = runs first n ++ [first + BitVec.ofNat 64 n] := by simp [runs, List.range_succ]
theorem runs_length (first : BitVec 64) (n : Nat) : (runs first n).length = n := by simp [runs]
theorem add_inj {a : BitVec 64} {i j : Nat} (hi : i < 1000) (hj : j < 1000) (h : a + BitVec.ofNat 64 i = a + BitVec.ofNat 64 j) : i = j := by
  have h2 := congrArg BitVec.toNat h
  rw [BitVec.toNat_add, BitVec.toNat_add, BitVec.toNat_ofNat, BitVec.toNat_ofNat] at h2
  omega
theorem runs_nodup (first : BitVec 64) : ∀ n, n ≤ 100 → (runs first n).Nodup
  | 0, _ => List.nodup_nil
  | n + 1, h => by
    rw [runs_succ]
    refine List.nodup_append.2 ⟨runs_nodup first n (by omega), by simp, ?_⟩
    intro a ha b hb e
    obtain ⟨i, hi, rfl⟩ := List.mem_map.1 ha
    have hi := List.mem_range.1 hi
    simp only [List.mem_singleton] at hb
    rw [hb] at e
    have := add_inj (by omega) (by omega) e
    omega
theorem runs_len (first : BitVec 64) (n : Nat) (h : n ≤ 100) : (ofX (runs first n)).length = n := by
  have := length_ofX_nodup (its := runs first n) (l := []) (fun _ _ => by simp) (runs_nodup first n h)
  unfold ofX
  rw [this, runs_length]
  simp
theorem runs_first (first : BitVec 64) (n : Nat) (h : 0 < n) : first ∈ runs first n := List.mem_map.2 ⟨0, List.mem_range.2 h, by simp⟩
theorem runs_before (first : BitVec 64) (n : Nat) (h : n ≤ 100) : first - 1#64 ∉ runs first n := by
  intro hm
  obtain ⟨i, hi, e⟩ := List.mem_map.1 hm
  have hi := List.mem_range.1 hi
  have h2 := congrArg BitVec.toNat e
  rw [BitVec.toNat_add, BitVec.toNat_sub, BitVec.toNat_ofNat, BitVec.toNat_ofNat] at h2
  have := first.isLt
  omega
theorem full_add {first : BitVec 64} {n : Nat} (h0 : 0 < n) (h : n ≤ 64) : mergeX (ofX (runs first n)) [first] = ⟨ofX (runs first n), 0⟩ := by
  have hl := runs_len first n (by omega)
  have hr : rightX (ofX (runs first n)) = true := rightX_ofX (by omega)
  rw [mergeX_right hr (show rightX [first] = true from rfl)]
  have e : ofX (ofX (runs first n) ++ [first]) = ofX (runs first n) := ofX_ext fun x => by
    rw [List.mem_append, mem_ofX, List.mem_singleton]
    constructor
    · rintro (h | rfl)
      · exact h
      · exact runs_first _ n h0
    · exact .inl
  rw [e, capX_ok (by omega)]
theorem full_new {first : BitVec 64} {n : Nat} (h : n ≤ 64) : (mergeX (ofX (runs first n)) [first - 1#64]).e = if n < 64 then 0 else 60 := by
  have hl := runs_len first n (by omega)
  have hr : rightX (ofX (runs first n)) = true := rightX_ofX (by omega)
  rw [mergeX_right hr (show rightX [first - 1#64] = true from rfl), ofX_snoc, ofX_sorted (sorted_ofX _)]
  have h2 : (ins (ofX (runs first n)) (first - 1#64)).length = n + 1 := by
    rw [length_ins_new (fun hm => runs_before first n (by omega) (mem_ofX.1 hm)), hl]
  by_cases h3 : n < 64
  · rw [if_pos h3, capX_ok (by omega)]
  · rw [if_neg h3, capX_bad (by omega)]
/-- A sketch of joined lists has what each has, and as many as there are. -/
theorem has_ofX (L : L64) (h : (ofX L).length ≤ 64) (x : BitVec 64) : hasX (ofX L) x = decide (x ∈ L) := by
  unfold hasX
  rw [rightX_ofX h, Bool.true_and]
  exact decide_eq_decide.2 mem_ofX
theorem count_ofX (L : L64) (h : (ofX L).length ≤ 64) : countX (ofX L) = (ofX L).length := by unfold countX; rw [if_pos (rightX_ofX h)]
theorem join_has (L M : L64) (h : (ofX (ofX L ++ ofX M)).length ≤ 64) (x : BitVec 64) : hasX (ofX (ofX L ++ ofX M)) x = (decide (x ∈ L) || decide (x ∈ M)) := by
  rw [has_ofX _ h, ← Bool.decide_or]
  exact decide_eq_decide.2 (by simp only [List.mem_append, mem_ofX])
theorem join_le (L M : L64) : (ofX (ofX L ++ ofX M)).length ≤ (ofX L).length + (ofX M).length := by
  have := length_ofX_le (ofX L ++ ofX M)
  rw [List.length_append] at this
  exact this
theorem join_ge (L M : L64) : (ofX L).length ≤ (ofX (ofX L ++ ofX M)).length ∧ (ofX M).length ≤ (ofX (ofX L ++ ofX M)).length := by
  have h1 := length_ofX_append (ofX L) (ofX M)
  have h2 := length_ofX_append (ofX M) (ofX L)
  rw [ofX_sorted (sorted_ofX _)] at h1 h2
  have e : ofX (ofX M ++ ofX L) = ofX (ofX L ++ ofX M) := ofX_ext fun x => by simp only [List.mem_append]; exact or_comm
  rw [e] at h2
  exact ⟨h1, h2⟩
/-- Parts. -/
theorem part_le (L : L64) (p : Nat) : (ofX (L.take p)).length ≤ (ofX L).length ∧ (ofX (L.drop p)).length ≤ (ofX L).length := by
  have h1 := length_ofX_append (L.take p) (L.drop p)
  have h2 := length_ofX_append (L.drop p) (L.take p)
  rw [List.take_append_drop] at h1
  have e : ofX (L.drop p ++ L.take p) = ofX L := by
    refine ofX_ext fun x => ?_
    rw [List.mem_append, or_comm, ← List.mem_append, List.take_append_drop]
  rw [e] at h2
  exact ⟨h1, h2⟩
theorem part_join (L : L64) (p : Nat) : ofX (ofX (L.take p) ++ ofX (L.drop p)) = ofX L := by
  refine ofX_ext fun x => ?_
  rw [List.mem_append, mem_ofX, mem_ofX, ← List.mem_append, List.take_append_drop]
theorem part_join2 (L : L64) (p : Nat) : ofX (ofX (L.drop p) ++ ofX (L.take p)) = ofX L := by
  refine ofX_ext fun x => ?_
  rw [List.mem_append, mem_ofX, mem_ofX, or_comm, ← List.mem_append, List.take_append_drop]
theorem drop_le (L : L64) (p : Nat) : (ofX (L.drop p)).length ≤ (ofX L).length := (part_le L p).2
theorem drop_add {L : L64} {j : Nat} (hj : j < L.length) (h : (ofX L).length ≤ 64) : mergeX (ofX (L.drop (j + 1))) [nth L j] = ⟨ofX (L.drop j), 0⟩ := by
  have h1 := drop_le L (j + 1)
  have h0 := drop_le L j
  rw [mergeX_right (rightX_ofX (by omega)) (show rightX [nth L j] = true from rfl)]
  have e : ofX (ofX (L.drop (j + 1)) ++ [nth L j]) = ofX (L.drop j) := ofX_ext fun x => by
    rw [List.mem_append, mem_ofX, List.mem_singleton, List.drop_eq_getElem_cons hj, List.mem_cons]
    have e2 : nth L j = L[j] := by
      unfold nth
      rw [List.getD_eq_getElem?_getD, List.getElem?_eq_getElem hj]; rfl
    rw [e2]
    exact or_comm
  rw [e, capX_ok (by omega)]
end Go.Proofs.Ythnnbpmpaeddgaa
