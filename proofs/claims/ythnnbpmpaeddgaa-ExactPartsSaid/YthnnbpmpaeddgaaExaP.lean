/-
  Sets of numbers as lists in order, plainly. No program in sight.
-/
import Derived.Test.YthnnbpmpaeddgaaRow
namespace Go.Proofs.Ythnnbpmpaeddgaa
open Go.RowKit

abbrev L64 := List (BitVec 64)
/-- Numbers, and one more, in its place, if it is not there. -/
def ins : L64 → BitVec 64 → L64
  | [], n => [n]
  | x :: l, n => if x.toNat < n.toNat then x :: ins l n else if x = n then x :: l else n :: x :: l
def ofX (its : L64) : L64 := its.foldl ins []
def Sorted (l : L64) : Prop := l.Pairwise fun a b => a.toNat < b.toNat
theorem mem_ins {x n : BitVec 64} : ∀ {l : L64}, x ∈ ins l n ↔ x = n ∨ x ∈ l
  | [] => by simp [ins]
  | y :: l => by
    rw [ins]
    split
    · rw [List.mem_cons, mem_ins, List.mem_cons]
      constructor
      · rintro (h | h | h)
        · exact .inr (.inl h)
        · exact .inl h
        · exact .inr (.inr h)
      · rintro (h | h | h)
        · exact .inr (.inl h)
        · exact .inl h
        · exact .inr (.inr h)
    · split
      · rename_i h2
        constructor
        · intro h; exact .inr h
        · rintro (h | h)
          · rw [h, ← h2]; exact List.mem_cons_self ..
          · exact h
      · rw [List.mem_cons]
theorem ne_of_toNat {x y : BitVec 64} (h : x ≠ y) : x.toNat ≠ y.toNat := fun e => h (BitVec.eq_of_toNat_eq e)
theorem sorted_ins {n : BitVec 64} : ∀ {l : L64}, Sorted l → Sorted (ins l n)
  | [], _ => by simp [ins, Sorted]
  | y :: l, h => by
    obtain ⟨h1, h2⟩ := List.pairwise_cons.1 h
    rw [ins]
    split
    · rename_i hlt
      refine List.pairwise_cons.2 ⟨fun a ha => ?_, sorted_ins h2⟩
      rcases mem_ins.1 ha with rfl | ha
      · exact hlt
      · exact h1 a ha
    · split
      · exact h
      · rename_i h3 h4
        have := ne_of_toNat h4
        refine List.pairwise_cons.2 ⟨fun a ha => ?_, h⟩
        rcases List.mem_cons.1 ha with rfl | ha
        · omega
        · have := h1 a ha; omega
theorem length_ins_new {n : BitVec 64} : ∀ {l : L64}, n ∉ l → (ins l n).length = l.length + 1
  | [], _ => rfl
  | y :: l, h => by
    rw [ins]
    have h1 : n ∉ l := fun e => h (List.mem_cons_of_mem _ e)
    split
    · rw [List.length_cons, length_ins_new h1, List.length_cons]
    · split
      · rename_i e; exact absurd (by rw [e]; exact List.mem_cons_self ..) h
      · rfl
theorem length_ins_le {n : BitVec 64} : ∀ {l : L64}, l.length ≤ (ins l n).length ∧ (ins l n).length ≤ l.length + 1
  | [] => by simp [ins]
  | y :: l => by
    rw [ins]
    have := length_ins_le (n := n) (l := l)
    split
    · simp only [List.length_cons]; omega
    · split <;> simp
theorem sorted_ext : ∀ {l m : L64}, Sorted l → Sorted m → (∀ x, x ∈ l ↔ x ∈ m) → l = m
  | [], [], _, _, _ => rfl
  | [], y :: m, _, _, h => absurd ((h y).2 (List.mem_cons_self ..)) (by simp)
  | x :: l, [], _, _, h => absurd ((h x).1 (List.mem_cons_self ..)) (by simp)
  | x :: l, y :: m, hl, hm, h => by
    obtain ⟨a1, a2⟩ := List.pairwise_cons.1 hl
    obtain ⟨b1, b2⟩ := List.pairwise_cons.1 hm
    have e : x = y := by
      rcases List.mem_cons.1 ((h x).1 (List.mem_cons_self ..)) with e | hx
      · exact e
      · rcases List.mem_cons.1 ((h y).2 (List.mem_cons_self ..)) with e | hy
        · exact e.symm
        · have := a1 y hy; have := b1 x hx; omega
    subst e
    congr 1
    refine sorted_ext a2 b2 fun z => ?_
    constructor
    · intro hz
      rcases List.mem_cons.1 ((h z).1 (List.mem_cons_of_mem _ hz)) with e | h2
      · subst e; have := a1 z hz; omega
      · exact h2
    · intro hz
      rcases List.mem_cons.1 ((h z).2 (List.mem_cons_of_mem _ hz)) with e | h2
      · subst e; have := b1 z hz; omega
      · exact h2
theorem fold_mem {x : BitVec 64} : ∀ {its l : L64}, x ∈ its.foldl ins l ↔ x ∈ its ∨ x ∈ l
  | [], l => by simp
  | y :: its, l => by
    rw [List.foldl_cons, fold_mem, mem_ins, List.mem_cons]
    constructor
    · rintro (h | h | h)
      · exact .inl (.inr h)
      · exact .inl (.inl h)
      · exact .inr h
    · rintro ((h | h) | h)
      · exact .inr (.inl h)
      · exact .inl h
      · exact .inr (.inr h)
theorem fold_sorted : ∀ {its l : L64}, Sorted l → Sorted (its.foldl ins l)
  | [], _, h => h
  | y :: its, l, h => by rw [List.foldl_cons]; exact fold_sorted (its := its) (sorted_ins h)
theorem fold_length : ∀ {its l : L64}, l.length ≤ (its.foldl ins l).length ∧ (its.foldl ins l).length ≤ l.length + its.length
  | [], l => by simp
  | y :: its, l => by
    have h1 := fold_length (its := its) (l := ins l y)
    have h2 := length_ins_le (n := y) (l := l)
    rw [List.foldl_cons, List.length_cons]
    omega
theorem mem_ofX {x : BitVec 64} {its : L64} : x ∈ ofX its ↔ x ∈ its := by unfold ofX; rw [fold_mem]; simp
theorem sorted_nil : Sorted [] := List.Pairwise.nil
theorem sorted_ofX (its : L64) : Sorted (ofX its) := fold_sorted sorted_nil
theorem length_ofX_le (its : L64) : (ofX its).length ≤ its.length := by
  have := (fold_length (its := its) (l := [])).2
  simpa [ofX] using this
theorem ofX_ext {a b : L64} (h : ∀ x, x ∈ a ↔ x ∈ b) : ofX a = ofX b := sorted_ext (sorted_ofX a) (sorted_ofX b) fun x => by rw [mem_ofX, mem_ofX, h]
theorem ofX_sorted {l : L64} (h : Sorted l) : ofX l = l := sorted_ext (sorted_ofX l) h fun _ => mem_ofX
theorem ofX_snoc (a : L64) (n : BitVec 64) : ofX (a ++ [n]) = ins (ofX a) n := by unfold ofX; rw [List.foldl_append]; rfl
theorem length_ofX_append (a b : L64) : (ofX a).length ≤ (ofX (a ++ b)).length := by
  have := (fold_length (its := b) (l := ofX a)).1
  unfold ofX
  rw [List.foldl_append]
  exact this
theorem length_ofX_nodup : ∀ {its l : L64}, (∀ x, x ∈ its → x ∉ l) → its.Nodup → (its.foldl ins l).length = l.length + its.length
  | [], _, _, _ => rfl
  | y :: its, l, h, hn => by
    obtain ⟨h1, h2⟩ := List.nodup_cons.1 hn
    rw [List.foldl_cons, length_ofX_nodup (fun x hx => ?_) h2, length_ins_new (h y (List.mem_cons_self ..)), List.length_cons]
    · omega
    · intro hm
      rcases mem_ins.1 hm with rfl | hm
      · exact h1 hx
      · exact h x (List.mem_cons_of_mem _ hx) hm
/-- The place of a number. -/
def posU : L64 → BitVec 64 → Nat
  | [], _ => 0
  | x :: l, n => if x.toNat < n.toNat then posU l n + 1 else 0
theorem posU_le (n : BitVec 64) : ∀ l : L64, posU l n ≤ l.length
  | [] => Nat.le_refl _
  | x :: l => by
    have := posU_le n l
    rw [posU, List.length_cons]
    split <;> omega
theorem nth_cons_succ (x : BitVec 64) (l : L64) (j : Nat) : nth (x :: l) (j + 1) = nth l j := rfl
theorem nth_cons_zero (x : BitVec 64) (l : L64) : nth (x :: l) 0 = x := rfl
theorem posU_lt (n : BitVec 64) : ∀ (l : L64) (j : Nat), j < posU l n → (nth l j).toNat < n.toNat
  | [], j, h => by simp [posU] at h
  | x :: l, j, h => by
    rw [posU] at h
    split at h
    · rename_i hx
      cases j with
      | zero => exact hx
      | succ j => rw [nth_cons_succ]; exact posU_lt n l j (by omega)
    · omega
theorem posU_ge (n : BitVec 64) : ∀ (l : L64), posU l n < l.length → n.toNat ≤ (nth l (posU l n)).toNat
  | [], h => by simp at h
  | x :: l, h => by
    rw [posU] at h ⊢
    split at h
    · rename_i hx
      rw [if_pos hx, nth_cons_succ]
      exact posU_ge n l (by simpa using h)
    · rename_i hx
      rw [if_neg hx, nth_cons_zero]
      omega
theorem posU_eq {n : BitVec 64} {p : Nat} {l : L64} (h1 : ∀ j, j < p → (nth l j).toNat < n.toNat) (h2 : p ≤ l.length) (h3 : p < l.length → n.toNat ≤ (nth l p).toNat) : p = posU l n := by
  have a1 := posU_lt n l
  have a2 := posU_le n l
  have a3 := posU_ge n l
  rcases Nat.lt_trichotomy p (posU l n) with h | h | h
  · have := a1 p h
    have := h3 (by omega)
    omega
  · exact h
  · have := h1 _ h
    have := a3 (by omega)
    omega
def isAt (l : L64) (n : BitVec 64) : Bool := decide (posU l n < l.length) && (nth l (posU l n) == n)
theorem ins_eq (n : BitVec 64) : ∀ l : L64, ins l n = if isAt l n = true then l else l.take (posU l n) ++ n :: l.drop (posU l n)
  | [] => rfl
  | x :: l => by
    have ih := ins_eq n l
    rw [ins]
    unfold isAt at *
    rw [posU]
    split
    · rw [nth_cons_succ, ih]
      simp only [List.length_cons, Nat.add_lt_add_iff_right]
      split
      · rfl
      · simp
    · rename_i hx
      simp only [List.length_cons, Nat.zero_lt_succ, decide_true, Bool.true_and, nth_cons_zero, List.take_zero, List.drop_zero, List.nil_append]
      by_cases e : x = n
      · simp [e]
      · simp [e]
theorem nth_mem {l : L64} {j : Nat} (h : j < l.length) : nth l j ∈ l := by
  have := nth_get h
  exact List.mem_of_getElem? this
theorem mem_nth {l : L64} {x : BitVec 64} (h : x ∈ l) : ∃ j, j < l.length ∧ nth l j = x := by
  obtain ⟨j, hj, e⟩ := List.getElem_of_mem h
  refine ⟨j, hj, ?_⟩
  unfold nth
  rw [List.getD_eq_getElem?_getD, List.getElem?_eq_getElem hj, e]
  rfl
theorem Sorted.nth {l : L64} (h : Sorted l) {i j : Nat} (hij : i < j) (hj : j < l.length) : (nth l i).toNat < (nth l j).toNat := by
  have := List.pairwise_iff_getElem.1 h i j (by omega) hj hij
  unfold Go.Proofs.Ythnnbpmpaeddgaa.nth
  rw [List.getD_eq_getElem?_getD, List.getD_eq_getElem?_getD, List.getElem?_eq_getElem (by omega), List.getElem?_eq_getElem hj]
  exact this
/-- Are the first so many in order? -/
def adjB (l : L64) (j : Nat) : Bool := (List.range j).all fun i => i == 0 || decide ((nth l (i - 1)).toNat < (nth l i).toNat)
theorem adjB_succ (l : L64) (j : Nat) : adjB l (j + 1) = (adjB l j && (j == 0 || decide ((nth l (j - 1)).toNat < (nth l j).toNat))) := by
  unfold adjB
  rw [List.range_succ, List.all_append]
  simp
theorem adjB_false {l : L64} {i j : Nat} (h : adjB l i = false) (hij : i ≤ j) : adjB l j = false := by
  obtain ⟨d, rfl⟩ := Nat.exists_eq_add_of_le hij
  induction d with
  | zero => exact h
  | succ d ih => rw [← Nat.add_assoc, adjB_succ, ih (by omega)]; rfl
theorem adjB_sorted {l : L64} : adjB l l.length = true ↔ Sorted l := by
  constructor
  · intro h
    have h1 : ∀ i, i + 1 < l.length → (nth l i).toNat < (nth l (i + 1)).toNat := fun i hi => by
      have := List.all_eq_true.1 h (i + 1) (List.mem_range.2 hi)
      simpa using this
    have h2 : ∀ d i, i + d + 1 < l.length → (nth l i).toNat < (nth l (i + d + 1)).toNat := fun d => by
      induction d with
      | zero => exact h1
      | succ d ih =>
        intro i hi
        have := ih i (by omega)
        have := h1 (i + d + 1) (by omega)
        have e : i + (d + 1) + 1 = i + d + 1 + 1 := by omega
        rw [e]
        omega
    refine List.pairwise_iff_getElem.2 fun i j hi hj hij => ?_
    have := h2 (j - i - 1) i (by omega)
    have e : i + (j - i - 1) + 1 = j := by omega
    rw [e] at this
    unfold nth at this
    rw [List.getD_eq_getElem?_getD, List.getD_eq_getElem?_getD, List.getElem?_eq_getElem hi, List.getElem?_eq_getElem hj] at this
    exact this
  · intro h
    refine List.all_eq_true.2 fun i hi => ?_
    have hi := List.mem_range.1 hi
    cases i with
    | zero => rfl
    | succ i =>
      have := h.nth (i := i) (j := i + 1) (by omega) hi
      simpa using this
/-- Is it a sketch? -/
def rightX (l : L64) : Bool := decide (l.length ≤ 64) && adjB l l.length
theorem rightX_iff {l : L64} : rightX l = true ↔ l.length ≤ 64 ∧ Sorted l := by unfold rightX; rw [Bool.and_eq_true, adjB_sorted, decide_eq_true_iff]
end Go.Proofs.Ythnnbpmpaeddgaa
