/-
  Logs of many entries, plainly: the last thirty, and the sum ahead of them. No program in sight.
-/
import Derived.Test.YtdhbomipffidlaaAudT
namespace Go.Proofs.Ytdhbomipffidlaa
open Go.RowKit

section
variable {a b : BitVec 64} {T : Nat → BitVec 64} {X : Nat → ByteArray}
/-- The log behind n entries. -/
def longP (a b : BitVec 64) (T : Nat → BitVec 64) (X : Nat → ByteArray) (n : Nat) : BitVec 64 := prevE 0#64 (madeE a b T X n) (n - 30)
def longL (a b : BitVec 64) (T : Nat → BitVec 64) (X : Nat → ByteArray) (n : Nat) : LE := (madeE a b T X n).drop (n - 30)
theorem long_length (n : Nat) : (longL a b T X n).length = min n 30 := by unfold longL; rw [List.length_drop, made_length]; omega
theorem long_nth (n j : Nat) : nthE (longL a b T X n) j = nthE (madeE a b T X n) (n - 30 + j) := by unfold longL; rw [nthE_drop]
theorem long_x (hX : ∀ j, (X j).size ≤ 200) (n j : Nat) : (nthE (longL a b T X n) j).x.size ≤ 200 := by rw [long_nth]; exact made_x hX n _
theorem made_nth (n i : Nat) (h : i < n) : nthE (madeE a b T X n) i = newE a b 0#64 (madeE a b T X i) (T i) (X i) := by
  induction n with
  | zero => omega
  | succ n ih =>
    show nthE (madeE a b T X n ++ [newE a b 0#64 (madeE a b T X n) (T n) (X n)]) i = _
    by_cases hi : i < n
    · rw [nthE_left _ _ _ (by rw [made_length]; exact hi)]; exact ih hi
    · obtain rfl : i = n := by omega
      have h2 := nthE_last (madeE a b T X i) (newE a b 0#64 (madeE a b T X i) (T i) (X i))
      rw [made_length] at h2
      exact h2
theorem made_nth_s (n i : Nat) (h : i < n) : (nthE (madeE a b T X n) i).s = BitVec.ofNat 64 (i + 1) := by
  rw [made_nth n i h]
  show (lastE 0#64 (madeE a b T X i)).s + 1#64 = _
  rw [made_s, BitVec.ofNat_add]
/-- Less of the front. -/
theorem good_drop {l : LE} (g : Good a b 0#64 l) : ∀ i, i + 1 ≤ l.length → Good a b (prevE 0#64 l i) (l.drop i)
  | 0, _ => g
  | i + 1, h => by
    have ih := good_drop g i (by omega)
    have h2 := ih.less (by rw [List.length_drop]; omega)
    rw [nthE_drop, List.drop_drop] at h2
    exact h2
theorem long_good (hT : ∀ i j, i ≤ j → (T i).toNat ≤ (T j).toNat) (hX : ∀ j, (X j).size ≤ 200) (n : Nat) (hn : n ≤ 1000) : Good a b (longP a b T X n) (longL a b T X n) := by
  unfold longP longL
  by_cases h : n ≤ 30
  · rw [show n - 30 = 0 by omega]; exact made_good hT hX n hn
  · exact good_drop (made_good hT hX n hn) _ (by rw [made_length]; omega)
theorem long_last (n : Nat) : lastE (longP a b T X n) (longL a b T X n) = lastE 0#64 (madeE a b T X n) := by
  by_cases h : n = 0
  · subst h; rfl
  · rw [lastE_pos (by rw [long_length]; omega), lastE_pos (by rw [made_length]; exact h), long_nth, long_length, made_length]
    congr 1
    omega
theorem long_app (hT : ∀ i j, i ≤ j → (T i).toNat ≤ (T j).toNat) (hX : ∀ j, (X j).size ≤ 200) (n : Nat) (hn : n < 1000) : appL a b (longP a b T X n) (longL a b T X n) (T n) (X n) = ⟨longP a b T X (n + 1), longL a b T X (n + 1)⟩ ∧ appC a b (longP a b T X n) (longL a b T X n) (T n) (X n) = 0 := by
  have hstep := made_step (a := a) (b := b) (X := X) hT n (by omega) (X n) ⟨0#64, 0#64, ⟨#[]⟩, 0#64⟩
  rw [← long_last] at hstep
  have h : appOk a b (longP a b T X n) (longL a b T X n) (T n) (X n) = true := appOk_mk (by rw [long_length]; omega) (long_good hT hX n (by omega)) (hX n) hstep
  refine ⟨?_, appC_ok h⟩
  have he : newE a b (longP a b T X n) (longL a b T X n) (T n) (X n) = newE a b 0#64 (madeE a b T X n) (T n) (X n) := by unfold newE; rw [long_last]
  unfold appL
  rw [if_pos h, he]
  by_cases h30 : n < 30
  · rw [putE_few _ _ _ (by rw [long_length]; omega)]
    unfold longP longL
    rw [show n - 30 = 0 by omega, show n + 1 - 30 = 0 by omega]
    rfl
  · rw [putE_full _ _ _ (by rw [long_length]; omega), long_nth, Nat.add_zero]
    unfold longP longL
    rw [show n + 1 - 30 = n - 30 + 1 by omega, List.drop_drop]
    have h1 : (madeE a b T X n ++ [newE a b 0#64 (madeE a b T X n) (T n) (X n)]).drop (n - 30 + 1) = (madeE a b T X n).drop (n - 30 + 1) ++ [newE a b 0#64 (madeE a b T X n) (T n) (X n)] := List.drop_append_of_le_length (by rw [made_length]; omega)
    have h2 : (nthE (madeE a b T X n ++ [newE a b 0#64 (madeE a b T X n) (T n) (X n)]) (n - 30)).m = (nthE (madeE a b T X n) (n - 30)).m := by rw [nthE_left _ _ _ (by rw [made_length]; omega)]
    show (⟨_, _⟩ : Lg) = ⟨(nthE (madeE a b T X n ++ [_]) (n - 30)).m, (madeE a b T X n ++ [_]).drop (n - 30 + 1)⟩
    rw [h1, h2]
/-- The sums, one of each entry. -/
def longS (a b : BitVec 64) (T : Nat → BitVec 64) (X : Nat → ByteArray) (n : Nat) : List (BitVec 64) := (madeE a b T X n).map Ent.m
theorem longS_length (n : Nat) : (longS a b T X n).length = n := by unfold longS; rw [List.length_map, made_length]
theorem longS_more (n : Nat) : longS a b T X (n + 1) = longS a b T X n ++ [(lastE (longP a b T X (n + 1)) (longL a b T X (n + 1))).m] := by
  rw [long_last, made_last]
  unfold longS
  show (madeE a b T X n ++ [_]).map Ent.m = _
  rw [List.map_append]
  rfl
/-- The sum ahead of the last thirty is among them. -/
theorem longP_of (n : Nat) (h : 30 < n) : (longS a b T X n)[n - 31]? = some (longP a b T X n) := by
  unfold longS longP
  rw [List.getElem?_map, nthE_get (by rw [made_length]; omega), show n - 30 = n - 31 + 1 by omega]
  rfl
theorem longP_few (n : Nat) (h : n ≤ 30) : longP a b T X n = 0#64 := by
  unfold longP
  rw [show n - 30 = 0 by omega]
  rfl
theorem long_first (n : Nat) (h : 0 < n) : (nthE (longL a b T X n) 0).s = BitVec.ofNat 64 (n - 30 + 1) := by
  rw [long_nth, Nat.add_zero, made_nth_s _ _ (by omega)]
theorem long_last_s (n : Nat) : (lastE (longP a b T X n) (longL a b T X n)).s = BitVec.ofNat 64 n := by rw [long_last, made_s]
theorem from_none {l : LE} {q : BitVec 64} (h : ∀ j, j < l.length → (nthE l j).s.toNat < q.toNat) : fromE l q = [] := by
  unfold fromE
  rw [List.filter_eq_nil_iff]
  intro e he
  obtain ⟨j, hj, rfl⟩ := List.getElem_of_mem he
  have h2 := h j hj
  rw [nthE_of (List.getElem?_eq_getElem hj)] at h2
  simpa using h2
theorem long_from (n : Nat) (hn : n ≤ 1000) : (fromE (longL a b T X n) (BitVec.ofNat 64 n)).length = min n 1 := by
  by_cases h : n = 0
  · subst h; rfl
  · obtain ⟨k, rfl⟩ : ∃ k, n = k + 1 := ⟨n - 1, by omega⟩
    have h1 : longL a b T X (k + 1) = (madeE a b T X k).drop (k + 1 - 30) ++ [newE a b 0#64 (madeE a b T X k) (T k) (X k)] := by
      unfold longL
      show (madeE a b T X k ++ [_]).drop _ = _
      exact List.drop_append_of_le_length (by rw [made_length]; omega)
    rw [h1, fromE_snoc]
    have h2 : (newE a b 0#64 (madeE a b T X k) (T k) (X k)).s = BitVec.ofNat 64 (k + 1) := by
      show (lastE 0#64 (madeE a b T X k)).s + 1#64 = _
      rw [made_s, BitVec.ofNat_add]
    rw [if_pos (by rw [h2]; exact Nat.le_refl _), from_none, List.nil_append]
    · simp
    · intro j hj
      rw [List.length_drop, made_length] at hj
      rw [nthE_drop, made_nth_s _ _ (by omega), BitVec.toNat_ofNat, BitVec.toNat_ofNat, Nat.mod_eq_of_lt (by omega), Nat.mod_eq_of_lt (by omega)]
      omega
end
end Go.Proofs.Ytdhbomipffidlaa
