/-
  Plain laws of logs: what is appended is right. No program in sight.
-/
import Derived.Test.YtdhbomipffidlaaAudL
namespace Go.Proofs.Ytdhbomipffidlaa
open Go.RowKit

/-- All entries follow, have their sums, and the first one may be the first. -/
structure Good (a b p : BitVec 64) (l : LE) : Prop where
  place : ∀ i, i < l.length → placeE l i = true
  link : ∀ i, i < l.length → linkE a b p l i = true
  first : firstE p l = true
theorem rightE_iff {a b p : BitVec 64} {l : LE} : rightE a b p l = true ↔ l.length ≤ 30 ∧ Good a b p l := by
  unfold rightE chainE
  rw [Bool.and_eq_true, Bool.and_eq_true, Bool.and_eq_true, decide_eq_true_iff, decide_eq_true_iff, decide_eq_true_iff, upTo_all, upTo_all]
  constructor
  · rintro ⟨h1, h2, h3, h4⟩; exact ⟨h1, h2, h3, h4⟩
  · rintro ⟨h1, h2, h3, h4⟩; exact ⟨h1, h2, h3, h4⟩
theorem lastE_pos {p : BitVec 64} {l : LE} (h : l.length ≠ 0) : lastE p l = nthE l (l.length - 1) := by unfold lastE; rw [if_neg h]
theorem lastE_snoc (p : BitVec 64) (l : LE) (e : Ent) : lastE p (l ++ [e]) = e := by
  rw [lastE_pos (by simp), List.length_append, List.length_singleton, Nat.add_sub_cancel, nthE_last]
theorem prevE_last (p : BitVec 64) (l : LE) : prevE p l l.length = (lastE p l).m := by
  unfold lastE
  cases hl : l.length with
  | zero => rfl
  | succ n => rw [if_neg (by omega)]; rfl
theorem prevE_left (p : BitVec 64) (l m : LE) (i : Nat) (h : i ≤ l.length) : prevE p (l ++ m) i = prevE p l i := by
  cases i with
  | zero => rfl
  | succ i => show (nthE _ i).m = (nthE _ i).m; rw [nthE_left l m i (by omega)]
theorem linkE_left (a b p : BitVec 64) (l m : LE) (i : Nat) (h : i < l.length) : linkE a b p (l ++ m) i = linkE a b p l i := by
  unfold linkE; rw [prevE_left p l m i (by omega), nthE_left l m i h]
theorem placeE_left (l m : LE) (i : Nat) (h : i < l.length) : placeE (l ++ m) i = placeE l i := by
  unfold placeE; rw [nthE_left l m i h, nthE_left l m (i - 1) (by omega)]
theorem stepE_of {x y z : Ent} (h1 : y.s = z.s) (h2 : y.t = z.t) : stepE x y = stepE x z := by unfold stepE; rw [h1, h2]
theorem first_pos {p : BitVec 64} {l : LE} (h : l.length ≠ 0) : firstE p l = (decide (0 < (nthE l 0).s.toNat) && (decide (1 < (nthE l 0).s.toNat) || decide (p = 0#64))) := by unfold firstE; rw [if_neg h]
theorem newE_m (a b p : BitVec 64) (l : LE) (t : BitVec 64) (x : ByteArray) : (newE a b p l t x).m = sumE a b (lastE p l).m (newE a b p l t x) := sumE_of _ _ _ _ _ rfl rfl rfl
/-- With one more. -/
theorem Good.more {a b p t : BitVec 64} {l : LE} {x : ByteArray} (g : Good a b p l) (hx : x.size ≤ 200) (hs : stepE (lastE p l) ⟨(lastE p l).s + 1#64, t, x, 0#64⟩ = true) : Good a b p (l ++ [newE a b p l t x]) := by
  constructor
  · intro i hi
    by_cases hl : i < l.length
    · rw [placeE_left _ _ _ hl]; exact g.place i hl
    · obtain rfl : i = l.length := by simp at hi; omega
      unfold placeE
      rw [nthE_last, Bool.and_eq_true, decide_eq_true_iff, Bool.or_eq_true, decide_eq_true_iff]
      refine ⟨hx, ?_⟩
      by_cases h0 : l.length = 0
      · exact .inl h0
      · rw [nthE_left _ _ _ (by omega), ← lastE_pos (p := p) h0]
        exact .inr ((stepE_of rfl rfl).trans hs)
  · intro i hi
    by_cases hl : i < l.length
    · rw [linkE_left _ _ _ _ _ _ hl]; exact g.link i hl
    · obtain rfl : i = l.length := by simp at hi; omega
      unfold linkE
      rw [nthE_last, prevE_left _ _ _ _ (Nat.le_refl _), prevE_last, decide_eq_true_iff]
      exact newE_m ..
  · rw [first_pos (by simp)]
    by_cases h0 : l.length = 0
    · have hp := g.first
      unfold firstE at hp
      rw [if_pos h0] at hp
      have e : l = [] := List.eq_nil_of_length_eq_zero h0
      subst e
      rw [hp, Bool.or_true, Bool.and_true, decide_eq_true_iff]
      show 0 < (0#64 + 1#64).toNat
      decide
    · have hp := g.first
      rw [first_pos h0] at hp
      rw [nthE_left _ _ _ (by omega)]
      exact hp
/-- Without the first. -/
theorem Good.less {a b p : BitVec 64} {l : LE} (g : Good a b p l) (h2 : 2 ≤ l.length) : Good a b (nthE l 0).m (l.drop 1) := by
  have hlen : (l.drop 1).length = l.length - 1 := by simp
  constructor
  · intro i hi
    have h := g.place (1 + i) (by omega)
    unfold placeE at h ⊢
    rw [Bool.and_eq_true, Bool.or_eq_true] at h ⊢
    rw [nthE_drop]
    refine ⟨h.1, ?_⟩
    by_cases h0 : i = 0
    · exact .inl (decide_eq_true h0)
    · rw [nthE_drop]
      rcases h.2 with h3 | h3
      · have := of_decide_eq_true h3; omega
      · rw [show 1 + (i - 1) = 1 + i - 1 by omega]
        exact .inr h3
  · intro i hi
    have h := g.link (1 + i) (by omega)
    unfold linkE at h ⊢
    rw [nthE_drop]
    have e : prevE (nthE l 0).m (l.drop 1) i = prevE p l (1 + i) := by
      cases i with
      | zero => rfl
      | succ i => rw [show 1 + (i + 1) = (1 + i) + 1 by omega]; show (nthE _ i).m = (nthE _ _).m; rw [nthE_drop]
    rw [e]
    exact h
  · rw [first_pos (by omega), nthE_drop]
    have h := g.place 1 (by omega)
    have h0 := g.first
    rw [first_pos (by omega), Bool.and_eq_true, decide_eq_true_iff] at h0
    unfold placeE at h
    rw [Bool.and_eq_true, Bool.or_eq_true] at h
    rcases h.2 with h3 | h3
    · have := of_decide_eq_true h3; omega
    · unfold stepE at h3
      rw [Bool.and_eq_true, Bool.and_eq_true, decide_eq_true_iff, decide_eq_true_iff] at h3
      obtain ⟨h4, h5, -⟩ := h3
      have e : (nthE l (1 + 0)).s.toNat = (nthE l 0).s.toNat + 1 := by
        show (nthE l 1).s.toNat = _
        rw [h5, BitVec.toNat_add]
        show ((nthE l (1 - 1)).s.toNat + 1) % 18446744073709551616 = _
        rw [show 1 - 1 = 0 from rfl] at h4 ⊢
        omega
      rw [Bool.and_eq_true, Bool.or_eq_true, decide_eq_true_iff, decide_eq_true_iff, e]
      omega
/-- What is appended. -/
theorem app_ok {a b p t : BitVec 64} {l : LE} {x : ByteArray} (h : appOk a b p l t x = true) : l.length ≤ 30 ∧ Good a b p l ∧ x.size ≤ 200 ∧ stepE (lastE p l) ⟨(lastE p l).s + 1#64, t, x, 0#64⟩ = true ∧ Good a b p (l ++ [newE a b p l t x]) := by
  unfold appOk at h
  rw [Bool.and_eq_true, Bool.and_eq_true, decide_eq_true_iff, rightE_iff] at h
  obtain ⟨⟨h1, h2⟩, h3, h4⟩ := h
  exact ⟨h1, h2, h3, h4, h2.more h3 h4⟩
theorem appOk_mk {a b p t : BitVec 64} {l : LE} {x : ByteArray} (h1 : l.length ≤ 30) (g : Good a b p l) (h3 : x.size ≤ 200) (h4 : stepE (lastE p l) ⟨(lastE p l).s + 1#64, t, x, 0#64⟩ = true) : appOk a b p l t x = true := by
  unfold appOk
  rw [Bool.and_eq_true, Bool.and_eq_true, decide_eq_true_iff, rightE_iff]
  exact ⟨⟨h1, g⟩, h3, h4⟩
theorem putE_few (p : BitVec 64) (l : LE) (e : Ent) (h : l.length < 30) : putE p l e = ⟨p, l ++ [e]⟩ := by
  unfold putE
  rw [if_neg]
  rw [List.length_append, List.length_singleton]; omega
theorem putE_full (p : BitVec 64) (l : LE) (e : Ent) (h : l.length = 30) : putE p l e = ⟨(nthE l 0).m, l.drop 1 ++ [e]⟩ := by
  unfold putE
  rw [if_pos (by rw [List.length_append, List.length_singleton]; omega), nthE_left _ _ _ (by omega), List.drop_append_of_le_length (by omega)]
/-- What is appended is right. -/
theorem app_right {a b p t : BitVec 64} {l : LE} {x : ByteArray} (h : appOk a b p l t x = true) : (appL a b p l t x).l.length ≤ 30 ∧ Good a b (appL a b p l t x).p (appL a b p l t x).l := by
  obtain ⟨h1, -, -, -, g⟩ := app_ok h
  have e : appL a b p l t x = putE p l (newE a b p l t x) := by unfold appL; rw [if_pos h]
  rw [e]
  by_cases hl : l.length < 30
  · rw [putE_few _ _ _ hl]
    exact ⟨by show (l ++ [_]).length ≤ 30; rw [List.length_append, List.length_singleton]; omega, g⟩
  · have h30 : l.length = 30 := by omega
    rw [putE_full _ _ _ h30]
    have g2 := g.less (by rw [List.length_append, List.length_singleton]; omega)
    rw [nthE_left _ _ _ (by omega), List.drop_append_of_le_length (by omega)] at g2
    exact ⟨by show (l.drop 1 ++ [_]).length ≤ 30; simp; omega, g2⟩
theorem app_shape {a b p t : BitVec 64} {l : LE} {x : ByteArray} (h : appOk a b p l t x = true) : (appL a b p l t x).l = l.drop (l.length - 29) ++ [newE a b p l t x] := by
  obtain ⟨h1, -, -, -, g⟩ := app_ok h
  have e : appL a b p l t x = putE p l (newE a b p l t x) := by unfold appL; rw [if_pos h]
  rw [e]
  by_cases hl : l.length < 30
  · rw [putE_few _ _ _ hl, show l.length - 29 = 0 by omega]
    rfl
  · have h30 : l.length = 30 := by omega
    rw [putE_full _ _ _ h30, show l.length - 29 = 1 by omega]
theorem app_none {a b p t : BitVec 64} {l : LE} {x : ByteArray} (h : ¬ appOk a b p l t x = true) : appL a b p l t x = ⟨0#64, []⟩ ∧ appC a b p l t x = 160 := by
  unfold appL appC
  rw [if_neg h, if_neg h]
  exact ⟨rfl, rfl⟩
theorem appC_ok {a b p t : BitVec 64} {l : LE} {x : ByteArray} (h : appOk a b p l t x = true) : appC a b p l t x = 0 := by
  unfold appC
  rw [if_pos h]

/-- An entry whose sum is another one. -/
def turnE (l : LE) (i : Nat) (c : BitVec 64) : LE := l.set i { nthE l i with m := (nthE l i).m ^^^ c }
theorem nthE_set (l : LE) (i j : Nat) (e : Ent) (hi : i < l.length) : nthE (l.set i e) j = if i = j then e else nthE l j := by
  unfold nthE
  rw [List.getD_eq_getElem?_getD, List.getD_eq_getElem?_getD, List.getElem?_set]
  by_cases h : i = j
  · subst h; rw [if_pos rfl, if_pos hi, if_pos rfl]; rfl
  · rw [if_neg h, if_neg h]
theorem turn_found {a b p c : BitVec 64} {l : LE} {i : Nat} (g : Good a b p l) (hi : i < l.length) (hc : c ≠ 0#64) : chainE a b p (turnE l i c) = i ∧ (turnE l i c).length = l.length ∧ rightE a b p (turnE l i c) = false := by
  have hlen : (turnE l i c).length = l.length := by unfold turnE; rw [List.length_set]
  have hn : ∀ j, j ≠ i → nthE (turnE l i c) j = nthE l j := fun j hj => by unfold turnE; rw [nthE_set _ _ _ _ hi, if_neg (Ne.symm hj)]
  have hp : ∀ j, j ≤ i → prevE p (turnE l i c) j = prevE p l j := fun j hj => by
    cases j with
    | zero => rfl
    | succ j => show (nthE _ j).m = (nthE _ j).m; rw [hn j (by omega)]
  have h1 : chainE a b p (turnE l i c) = i := by
    unfold chainE
    rw [hlen]
    refine upTo_eq (by omega) (fun j hj => ?_) (fun _ => ?_)
    · have := g.link j (by omega)
      unfold linkE at this ⊢
      rw [hn j (by omega), hp j (by omega)]
      exact this
    · have h0 := g.link i hi
      unfold linkE at h0 ⊢
      rw [decide_eq_true_iff] at h0
      rw [hp i (Nat.le_refl _), decide_eq_false_iff_not]
      have e : nthE (turnE l i c) i = { nthE l i with m := (nthE l i).m ^^^ c } := by unfold turnE; rw [nthE_set _ _ _ _ hi, if_pos rfl]
      rw [e]
      intro h
      have h' : (nthE l i).m ^^^ c = sumE a b (prevE p l i) (nthE l i) := h.trans (sumE_of _ _ _ _ _ rfl rfl rfl)
      rw [← h0] at h'
      apply hc
      have h2 : (nthE l i).m ^^^ ((nthE l i).m ^^^ c) = (nthE l i).m ^^^ (nthE l i).m := by rw [h']
      rw [← BitVec.xor_assoc, BitVec.xor_self, BitVec.zero_xor] at h2
      exact h2
  refine ⟨h1, hlen, ?_⟩
  cases hr : rightE a b p (turnE l i c) with
  | false => rfl
  | true =>
    unfold rightE at hr
    rw [Bool.and_eq_true, Bool.and_eq_true, Bool.and_eq_true, decide_eq_true_iff, decide_eq_true_iff, decide_eq_true_iff, h1, hlen] at hr
    omega
/-- Two parts of a chain. -/
theorem chain_parts (a b p : BitVec 64) (l : LE) (n : Nat) (hn : n ≤ l.length) : chainE a b p l = if chainE a b p (l.take n) = n then n + chainE a b (prevE p l n) (l.drop n) else chainE a b p (l.take n) := by
  have e1 : chainE a b p (l.take n) = upTo (linkE a b p l) n := by
    unfold chainE
    rw [List.length_take, Nat.min_eq_left hn]
    refine upTo_congr fun i hi => ?_
    unfold linkE
    rw [nthE_take _ _ _ hi]
    congr 3
    cases i with
    | zero => rfl
    | succ i => show (nthE _ i).m = (nthE _ i).m; rw [nthE_take _ _ _ (by omega)]
  have e2 : chainE a b (prevE p l n) (l.drop n) = upTo (fun i => linkE a b p l (n + i)) (l.length - n) := by
    unfold chainE
    rw [List.length_drop]
    refine upTo_congr fun i hi => ?_
    unfold linkE
    rw [nthE_drop]
    congr 3
    cases i with
    | zero => rfl
    | succ i => show (nthE _ i).m = (nthE l (n + i)).m; rw [nthE_drop]
  rw [e1, e2]
  exact upTo_parts hn
end Go.Proofs.Ytdhbomipffidlaa
