/-
  Logs made one by one, plainly. No program in sight.
-/
import Derived.Test.YtdhbomipffidlaaAudS
namespace Go.Proofs.Ytdhbomipffidlaa
open Go.RowKit

/-- Entries made one by one: when by T, what by X; none is dropped. -/
def madeE (a b : BitVec 64) (T : Nat → BitVec 64) (X : Nat → ByteArray) : Nat → LE
  | 0 => []
  | n + 1 => madeE a b T X n ++ [newE a b 0#64 (madeE a b T X n) (T n) (X n)]
section
variable {a b : BitVec 64} {T : Nat → BitVec 64} {X : Nat → ByteArray}
theorem made_length : ∀ n, (madeE a b T X n).length = n
  | 0 => rfl
  | n + 1 => by unfold madeE; rw [List.length_append, made_length n]; rfl
theorem made_last (n : Nat) : lastE 0#64 (madeE a b T X (n + 1)) = newE a b 0#64 (madeE a b T X n) (T n) (X n) := by
  show lastE 0#64 (madeE a b T X n ++ [_]) = _
  rw [lastE_snoc]
theorem made_s : ∀ n, (lastE 0#64 (madeE a b T X n)).s = BitVec.ofNat 64 n
  | 0 => rfl
  | n + 1 => by
    rw [made_last]
    show (lastE 0#64 (madeE a b T X n)).s + 1#64 = _
    rw [made_s n, BitVec.ofNat_add]
theorem made_x (hX : ∀ j, (X j).size ≤ 200) : ∀ n j, (nthE (madeE a b T X n) j).x.size ≤ 200
  | 0, j => by show (nthE [] j).x.size ≤ 200; unfold nthE; rw [List.getD_nil]; decide
  | n + 1, j => by
    unfold madeE
    by_cases h : j < (madeE a b T X n).length
    · rw [nthE_left _ _ _ h]; exact made_x hX n j
    · by_cases h2 : j = (madeE a b T X n).length
      · subst h2; rw [nthE_last]; exact hX n
      · unfold nthE
        rw [List.getD_eq_getElem?_getD, List.getElem?_eq_none (by rw [List.length_append, List.length_singleton]; omega)]
        decide
theorem made_step (hT : ∀ i j, i ≤ j → (T i).toNat ≤ (T j).toNat) (n : Nat) (hn : n ≤ 1000) (x : ByteArray) (e : Ent) : stepE (lastE 0#64 (madeE a b T X n)) ⟨(lastE 0#64 (madeE a b T X n)).s + 1#64, T n, x, e.m⟩ = true := by
  unfold stepE
  rw [Bool.and_eq_true, Bool.and_eq_true, decide_eq_true_iff, decide_eq_true_iff, decide_eq_true_iff]
  refine ⟨?_, rfl, ?_⟩
  · rw [made_s, BitVec.toNat_ofNat, Nat.mod_eq_of_lt (by omega)]; omega
  · cases n with
    | zero => exact Nat.zero_le _
    | succ n => rw [made_last]; exact hT _ _ (Nat.le_succ _)
theorem made_good (hT : ∀ i j, i ≤ j → (T i).toNat ≤ (T j).toNat) (hX : ∀ j, (X j).size ≤ 200) : ∀ n, n ≤ 1000 → Good a b 0#64 (madeE a b T X n)
  | 0, _ => good_nil a b
  | n + 1, hn => (made_good hT hX n (by omega)).more (hX n) (made_step hT n (by omega) (X n) ⟨0#64, 0#64, ⟨#[]⟩, 0#64⟩)
theorem made_app (hT : ∀ i j, i ≤ j → (T i).toNat ≤ (T j).toNat) (hX : ∀ j, (X j).size ≤ 200) (n : Nat) (hn : n < 30) : appL a b 0#64 (madeE a b T X n) (T n) (X n) = ⟨0#64, madeE a b T X (n + 1)⟩ ∧ appC a b 0#64 (madeE a b T X n) (T n) (X n) = 0 := by
  have h : appOk a b 0#64 (madeE a b T X n) (T n) (X n) = true := appOk_mk (by rw [made_length]; omega) (made_good hT hX n (by omega)) (hX n) (made_step hT n (by omega) (X n) ⟨0#64, 0#64, ⟨#[]⟩, 0#64⟩)
  refine ⟨?_, appC_ok h⟩
  unfold appL
  rw [if_pos h, putE_few _ _ _ (by rw [made_length]; omega)]
  rfl
theorem chain_good {a b p : BitVec 64} {l : LE} (g : Good a b p l) : chainE a b p l = l.length := by
  unfold chainE
  rw [upTo_all]
  exact g.link
end
/-- What is cut of a text. -/
def cutT (s : ByteArray) : ByteArray := s.extract 0 (min s.size 200)
theorem cutT_size (s : ByteArray) : (cutT s).size ≤ 200 := by unfold cutT; rw [ByteArray.size_extract]; omega
theorem nthE_turn (l : LE) (i j : Nat) (c : BitVec 64) (hi : i < l.length) : nthE (turnE l i c) j = if i = j then { nthE l i with m := (nthE l i).m ^^^ c } else nthE l j := by
  unfold turnE
  exact nthE_set _ _ _ _ hi
/-- A list in memory of which one sum has been turned. -/
theorem LieE.turn {W : World} {lo g o : Nat} {l : LE} {i : Nat} {c : BitVec 64} (h : LieE W lo (some ⟨g, o, none⟩) l) (hi : i < l.length) : LieE (W.setCell ⟨g, o + i * 4 + 3, none⟩ (.int .u64 (U ((nthE l i).m ^^^ c)))) lo (some ⟨g, o, none⟩) (turnE l i c) := fun _ => by
  obtain ⟨b, o', cs, e, h1, hh, hc⟩ := h (by omega)
  injection e with e
  injection e with e1 e2 e3
  subst e1
  subst e2
  have hP := (Put.refl hh).set (o + i * 4 + 3) (.int .u64 (U ((nthE l i).m ^^^ c)))
  have hk := hP.get (Array.getElem?_eq_some_iff.1 hh).1
  refine ⟨_, _, _, rfl, h1, hk, fun j hj => ?_⟩
  have hj2 : j < l.length := by unfold turnE at hj; rw [List.length_set] at hj; exact hj
  obtain ⟨y0, y1, y2, y3⟩ := hc j hj2
  have ho : ∀ (k : Nat) v, W.cell? ⟨g, k, none⟩ = some v → k ≠ o + i * 4 + 3 → (W.setCell ⟨g, o + i * 4 + 3, none⟩ (.int .u64 (U ((nthE l i).m ^^^ c)))).cell? ⟨g, k, none⟩ = some v := fun k v hv hne => by
    rw [cell_at hh] at hv
    rw [cell_at hk]
    rw [Array.getElem?_setIfInBounds_ne (by omega)]
    exact hv
  rw [nthE_turn _ _ _ _ hi]
  by_cases hij : i = j
  · subst hij
    rw [if_pos rfl]
    refine ⟨ho _ _ y0 (by omega), ho _ _ y1 (by omega), ho _ _ y2 (by omega), ?_⟩
    rw [cell_at hh] at y3
    rw [cell_at hk]
    rw [Array.getElem?_setIfInBounds_self_of_lt (Array.getElem?_eq_some_iff.1 y3).1]
  · rw [if_neg hij]
    exact ⟨ho _ _ y0 (by omega), ho _ _ y1 (by omega), ho _ _ y2 (by omega), ho _ _ y3 (by omega)⟩
end Go.Proofs.Ytdhbomipffidlaa
