/-
  Chains of entries, plainly: how far a chain goes, which logs are right, what is appended. No program in sight.
-/
import Derived.Test.YtdhbomipffidlaaEnt
import Derived.Test.YtdhbomipffidlaaAudA
import Derived.Test.YtdhbomipffidlaaSip4
namespace Go.Proofs.Ytdhbomipffidlaa
open Go.RowKit

/-- How far all hold, of the first n. -/
def upTo (f : Nat → Bool) : Nat → Nat
  | 0 => 0
  | n + 1 => if upTo f n = n ∧ f n = true then n + 1 else upTo f n
theorem upTo_le (f : Nat → Bool) : ∀ n, upTo f n ≤ n
  | 0 => Nat.le_refl _
  | n + 1 => by
    have := upTo_le f n
    unfold upTo
    split <;> omega
theorem upTo_ok (f : Nat → Bool) : ∀ n i, i < upTo f n → f i = true
  | 0, i, h => by unfold upTo at h; omega
  | n + 1, i, h => by
    have ih := upTo_ok f n i
    unfold upTo at h
    split at h
    · rename_i hc
      by_cases hi : i < n
      · exact ih (by omega)
      · obtain rfl : i = n := by omega
        exact hc.2
    · exact ih h
theorem upTo_bad (f : Nat → Bool) : ∀ n, upTo f n < n → f (upTo f n) = false
  | 0, h => by omega
  | n + 1, h => by
    have hle := upTo_le f n
    unfold upTo at h ⊢
    split at h
    · omega
    · rename_i hc
      rw [if_neg hc]
      by_cases hn : upTo f n < n
      · exact upTo_bad f n hn
      · have e : upTo f n = n := by omega
        rw [e] at hc ⊢
        cases hb : f n with
        | false => rfl
        | true => exact absurd ⟨rfl, hb⟩ hc
/-- The one place that fits. -/
theorem upTo_eq {f : Nat → Bool} {n k : Nat} (hk : k ≤ n) (h : ∀ i, i < k → f i = true) (hb : k < n → f k = false) : upTo f n = k := by
  have h1 := upTo_le f n
  rcases Nat.lt_trichotomy (upTo f n) k with c | c | c
  · have h2 := upTo_bad f n (by omega)
    rw [h _ c] at h2
    cases h2
  · exact c
  · have h2 := upTo_ok f n k c
    rw [hb (by omega)] at h2
    cases h2
theorem upTo_all {f : Nat → Bool} {n : Nat} : upTo f n = n ↔ ∀ i, i < n → f i = true := by
  constructor
  · intro h i hi
    exact upTo_ok f n i (by omega)
  · intro h
    exact upTo_eq (Nat.le_refl _) h (fun h => by omega)
theorem upTo_congr {f g : Nat → Bool} {n : Nat} (h : ∀ i, i < n → f i = g i) : upTo f n = upTo g n := by
  have h1 := upTo_le g n
  refine upTo_eq h1 (fun i hi => ?_) (fun hb => ?_)
  · rw [h i (by omega)]; exact upTo_ok g n i hi
  · rw [h _ hb]; exact upTo_bad g n hb
theorem upTo_parts {f : Nat → Bool} {n k : Nat} (hk : k ≤ n) : upTo f n = if upTo f k = k then k + upTo (fun i => f (k + i)) (n - k) else upTo f k := by
  split
  · rename_i h
    rw [upTo_all] at h
    have h1 := upTo_le (fun i => f (k + i)) (n - k)
    refine upTo_eq (by omega) (fun i hi => ?_) (fun hb => ?_)
    · by_cases hik : i < k
      · exact h i hik
      · have := upTo_ok (fun i => f (k + i)) (n - k) (i - k) (by omega)
        have e : k + (i - k) = i := by omega
        simp only [e] at this
        exact this
    · exact upTo_bad (fun i => f (k + i)) (n - k) (by omega)
  · rename_i h
    have h1 := upTo_le f k
    exact upTo_eq (by omega) (fun i hi => upTo_ok f k i hi) (fun _ => upTo_bad f k (by omega))

/-- The bytes that are summed of an entry, behind a sum. -/
def txtE (p : BitVec 64) (e : Ent) : ByteArray := bytesF p ++ bytesF e.s ++ bytesF e.t ++ bytesF (BitVec.ofNat 64 e.x.size) ++ e.x
def sumE (a b p : BitVec 64) (e : Ent) : BitVec 64 := sumF a b (txtE p e)
theorem sumE_of (a b p : BitVec 64) (e e' : Ent) (h1 : e.s = e'.s) (h2 : e.t = e'.t) (h3 : e.x = e'.x) : sumE a b p e = sumE a b p e' := by
  unfold sumE txtE; rw [h1, h2, h3]
theorem txtE_size (p : BitVec 64) (e : Ent) : (txtE p e).size ≤ 36 + e.x.size := by
  unfold txtE
  rw [ByteArray.size_append, ByteArray.size_append, ByteArray.size_append, ByteArray.size_append]
  have := bytesF_size p
  have := bytesF_size e.s
  have := bytesF_size e.t
  have := bytesF_size (BitVec.ofNat 64 e.x.size)
  omega
/-- The sum ahead of an entry. -/
def prevE (p : BitVec 64) (l : LE) : Nat → BitVec 64
  | 0 => p
  | i + 1 => (nthE l i).m
/-- Has an entry its sum? -/
def linkE (a b p : BitVec 64) (l : LE) (i : Nat) : Bool := decide ((nthE l i).m = sumE a b (prevE p l i) (nthE l i))
def chainE (a b p : BitVec 64) (l : LE) : Nat := upTo (linkE a b p l) l.length
/-- May an entry stand behind another one? -/
def stepE (x y : Ent) : Bool := decide (x.s.toNat < 18446744073709551615) && (decide (y.s = x.s + 1#64) && decide (x.t.toNat ≤ y.t.toNat))
def placeE (l : LE) (i : Nat) : Bool := decide ((nthE l i).x.size ≤ 200) && (decide (i = 0) || stepE (nthE l (i - 1)) (nthE l i))
def firstE (p : BitVec 64) (l : LE) : Bool := if l.length = 0 then decide (p = 0#64) else decide (0 < (nthE l 0).s.toNat) && (decide (1 < (nthE l 0).s.toNat) || decide (p = 0#64))
/-- Is a log right? -/
def rightE (a b p : BitVec 64) (l : LE) : Bool := decide (l.length ≤ 30) && (decide (upTo (placeE l) l.length = l.length) && (decide (chainE a b p l = l.length) && firstE p l))
/-- The last entry; of none one ahead of the first. -/
def lastE (p : BitVec 64) (l : LE) : Ent := if l.length = 0 then ⟨0#64, 0#64, ⟨#[]⟩, p⟩ else nthE l (l.length - 1)
def newE (a b p : BitVec 64) (l : LE) (t : BitVec 64) (x : ByteArray) : Ent := ⟨(lastE p l).s + 1#64, t, x, sumE a b (lastE p l).m ⟨(lastE p l).s + 1#64, t, x, 0#64⟩⟩
def appOk (a b p : BitVec 64) (l : LE) (t : BitVec 64) (x : ByteArray) : Bool := rightE a b p l && (decide (x.size ≤ 200) && stepE (lastE p l) ⟨(lastE p l).s + 1#64, t, x, 0#64⟩)
/-- A log: the sum ahead, the entries. -/
structure Lg where
  p : BitVec 64
  l : LE
/-- With one entry more, without the first if there are too many. -/
def putE (p : BitVec 64) (l : LE) (e : Ent) : Lg := if (l ++ [e]).length > 30 then ⟨(nthE (l ++ [e]) 0).m, (l ++ [e]).drop 1⟩ else ⟨p, l ++ [e]⟩
def appL (a b p : BitVec 64) (l : LE) (t : BitVec 64) (x : ByteArray) : Lg := if appOk a b p l t x = true then putE p l (newE a b p l t x) else ⟨0#64, []⟩
def appC (a b p : BitVec 64) (l : LE) (t : BitVec 64) (x : ByteArray) : Int := if appOk a b p l t x = true then 0 else 160
end Go.Proofs.Ytdhbomipffidlaa
