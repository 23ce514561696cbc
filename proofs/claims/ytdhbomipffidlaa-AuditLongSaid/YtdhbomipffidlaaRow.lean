/-
  Rows of numbers in memory. No walk in sight.
-/
import Derived.Test.YtdhbomipffidlaaBv
import Derived.Test.YtdhbomipffidlaaMem
import Derived.Laws.MakeOwn
import Derived.Deep.RegionHeld
namespace Go.Proofs.Ytdhbomipffidlaa
open Go.RowKit

def enc64 (x : BitVec 64) : Value := .int .u64 (U x)
def nth (l : List (BitVec 64)) (j : Nat) : BitVec 64 := l.getD j 0
/-- Block b is just the numbers of l. -/
def Row (w : World) (b : Nat) (T : TypeId) (l : List (BitVec 64)) : Prop := w.heap[b]? = some (.cells (l.map enc64).toArray T (0, 0))
/-- From A on the numbers of l lie, in a block below B. -/
def At (w : World) (B : Nat) (A : Option Addr) (l : List (BitVec 64)) : Prop :=
  0 < l.length → ∃ b o, A = some ⟨b, o, none⟩ ∧ b < B ∧ ∀ j, j < l.length → w.cell? ⟨b, o + j, none⟩ = some (.int .u64 (U (nth l j)))

section
variable {w w' : World} {b B B' : Nat} {T : TypeId} {A : Option Addr} {l : List (BitVec 64)}
theorem nth_get {j : Nat} (h : j < l.length) : l[j]? = some (nth l j) := by
  unfold nth
  rw [List.getD_eq_getElem?_getD, List.getElem?_eq_getElem h]
  rfl
theorem nth_ext {l m : List (BitVec 64)} (h : l.length = m.length) (k : ∀ j, j < l.length → nth l j = nth m j) : l = m := by
  apply List.ext_getElem? 
  intro i
  by_cases hi : i < l.length
  · rw [nth_get hi, nth_get (by omega), k i hi]
  · rw [List.getElem?_eq_none (by omega), List.getElem?_eq_none (by omega)]
theorem Row.lt (h : Row w b T l) : b < w.heap.size := by
  unfold Row at h
  exact (Array.getElem?_eq_some_iff.1 h).1
theorem Row.cell (h : Row w b T l) {j : Nat} (hj : j < l.length) : w.cell? ⟨b, j, none⟩ = some (.int .u64 (U (nth l j))) := by
  unfold Row at h
  simp only [World.cell?, h]
  simp [nth_get hj, enc64]
theorem Row.free (h : Row w b T l) (j : Nat) : w.frozen? ⟨b, j, none⟩ = false := by
  unfold Row at h
  simp [World.frozen?, h]
theorem Row.below (h : Row w b T l) (hb : Below B w w') (hB : b < B) : Row w' b T l := (hb.block b hB).trans h
theorem Row.at_ (h : Row w b T l) (hB : b < B) : At w B (some ⟨b, 0, none⟩) l := fun _ => ⟨b, 0, rfl, hB, fun j hj => by rw [Nat.zero_add]; exact h.cell hj⟩
theorem Row.put (h : Row w b T l) : Put w w b (.cells (l.map enc64).toArray T) := Put.refl h
theorem Row.set {w0 : World} (h : Put w0 w b (.cells (l.map enc64).toArray T)) (j : Nat) (x : BitVec 64) : Put w0 (w.setCell ⟨b, j, none⟩ (.int .u64 (U x))) b (.cells ((l.set j x).map enc64).toArray T) := by
  have h2 := h.set j (.int .u64 (U x))
  have e : ((l.map enc64).toArray.setIfInBounds j (.int .u64 (U x))) = ((l.set j x).map enc64).toArray := by
    rw [List.setIfInBounds_toArray, List.map_set]; rfl
  rw [e] at h2
  exact h2
theorem At.nil : At w B A [] := fun h => absurd h (by simp)
theorem At.below (h : At w B A l) (hb : Below B w w') : At w' B A l := fun hl => by
  obtain ⟨b, o, e, hlt, hc⟩ := h hl
  exact ⟨b, o, e, hlt, fun j hj => (hb.cell (by exact hlt)).trans (hc j hj)⟩
theorem At.mono (h : At w B A l) (hB : B ≤ B') : At w B' A l := fun hl => by
  obtain ⟨b, o, e, hlt, hc⟩ := h hl
  exact ⟨b, o, e, by omega, hc⟩
theorem At.take (h : At w B A l) (n : Nat) : At w B A (l.take n) := fun hl => by
  have hl2 : 0 < l.length := by simp at hl; omega
  obtain ⟨b, o, e, hlt, hc⟩ := h hl2
  refine ⟨b, o, e, hlt, fun j hj => ?_⟩
  have hj2 : j < l.length := by simp at hj; omega
  have hjn : j < n := by simp at hj; omega
  rw [hc j hj2]
  unfold nth
  rw [List.getD_eq_getElem?_getD, List.getD_eq_getElem?_getD, List.getElem?_take, if_pos hjn]
end

theorem dn {B : Nat} {a w : World} (h : Below B a w) (n : Nat) : Below B a (w.drewN n) := ⟨h.os, h.tape, h.output, h.size, h.block⟩

theorem old_cell {w : World} {a : Addr} {v : Value} (h : w.cell? a = some v) (o : Obj) : (w.alloc o).cell? a = some v := by
  rw [World.cell?_alloc_lt w o a (World.block_lt_of_cell? w a h)]; exact h

theorem zeros_eq (n : Nat) : madeCells (Value.int .u64 0).cells (n * 1) = ((List.replicate n (0#64)).map enc64).toArray := by
  have hz : (Value.int .u64 0).cells = #[.int .u64 0] := rfl
  rw [hz]
  apply Array.ext
  · simp [madeCells]
  · intro i h1 h2
    simp [madeCells, enc64, Nat.mod_one]
    rfl

end Go.Proofs.Ytdhbomipffidlaa
