/-
  What lists of texts that come in look like: out of the reading of a row. No walk in sight.
-/
import Derived.Test.YtdhbomipffidlaaOpen
import Derived.Test.YtdhbomipffidlaaStrs
import Derived.SliceStrings
import Derived.ChangeSlices
namespace Go.Proofs.Ytdhbomipffidlaa
open Go.ChangeShapes Go.WideShapes Go.ChangeAt Go.RowKit

section
variable {H : Type} {enc : TypeId × Value → H} {P : Program} {w : World} {base : Nat} {spare : Nat → Bool} {held : Bool} {r : Reach} {b0 : Nat} {t : TypeId} {v : Value} {d : DataW H} {p : List MemPlace}

theorem spotS_none {w : World} {a : Addr} {v : Value} (h : w.cell? a = some v) : a = ⟨a.block, a.off, none⟩ := by
  obtain ⟨b, o, s⟩ := a
  cases s with
  | none => rfl
  | some s =>
    unfold World.cell? at h
    split at h
    · simp at h
    · cases h
theorem arg_strs {e : TypeId} (ht : P.underlying t = some (.slice e)) (he : P.underlying e = some .string) (hC : P.cellsOf e = 1)
    (hv : Value.okWide P w r b0 t v) (h : DataW.Trod enc P w base spare held t v d p) : ∃ (A : Option Addr) (c : Nat) (l : LS), v = .slice A l.length c ∧ l.length ≤ 9223372036854775807 ∧ (∀ s ∈ l, s.size ≤ 9223372036854775807) ∧ AtS w w.heap.size A l := by
  obtain ⟨a0, len0, cap0, rfl⟩ := okWide_slice ht hv
  obtain ⟨fuel, hf⟩ := h
  rcases open_strings ht he hC hf with ⟨h0, _⟩ | ⟨a, len, cap, ss, h1, hb, hl, hm, hz, _, hcell, hsz⟩
  · simp only [List.cons.injEq, and_true, Value.cells] at h0
    have h0' : Value.slice a0 len0 cap0 = .slice none 0 0 := by simpa using h0
    rw [h0']
    exact ⟨none, 0, [], rfl, by simp, fun s hs => by simp at hs, AtS.nil⟩
  · have h1' : Value.slice a0 len0 cap0 = .slice (some a) len cap := by simpa [Value.cells] using h1
    rw [h1']
    have hlen : len ≤ ss.length := by rw [hz]; split <;> omega
    have hll : (ss.take len).length = len := by rw [List.length_take]; omega
    unfold maxLen at hm hsz
    refine ⟨some a, cap, ss.take len, by rw [hll], by rw [hll]; omega, fun s hs => by have := hsz s (List.mem_of_mem_take hs); omega, fun h0 => ?_⟩
    rw [hll] at h0
    have hnum : ∀ j, j < len → w.cell? (a.add j) = some (.string (nthS (ss.take len) j)) := by
      intro j hj
      rw [hcell j (by omega)]
      congr 2
      unfold nthS
      rw [List.getD_eq_getElem?_getD, List.getD_eq_getElem?_getD, List.getElem?_take, if_pos hj]
      rfl
    have h00 := hnum 0 h0
    have ha : a.add 0 = a := rfl
    rw [ha] at h00
    refine ⟨a.block, a.off, congrArg some (spotS_none h00), World.block_lt_of_cell? w a h00, fun j hj => ?_⟩
    rw [hll] at hj
    rw [← hnum j hj]
    congr 1
    rw [spotS_none h00]
    unfold Addr.add
    split
    · rename_i h; simp [h]
    · rfl
end
end Go.Proofs.Ytdhbomipffidlaa
