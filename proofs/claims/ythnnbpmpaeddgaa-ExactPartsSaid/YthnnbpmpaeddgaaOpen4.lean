/-
  What lists of numbers, and sketches, that come in look like: out of the reading of a row. No walk in sight.
-/
import Derived.Test.YthnnbpmpaeddgaaOpen2
import Derived.Deep.Fields
namespace Go.Proofs.Ythnnbpmpaeddgaa
open Go.ChangeShapes Go.WideShapes Go.ChangeAt Go.RowKit Go.Deep

section
variable {H : Type} {enc : TypeId × Value → H} {P : Program} {w : World} {base : Nat} {spare : Nat → Bool} {held : Bool} {r : Reach} {b0 : Nat} {t : TypeId} {v : Value} {d : DataW H} {p : List MemPlace}

theorem arg_u64s {e : TypeId} (ht : P.underlying t = some (.slice e)) (he : P.underlying e = some (.int .u64)) (hC : P.cellsOf e = 1)
    (hv : Value.okWide P w r b0 t v) (h : DataW.Trod enc P w base spare held t v d p) : ∃ (A : Option Addr) (c : Nat) (l : List (BitVec 64)), v = .slice A l.length c ∧ l.length ≤ c ∧ At w w.heap.size A l := by
  obtain ⟨a0, len, cap, rfl⟩ := okWide_slice ht hv
  obtain ⟨fuel, hf⟩ := h
  exact slice_u64s ht he hC hf
theorem arg_exact {f0 : Field} {e : TypeId} (hs : P.underlying t = some (.struct #[f0])) (hone : oneCellFields P #[f0] = true) (hC : P.cellsOf t = 1) (h0 : P.underlying f0.type = some (.slice e)) (he : P.underlying e = some (.int .u64)) (hc : P.cellsOf e = 1)
    (hv : Value.okWide P w r b0 t v) (h : DataW.Trod enc P w base spare held t v d p) : ∃ (A : Option Addr) (c : Nat) (l : List (BitVec 64)), v = .agg #[.slice A l.length c] ∧ l.length ≤ c ∧ At w w.heap.size A l := by
  obtain ⟨cs, rfl, hsz⟩ := okWide_struct hs hv
  obtain ⟨l⟩ := cs
  match l, hsz.trans hC with
  | [c0], _ =>
    obtain ⟨fuel, hf⟩ := h
    obtain ⟨xs, n, _, hx, _, hlen, hg⟩ := DataW.trod_struct hs hf
    obtain ⟨o0, k0⟩ := hone_of hone 0 f0 rfl
    have g0 := hg 0 f0 rfl
    rw [o0, k0] at g0
    match xs, hlen with
    | [y0], _ =>
      obtain ⟨A, c, l, rfl, h1, h2⟩ := slice_u64s (c := c0) h0 he hc (by simpa [Value.cells] using g0)
      exact ⟨A, c, l, rfl, h1, h2⟩
end
end Go.Proofs.Ythnnbpmpaeddgaa
