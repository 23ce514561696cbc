/-
  What the values that come in look like, by their types: out of the reading of a row. No walk in sight.
-/
import Derived.Test.YtdhbomipffidlaaRows
import Derived.Test.YtdhbomipffidlaaBv
import Derived.ProofKit
import Derived.OpenShut
import Derived.ShutString
import Derived.ChangeOld
import Derived.Below
import Derived.Lib.SmallJoins
namespace Go.Proofs.Ytdhbomipffidlaa
open Go.ChangeShapes Go.WideShapes Go.ChangeAt Go.RowKit
open Go.ChangeMaps (open_string shut_string)

section
variable {H : Type} {enc : TypeId × Value → H} {P : Program} {w : World} {base : Nat} {spare : Nat → Bool} {held : Bool} {r : Reach} {b0 : Nat} {t : TypeId} {v : Value} {d : DataW H} {p : List MemPlace}

/-- A cell that reads as a number of 64 digits. -/
theorem cell_u64 {fuel : Nat} {c : Value} {x : DataW H × List MemPlace} (ht : P.underlying t = some (.int .u64)) (h : DataW.trod enc P w base spare held fuel t [c] = some x) : ∃ a : BitVec 64, c = .int .u64 (U a) := by
  obtain ⟨n, e, _, hw⟩ := DataW.trod_int ht h
  have hb := hw
  simp [Lit.wf, IntKind.min, IntKind.max, IntKind.bits, IntKind.signed] at hb
  obtain ⟨a, ha⟩ := U_of n (by omega) (by omega)
  exact ⟨a, by simpa [ha] using e⟩
theorem arg_u64 (ht : P.underlying t = some (.int .u64)) (hv : Value.okWide P w r b0 t v) (h : DataW.Trod enc P w base spare held t v d p) : ∃ a : BitVec 64, v = .int .u64 (U a) := by
  obtain ⟨n, rfl, _, _, hw⟩ := open_int ht hv h
  have hb := hw
  simp [Lit.wf, IntKind.min, IntKind.max, IntKind.bits, IntKind.signed] at hb
  obtain ⟨a, ha⟩ := U_of n (by omega) (by omega)
  exact ⟨a, by rw [ha]⟩
theorem arg_int (ht : P.underlying t = some (.int .i64)) (hv : Value.okWide P w r b0 t v) (h : DataW.Trod enc P w base spare held t v d p) : ∃ n : Int, v = .int .i64 n ∧ -9223372036854775808 ≤ n ∧ n ≤ 9223372036854775807 := by
  obtain ⟨n, rfl, _, _, hw⟩ := open_int ht hv h
  have hb := hw
  simp [Lit.wf, IntKind.min, IntKind.max, IntKind.bits, IntKind.signed] at hb
  exact ⟨n, rfl, by omega, by omega⟩
theorem arg_string (ht : P.underlying t = some .string) (hv : Value.okWide P w r b0 t v) (h : DataW.Trod enc P w base spare held t v d p) : ∃ s : ByteArray, v = .string s ∧ s.size ≤ 9223372036854775807 := by
  obtain ⟨s, rfl, _, _, hs⟩ := open_string ht hv h
  unfold maxLen at hs
  exact ⟨s, rfl, by omega⟩
theorem arg_key {f0 f1 : Field} (hs : P.underlying t = some (.struct #[f0, f1])) (hone : Go.Deep.oneCellFields P #[f0, f1] = true) (hC : P.cellsOf t = 2) (h0 : P.underlying f0.type = some (.int .u64)) (h1 : P.underlying f1.type = some (.int .u64))
    (hv : Value.okWide P w r b0 t v) (h : DataW.Trod enc P w base spare held t v d p) : ∃ a b : BitVec 64, v = .agg #[.int .u64 (U a), .int .u64 (U b)] := by
  obtain ⟨v0, v1, y0, y1, m, rfl, _, _, e0, e1⟩ := Go.Joins.open_agg2 hs hone hC hv h
  obtain ⟨a, rfl⟩ := cell_u64 h0 e0
  obtain ⟨b, rfl⟩ := cell_u64 h1 e1
  exact ⟨a, b, rfl⟩
theorem arg_four {e : TypeId} (hs : P.underlying t = some (.array 4 e)) (hC : P.cellsOf t = 4) (hCe : P.cellsOf e = 1) (he : P.underlying e = some (.int .u64))
    (hv : Value.okWide P w r b0 t v) (h : DataW.Trod enc P w base spare held t v d p) : ∃ x : BitVec 64 × BitVec 64 × BitVec 64 × BitVec 64, v = .agg #[.int .u64 (U x.1), .int .u64 (U x.2.1), .int .u64 (U x.2.2.1), .int .u64 (U x.2.2.2)] := by
  obtain ⟨cs, rfl, hsz, _⟩ : ∃ cs, v = .agg cs ∧ cs.size = P.cellsOf t ∧ Row.okWide P w r b0 t cs := by
    simpa [Value.okWide, hs] using hv
  rw [hC] at hsz
  obtain ⟨c0, c1, c2, c3, rfl⟩ : ∃ a b c d, cs = #[a, b, c, d] := by
    obtain ⟨l⟩ := cs
    match l, hsz with
    | [a, b, c, d], _ => exact ⟨a, b, c, d, rfl⟩
  obtain ⟨fuel, hf⟩ := h
  obtain ⟨y0, y1, y2, y3, m, _, e0, e1, e2, e3⟩ := trod_array4 hs hCe hf
  obtain ⟨x0, rfl⟩ := cell_u64 he e0
  obtain ⟨x1, rfl⟩ := cell_u64 he e1
  obtain ⟨x2, rfl⟩ := cell_u64 he e2
  obtain ⟨x3, rfl⟩ := cell_u64 he e3
  exact ⟨(x0, x1, x2, x3), rfl⟩
end

theorem A_own : ownKnob Try.prog.godebug = none := by kernel_rfl
theorem A_laidOut : laidOutB Try.prog = true := by kernel_rfl

end Go.Proofs.Ytdhbomipffidlaa
