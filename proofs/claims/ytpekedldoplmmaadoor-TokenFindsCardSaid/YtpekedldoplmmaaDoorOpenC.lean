/-
  What a claim that comes in looks like: out of the reading of a row. No walk in sight.
-/
import Derived.Test.YtpekedldoplmmaaDoorOpen
namespace Go.Proofs.YtpekedldoplmmaaDoor
open Go.ChangeShapes Go.WideShapes Go.ChangeAt Go.RowKit

section
variable {H : Type} {enc : TypeId × Value → H} {P : Program} {w : World} {base : Nat} {spare : Nat → Bool} {held : Bool} {r : Reach} {b0 : Nat} {t : TypeId} {v : Value} {d : DataW H} {p : List MemPlace}

theorem cell_i64 {fuel : Nat} {c : Value} {x : DataW H × List MemPlace} (ht : P.underlying t = some (.int .i64)) (h : DataW.trod enc P w base spare held fuel t [c] = some x) : ∃ n : Int, c = .int .i64 n ∧ -9223372036854775808 ≤ n ∧ n ≤ 9223372036854775807 := by
  obtain ⟨n, e, _, hw⟩ := DataW.trod_int ht h
  have hb := hw
  simp [Lit.wf, IntKind.min, IntKind.max, IntKind.bits, IntKind.signed] at hb
  exact ⟨n, by simpa using e, by omega, by omega⟩
theorem arg_claim {f0 f1 f2 : Field} (hs : P.underlying t = some (.struct #[f0, f1, f2])) (hone : Go.Deep.oneCellFields P #[f0, f1, f2] = true) (hC : P.cellsOf t = 3) (h0 : P.underlying f0.type = some (.int .u64)) (h1 : P.underlying f1.type = some (.int .i64)) (h2 : P.underlying f2.type = some (.int .u64))
    (hv : Value.okWide P w r b0 t v) (h : DataW.Trod enc P w base spare held t v d p) : ∃ (a : BitVec 64) (n : Int) (b : BitVec 64), v = .agg #[.int .u64 (U a), .int .i64 n, .int .u64 (U b)] := by
  obtain ⟨v0, v1, v2, y0, y1, y2, m, rfl, _, _, e0, e1, e2⟩ := Go.Joins.open_agg3 hs hone hC hv h
  obtain ⟨a, rfl⟩ := cell_u64 h0 e0
  obtain ⟨n, rfl, -, -⟩ := cell_i64 h1 e1
  obtain ⟨b, rfl⟩ := cell_u64 h2 e2
  exact ⟨a, n, b, rfl⟩
end
end Go.Proofs.YtpekedldoplmmaaDoor
