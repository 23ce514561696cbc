/-
  A key at hand; lengths of texts. (Part of Child.)
-/
import Derived.Test.YtdhbomipffidlaaSip4
import Derived.Test.YtdhbomipffidlaaLater
import Derived.Test.YtdhbomipffidlaaTail
namespace Go.Proofs.Ytdhbomipffidlaa
open Go.RowKit Go.Shelf
attribute [local go_sem] U_add U_sub U_xor U_or U_and

/-- A key at hand in a block. -/
def KeyAt (w : World) (b : Nat) (T : TypeId) (x y : BitVec 64) : Prop := w.heap[b]? = some (.cells #[.int .u64 (U x), .int .u64 (U y)] T (0, 0))
theorem KeyAt.lt {w : World} {b : Nat} {T : TypeId} {x y : BitVec 64} (h : KeyAt w b T x y) : b < w.heap.size := (Array.getElem?_eq_some_iff.1 h).1
theorem KeyAt.facts {w : World} {b : Nat} {T : TypeId} {x y : BitVec 64} (h : KeyAt w b T x y) :
    (w.cell? ⟨b, 0, none⟩ = some (.int .u64 (U x)) ∧ w.cell? ⟨b, 1, none⟩ = some (.int .u64 (U y))) ∧ (w.frozen? ⟨b, 0, none⟩ = false ∧ w.frozen? ⟨b, 1, none⟩ = false) := by
  unfold KeyAt at h
  simp [World.cell?, World.frozen?, h]

theorem size_cat (a b : ByteArray) : (a ++ b).size = a.size + b.size := ByteArray.size_append


end Go.Proofs.Ytdhbomipffidlaa
