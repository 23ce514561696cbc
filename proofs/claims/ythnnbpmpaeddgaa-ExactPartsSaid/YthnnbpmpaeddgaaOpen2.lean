/-
  What lists of numbers and counters that come in look like: out of the reading of a row. No walk in sight.
-/
import Derived.Test.YthnnbpmpaeddgaaOpen
import Derived.Test.YthnnbpmpaeddgaaRow
import Derived.ChangeSlices
namespace Go.Proofs.Ythnnbpmpaeddgaa
open Go.ChangeShapes Go.WideShapes Go.ChangeAt Go.RowKit

section
variable {H : Type} {enc : TypeId × Value → H} {P : Program} {w : World} {base : Nat} {spare : Nat → Bool} {held : Bool} {r : Reach} {b0 : Nat} {t : TypeId} {v : Value} {d : DataW H} {p : List MemPlace}

theorem cell_i64 {fuel : Nat} {c : Value} {x : DataW H × List MemPlace} (ht : P.underlying t = some (.int .i64)) (h : DataW.trod enc P w base spare held fuel t [c] = some x) : ∃ n : Int, c = .int .i64 n ∧ -9223372036854775808 ≤ n ∧ n ≤ 9223372036854775807 := by
  obtain ⟨n, e, _, hw⟩ := DataW.trod_int ht h
  have hb := hw
  simp [Lit.wf, IntKind.min, IntKind.max, IntKind.bits, IntKind.signed] at hb
  exact ⟨n, by simpa using e, by omega, by omega⟩
theorem spot_none {w : World} {a : Addr} {v : Value} (h : w.cell? a = some v) : a = ⟨a.block, a.off, none⟩ := by
  obtain ⟨b, o, s⟩ := a
  cases s with
  | none => rfl
  | some s =>
    unfold World.cell? at h
    split at h
    · simp at h
    · cases h
theorem slice_u64s {e : TypeId} {fuel : Nat} {c : Value} {x : DataW H × List MemPlace} (ht : P.underlying t = some (.slice e)) (he : P.underlying e = some (.int .u64)) (hc : P.cellsOf e = 1) (h : DataW.trod enc P w base spare held fuel t [c] = some x) :
    ∃ (A : Option Addr) (cap : Nat) (l : List (BitVec 64)), c = .slice A l.length cap ∧ l.length ≤ cap ∧ At w w.heap.size A l := by
  rcases open_ints ht he hc h with ⟨h0, _⟩ | ⟨a, len, cap, zs, h1, hb, hl, hm, hz, _, hcell, hwf⟩
  · simp only [List.cons.injEq, and_true] at h0
    exact ⟨none, 0, [], h0, Nat.le_refl _, At.nil⟩
  · simp only [List.cons.injEq, and_true] at h1
    have hlen : len ≤ zs.length := by rw [hz]; split <;> omega
    have hll : ((zs.take len).map (BitVec.ofInt 64)).length = len := by simp; omega
    refine ⟨some a, cap, (zs.take len).map (BitVec.ofInt 64), by rw [hll]; exact h1, by rw [hll]; exact hl, fun h0 => ?_⟩
    rw [hll] at h0
    have hnum : ∀ j, j < len → w.cell? (a.add j) = some (.int .u64 (U (nth ((zs.take len).map (BitVec.ofInt 64)) j))) := by
      intro j hj
      have hjz : j < zs.length := by omega
      rw [hcell j hjz]
      have hget : zs.getD j 0 = zs[j] := by rw [List.getD_eq_getElem?_getD, List.getElem?_eq_getElem hjz]; rfl
      have hw := hwf _ (List.getElem_mem hjz)
      have hb := hw
      simp [Lit.wf, IntKind.min, IntKind.max, IntKind.bits, IntKind.signed] at hb
      obtain ⟨y, hy⟩ := U_of zs[j] (by omega) (by omega)
      have hn : nth ((zs.take len).map (BitVec.ofInt 64)) j = y := by
        unfold nth
        rw [List.getD_eq_getElem?_getD, List.getElem?_map, List.getElem?_take, if_pos hj, List.getElem?_eq_getElem hjz, hy]
        simp [U_ofInt]
      rw [hn, hget, hy]
    have h00 := hnum 0 h0
    have ha : a.add 0 = a := rfl
    rw [ha] at h00
    refine ⟨a.block, a.off, congrArg some (spot_none h00), World.block_lt_of_cell? w a h00, fun j hj => ?_⟩
    rw [hll] at hj
    rw [← hnum j hj]
    congr 1
    rw [spot_none h00]
    unfold Addr.add
    split
    · rename_i h; simp [h]
    · rfl
theorem arg_cms {f0 f1 f2 : Field} {e : TypeId} (hs : P.underlying t = some (.struct #[f0, f1, f2])) (hone : Go.Deep.oneCellFields P #[f0, f1, f2] = true) (hC : P.cellsOf t = 3) (h0 : P.underlying f0.type = some (.int .i64)) (h1 : P.underlying f1.type = some (.int .i64))
    (h2 : P.underlying f2.type = some (.slice e)) (he : P.underlying e = some (.int .u64)) (hc : P.cellsOf e = 1)
    (hv : Value.okWide P w r b0 t v) (h : DataW.Trod enc P w base spare held t v d p) : ∃ (R C : Int) (A : Option Addr) (c : Nat) (l : List (BitVec 64)), v = .agg #[.int .i64 R, .int .i64 C, .slice A l.length c] ∧ l.length ≤ c ∧ At w w.heap.size A l := by
  obtain ⟨v0, v1, v2, y0, y1, y2, m, rfl, _, _, e0, e1, e2⟩ := Go.Joins.open_agg3 hs hone hC hv h
  obtain ⟨R, rfl, _⟩ := cell_i64 h0 e0
  obtain ⟨C, rfl, _⟩ := cell_i64 h1 e1
  obtain ⟨A, c, l, rfl, hlc, hA⟩ := slice_u64s h2 he hc e2
  exact ⟨R, C, A, c, l, rfl, hlc, hA⟩
end
end Go.Proofs.Ythnnbpmpaeddgaa
