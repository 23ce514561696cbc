/-
  What logs that come in look like: out of the reading of a row. No walk in sight.
-/
import Derived.Test.YtdhbomipffidlaaOpen
import Derived.Test.YtdhbomipffidlaaEnt
import Derived.Deep.Slices
import Derived.Deep.Fields
import Derived.ChangeSame
namespace Go.Proofs.Ytdhbomipffidlaa
open Go.ChangeShapes Go.WideShapes Go.ChangeAt Go.RowKit Go.Deep

theorem list_of {α : Type} (len : Nat) (S : Nat → α → Prop) (h : ∀ i, i < len → ∃ q, S i q) : ∃ l : List α, l.length = len ∧ ∀ i, i < len → ∃ q, l[i]? = some q ∧ S i q := by
  induction len with
  | zero => exact ⟨[], rfl, fun i hi => absurd hi (by omega)⟩
  | succ n ih =>
    obtain ⟨l, hl, hS⟩ := ih (fun i hi => h i (by omega))
    obtain ⟨q, hq⟩ := h n (by omega)
    refine ⟨l ++ [q], by simp [hl], fun i hi => ?_⟩
    by_cases e : i < n
    · obtain ⟨q', h1, h2⟩ := hS i e
      exact ⟨q', by rw [List.getElem?_append_left (by omega)]; exact h1, h2⟩
    · obtain rfl : i = n := by omega
      exact ⟨q, by rw [List.getElem?_append_right (by omega), hl]; simp, hq⟩
theorem spotE_none {w : World} {a : Addr} {v : Value} (h : w.cell? a = some v) : a = ⟨a.block, a.off, none⟩ := by
  obtain ⟨b, o, s⟩ := a
  cases s with
  | none => rfl
  | some s =>
    unfold World.cell? at h
    split at h
    · simp at h
    · cases h

section
variable {H : Type} {enc : TypeId × Value → H} {P : Program} {w : World} {base : Nat} {spare : Nat → Bool} {held : Bool} {r : Reach} {b0 : Nat} {t : TypeId} {v : Value} {d : DataW H} {p : List MemPlace}

/-- A cell that reads as a text. -/
theorem cell_str {fuel : Nat} {c : Value} {x : DataW H × List MemPlace} (ht : P.underlying t = some .string) (h : DataW.trod enc P w base spare held fuel t [c] = some x) : ∃ s : ByteArray, c = .string s ∧ s.size ≤ 9223372036854775807 := by
  obtain ⟨s, e, _, hs⟩ := DataW.trod_string ht h
  unfold maxLen at hs
  exact ⟨s, by simpa using e, by omega⟩
theorem ent_cells {e : TypeId} {f0 f1 f2 f3 : Field} {fuel : Nat} {cs : List Value} {x : DataW H × List MemPlace} (he : P.underlying e = some (.struct #[f0, f1, f2, f3])) (hone : oneCellFields P #[f0, f1, f2, f3] = true) (hC : P.cellsOf e = 4)
    (h0 : P.underlying f0.type = some (.int .u64)) (h1 : P.underlying f1.type = some (.int .u64)) (h2 : P.underlying f2.type = some .string) (h3 : P.underlying f3.type = some (.int .u64))
    (h : DataW.trod enc P w base spare held fuel e cs = some x) : ∃ q : Ent, q.x.size ≤ 9223372036854775807 ∧ cs[0]? = some (.int .u64 (U q.s)) ∧ cs[1]? = some (.int .u64 (U q.t)) ∧ cs[2]? = some (.string q.x) ∧ cs[3]? = some (.int .u64 (U q.m)) := by
  obtain ⟨ys, n', hn', hy, hlen, hyl, hf⟩ := DataW.trod_struct he h
  obtain ⟨o0, k0⟩ := hone_of hone 0 f0 rfl
  obtain ⟨o1, k1⟩ := hone_of hone 1 f1 rfl
  obtain ⟨o2, k2⟩ := hone_of hone 2 f2 rfl
  obtain ⟨o3, k3⟩ := hone_of hone 3 f3 rfl
  have g0 := hf 0 f0 rfl
  have g1 := hf 1 f1 rfl
  have g2 := hf 2 f2 rfl
  have g3 := hf 3 f3 rfl
  rw [o0, k0] at g0
  rw [o1, k1] at g1
  rw [o2, k2] at g2
  rw [o3, k3] at g3
  rw [hC] at hlen
  match ys, hyl, cs, hlen with
  | [y0, y1, y2, y3], _, [c0, c1, c2, c3], _ =>
    obtain ⟨a, ha⟩ := cell_u64 (c := c0) h0 (by simpa using g0)
    obtain ⟨b, hb⟩ := cell_u64 (c := c1) h1 (by simpa using g1)
    obtain ⟨s, hs, hz⟩ := cell_str (c := c2) h2 (by simpa using g2)
    obtain ⟨m, hm⟩ := cell_u64 (c := c3) h3 (by simpa using g3)
    subst ha hb hs hm
    exact ⟨⟨a, b, s, m⟩, hz, rfl, rfl, rfl, rfl⟩

theorem slice_ents {e : TypeId} {f0 f1 f2 f3 : Field} {fuel : Nat} {c : Value} {x : DataW H × List MemPlace} (ht : P.underlying t = some (.slice e)) (he : P.underlying e = some (.struct #[f0, f1, f2, f3])) (hone : oneCellFields P #[f0, f1, f2, f3] = true) (hC : P.cellsOf e = 4)
    (h0 : P.underlying f0.type = some (.int .u64)) (h1 : P.underlying f1.type = some (.int .u64)) (h2 : P.underlying f2.type = some .string) (h3 : P.underlying f3.type = some (.int .u64))
    (h : DataW.trod enc P w base spare held fuel t [c] = some x) :
    ∃ (A : Option Addr) (cap : Nat) (l : LE), c = .slice A l.length cap ∧ l.length ≤ 9223372036854775807 ∧ (∀ j, j < l.length → (nthE l j).x.size ≤ 9223372036854775807) ∧ AtE w w.heap.size A l := by
  rcases open_slice ht h with ⟨h2, _⟩ | ⟨a, len, cap, m, n, D, Pl, hcs, hb, hl, hm, hmm, hx, hi⟩
  · simp only [List.cons.injEq, and_true] at h2
    exact ⟨none, 0, [], h2, by simp, fun j hj => absurd hj (by simp), AtE.nil⟩
  · simp only [List.cons.injEq, and_true] at hcs
    have hlm : len ≤ m := by rw [hmm]; split <;> omega
    obtain ⟨l, hll, hS⟩ := list_of len (fun i (q : Ent) => q.x.size ≤ 9223372036854775807 ∧ w.cell? (a.add (i * 4)) = some (.int .u64 (U q.s)) ∧ w.cell? (a.add (i * 4 + 1)) = some (.int .u64 (U q.t)) ∧ w.cell? (a.add (i * 4 + 2)) = some (.string q.x) ∧ w.cell? (a.add (i * 4 + 3)) = some (.int .u64 (U q.m))) (fun i hi2 => by
      obtain ⟨cs', hc, ht'⟩ := hi i (by omega)
      rw [hC] at hc
      obtain ⟨_, hcl, hat⟩ := World.cells?_some hc
      obtain ⟨q, hz, e0, e1, e2, e3⟩ := ent_cells he hone hC h0 h1 h2 h3 ht'
      refine ⟨q, hz, ?_, ?_, ?_, ?_⟩
      · have := hat (i := 0) (by omega)
        rw [Go.Deep.add_add] at this
        exact this.trans e0
      · have := hat (i := 1) (by omega)
        rw [Go.Deep.add_add] at this
        exact this.trans e1
      · have := hat (i := 2) (by omega)
        rw [Go.Deep.add_add] at this
        exact this.trans e2
      · have := hat (i := 3) (by omega)
        rw [Go.Deep.add_add] at this
        exact this.trans e3)
    unfold maxLen at hm
    have hnth : ∀ j, j < len → ∃ q, nthE l j = q ∧ q.x.size ≤ 9223372036854775807 ∧ w.cell? (a.add (j * 4)) = some (.int .u64 (U q.s)) ∧ w.cell? (a.add (j * 4 + 1)) = some (.int .u64 (U q.t)) ∧ w.cell? (a.add (j * 4 + 2)) = some (.string q.x) ∧ w.cell? (a.add (j * 4 + 3)) = some (.int .u64 (U q.m)) := fun j hj => by
      obtain ⟨q, hq, k⟩ := hS j hj
      exact ⟨q, nthE_of hq, k⟩
    refine ⟨some a, cap, l, by rw [hll]; exact hcs, by rw [hll]; omega, fun j hj => ?_, fun hl0 => ?_⟩
    · rw [hll] at hj
      obtain ⟨q, rfl, hz, -⟩ := hnth j hj
      exact hz
    rw [hll] at hl0
    obtain ⟨q0, -, -, c0, -⟩ := hS 0 hl0
    have ha : a.add (0 * 4) = a := by rw [Nat.zero_mul]; rfl
    rw [ha] at c0
    have hsp := spotE_none c0
    refine ⟨a.block, a.off, congrArg some hsp, World.block_lt_of_cell? w a c0, fun j hj => ?_⟩
    rw [hll] at hj
    obtain ⟨q, rfl, hz, d0, d1, d2, d3⟩ := hnth j hj
    rw [hsp, addE_mk] at d0 d1 d2 d3
    exact ⟨d0, d1, d2, d3⟩
theorem arg_log {g0 g1 : Field} {e : TypeId} {f0 f1 f2 f3 : Field} (hs : P.underlying t = some (.struct #[g0, g1])) (hone2 : oneCellFields P #[g0, g1] = true) (hC2 : P.cellsOf t = 2) (hg0 : P.underlying g0.type = some (.int .u64)) (ht : P.underlying g1.type = some (.slice e))
    (he : P.underlying e = some (.struct #[f0, f1, f2, f3])) (hone : oneCellFields P #[f0, f1, f2, f3] = true) (hC : P.cellsOf e = 4)
    (h0 : P.underlying f0.type = some (.int .u64)) (h1 : P.underlying f1.type = some (.int .u64)) (h2 : P.underlying f2.type = some .string) (h3 : P.underlying f3.type = some (.int .u64))
    (hv : Value.okWide P w r b0 t v) (h : DataW.Trod enc P w base spare held t v d p) : ∃ (q : BitVec 64) (A : Option Addr) (c : Nat) (l : LE), v = .agg #[.int .u64 (U q), .slice A l.length c] ∧ l.length ≤ 9223372036854775807 ∧ (∀ j, j < l.length → (nthE l j).x.size ≤ 9223372036854775807) ∧ AtE w w.heap.size A l := by
  obtain ⟨v0, v1, y0, y1, m, rfl, _, _, e0, e1⟩ := Go.Joins.open_agg2 hs hone2 hC2 hv h
  obtain ⟨q, rfl⟩ := cell_u64 hg0 e0
  obtain ⟨A, c, l, rfl, k1, k2, k3⟩ := slice_ents ht he hone hC h0 h1 h2 h3 e1
  exact ⟨q, A, c, l, rfl, k1, k2, k3⟩
end
end Go.Proofs.Ytdhbomipffidlaa
