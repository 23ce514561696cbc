/-
  What lists of pairs of numbers that come in look like: out of the reading of a row. No walk in sight.
-/
import Derived.Test.YtlehjbfhhikpiaaOpen2
import Derived.Test.YtlehjbfhhikpiaaCmsS
import Derived.Deep.Slices
import Derived.Deep.Fields
import Derived.ChangeSame
namespace Go.Proofs.Ytlehjbfhhikpiaa
open Go.ChangeShapes Go.WideShapes Go.ChangeAt Go.RowKit Go.Deep

theorem list_of {α : Type} (len : Nat) (S : Nat → α → Prop) (h : ∀ i, i < len → ∃ q, S i q) : ∃ l : List α, l.length = len ∧ ∀ i, i < len → ∃ q, l[i]? = some q ∧ S i q := by
  induction len with
  | zero => exact ⟨[], rfl, fun i hi => absurd hi (by omega)⟩
  | succ n ih =>
    obtain ⟨l, hl, hS⟩ := ih (fun i hi => h i (by omega))
    obtain ⟨q, hq⟩ := h n (by omega)
    refine ⟨l ++ [q], by simp [hl], fun i hi => ?_⟩
    by_cases e : i < n
    · obtain ⟨q', h1, h2⟩ := hS i e
      exact ⟨q', by rw [List.getElem?_append_left (by omega)]; exact h1, h2⟩
    · obtain rfl : i = n := by omega
      exact ⟨q, by rw [List.getElem?_append_right (by omega), hl]; simp, hq⟩

section
variable {H : Type} {enc : TypeId × Value → H} {P : Program} {w : World} {base : Nat} {spare : Nat → Bool} {held : Bool} {r : Reach} {b0 : Nat} {t : TypeId} {v : Value} {d : DataW H} {p : List MemPlace}

theorem pair_cells {e : TypeId} {f0 f1 : Field} {fuel : Nat} {cs : List Value} {x : DataW H × List MemPlace} (he : P.underlying e = some (.struct #[f0, f1])) (hone : oneCellFields P #[f0, f1] = true) (h0 : P.underlying f0.type = some (.int .u64)) (h1 : P.underlying f1.type = some (.int .u64))
    (h : DataW.trod enc P w base spare held fuel e cs = some x) : ∃ a b : BitVec 64, cs[0]? = some (.int .u64 (U a)) ∧ cs[1]? = some (.int .u64 (U b)) := by
  obtain ⟨ys, n', hn', hy, hlen, hyl, hf⟩ := DataW.trod_struct he h
  obtain ⟨o0, k0⟩ := hone_of hone 0 f0 rfl
  obtain ⟨o1, k1⟩ := hone_of hone 1 f1 rfl
  have g0 := hf 0 f0 rfl
  have g1 := hf 1 f1 rfl
  rw [o0, k0] at g0
  rw [o1, k1] at g1
  match ys, hyl with
  | [y0, y1], _ =>
    match cs, g0, g1 with
    | [], g0, _ =>
      obtain ⟨n, e, _⟩ := DataW.trod_int h0 g0
      simp at e
    | [c0], _, g1 =>
      obtain ⟨n, e, _⟩ := DataW.trod_int h1 g1
      simp at e
    | c0 :: c1 :: rest, g0, g1 =>
      obtain ⟨a, ha⟩ := cell_u64 (c := c0) h0 (by simpa using g0)
      obtain ⟨b, hb⟩ := cell_u64 (c := c1) h1 (by simpa using g1)
      subst ha hb
      exact ⟨a, b, rfl, rfl⟩

theorem slice_items {e : TypeId} {f0 f1 : Field} {fuel : Nat} {c : Value} {x : DataW H × List MemPlace} (ht : P.underlying t = some (.slice e)) (he : P.underlying e = some (.struct #[f0, f1])) (hone : oneCellFields P #[f0, f1] = true) (hC : P.cellsOf e = 2) (h0 : P.underlying f0.type = some (.int .u64)) (h1 : P.underlying f1.type = some (.int .u64))
    (h : DataW.trod enc P w base spare held fuel t [c] = some x) :
    ∃ (A : Option Addr) (cap : Nat) (l : List (BitVec 64 × BitVec 64)), c = .slice A l.length cap ∧ l.length ≤ cap ∧ ItAt w w.heap.size A l := by
  rcases open_slice ht h with ⟨h2, _⟩ | ⟨a, len, cap, m, n, D, Pl, hcs, hb, hl, hm, hmm, hx, hi⟩
  · simp only [List.cons.injEq, and_true] at h2
    exact ⟨none, 0, [], h2, Nat.le_refl _, ItAt.nil⟩
  · simp only [List.cons.injEq, and_true] at hcs
    have hlm : len ≤ m := by rw [hmm]; split <;> omega
    obtain ⟨l, hll, hS⟩ := list_of len (fun i (q : BitVec 64 × BitVec 64) => w.cell? (a.add (i * 2)) = some (.int .u64 (U q.1)) ∧ w.cell? (a.add (i * 2 + 1)) = some (.int .u64 (U q.2))) (fun i hi2 => by
      obtain ⟨cs', hc, ht'⟩ := hi i (by omega)
      rw [hC] at hc
      obtain ⟨_, hcl, hat⟩ := World.cells?_some hc
      obtain ⟨u0, u1, e0, e1⟩ := pair_cells he hone h0 h1 ht'
      refine ⟨(u0, u1), ?_, ?_⟩
      · have := hat (i := 0) (by omega)
        rw [Go.Deep.add_add] at this
        exact this.trans e0
      · have := hat (i := 1) (by omega)
        rw [Go.Deep.add_add] at this
        exact this.trans e1)
    refine ⟨some a, cap, l, by rw [hll]; exact hcs, by rw [hll]; exact hl, fun hl0 => ?_⟩
    rw [hll] at hl0
    obtain ⟨q0, -, c0, -⟩ := hS 0 hl0
    have ha : a.add (0 * 2) = a := by rw [Nat.zero_mul]; rfl
    rw [ha] at c0
    have hsp := spot_none c0
    refine ⟨a.block, a.off, congrArg some hsp, World.block_lt_of_cell? w a c0, fun j hj => ?_⟩
    rw [hll] at hj
    obtain ⟨q, hq, d0, d1⟩ := hS j hj
    have e : nthI l j = q := by
      have := nthI_get (l := l) (j := j) (by omega)
      rw [this] at hq
      exact Option.some.inj hq
    rw [e]
    rw [hsp, add_mk] at d0 d1
    exact ⟨d0, d1⟩
theorem arg_items {e : TypeId} {f0 f1 : Field} (ht : P.underlying t = some (.slice e)) (he : P.underlying e = some (.struct #[f0, f1])) (hone : oneCellFields P #[f0, f1] = true) (hC : P.cellsOf e = 2) (h0 : P.underlying f0.type = some (.int .u64)) (h1 : P.underlying f1.type = some (.int .u64))
    (hv : Value.okWide P w r b0 t v) (h : DataW.Trod enc P w base spare held t v d p) : ∃ (A : Option Addr) (c : Nat) (l : List (BitVec 64 × BitVec 64)), v = .slice A l.length c ∧ l.length ≤ c ∧ ItAt w w.heap.size A l := by
  obtain ⟨a0, len, cap, rfl⟩ := okWide_slice ht hv
  obtain ⟨fuel, hf⟩ := h
  exact slice_items ht he hone hC h0 h1 hf
end
end Go.Proofs.Ytlehjbfhhikpiaa
