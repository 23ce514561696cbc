/-
  Lists of texts in memory: where they lie, appended to. No walk in sight.
-/
import Derived.Test.YtdhbomipffidlaaChecked
import Derived.Test.YtdhbomipffidlaaRow
import Derived.Test.YtdhbomipffidlaaLater
import Derived.Test.YtdhbomipffidlaaMixL
import Derived.Maps.AppendAt
import Derived.Laws.IdiomStrings
namespace Go.Proofs.Ytdhbomipffidlaa
open Go.RowKit

abbrev LS := List ByteArray
def encS (x : ByteArray) : Value := .string x
def nthS (l : LS) (j : Nat) : ByteArray := l.getD j ⟨#[]⟩
theorem nthS_get {l : LS} {j : Nat} (h : j < l.length) : l[j]? = some (nthS l j) := by
  unfold nthS
  rw [List.getD_eq_getElem?_getD, List.getElem?_eq_getElem h]
  rfl
theorem takeS_snoc (l : LS) (j : Nat) (h : j < l.length) : l.take (j + 1) = l.take j ++ [nthS l j] := by
  rw [List.take_add_one, nthS_get h]; rfl
/-- From A on the texts of l lie, in a block below B. -/
def AtS (w : World) (B : Nat) (A : Option Addr) (l : LS) : Prop :=
  0 < l.length → ∃ b o, A = some ⟨b, o, none⟩ ∧ b < B ∧ ∀ j, j < l.length → w.cell? ⟨b, o + j, none⟩ = some (.string (nthS l j))
section
variable {w w' : World} {B B' : Nat} {A : Option Addr} {l : LS}
theorem AtS.nil : AtS w B A [] := fun h => absurd h (by simp)
theorem AtS.below (h : AtS w B A l) (hb : Below B w w') : AtS w' B A l := fun hl => by
  obtain ⟨b, o, e, hlt, hc⟩ := h hl
  exact ⟨b, o, e, hlt, fun j hj => (hb.cell (by exact hlt)).trans (hc j hj)⟩
theorem AtS.mono (h : AtS w B A l) (hB : B ≤ B') : AtS w B' A l := fun hl => by
  obtain ⟨b, o, e, hlt, hc⟩ := h hl
  exact ⟨b, o, e, by omega, hc⟩
theorem AtS.later (h : AtS w w.heap.size A l) (hb : Below w.heap.size w w') : AtS w' w'.heap.size A l := (h.below hb).mono hb.size
end
/-- A list of texts that is the call's own. -/
def OwnS (W : World) (base : Nat) (v : Value) (l : LS) : Prop := W.ownsRow base 9 1 v l.length (l.map encS)
theorem OwnS.nil (W : World) (base : Nat) : OwnS W base (.slice none 0 0) [] := ⟨by simp, .inl ⟨rfl, rfl⟩⟩
theorem OwnS.of {W W' : World} {base : Nat} {v : Value} {l : LS} (h : OwnS W base v l) (hb : ∀ k, base ≤ k → k < W.heap.size → W'.heap[k]? = W.heap[k]?) : OwnS W' base v l := by
  refine ⟨h.1, ?_⟩
  rcases h.2 with h0 | ⟨g, cap, cur, h1, h2, h3, h4⟩
  · exact .inl h0
  · exact .inr ⟨g, cap, cur, h1, h2, (hb g h2 (Array.getElem?_eq_some_iff.1 h3).1).trans h3, h4⟩
theorem OwnS.later {W W' : World} {base : Nat} {v : Value} {l : LS} (h : OwnS W base v l) (hb : Below W.heap.size W W') : OwnS W' base v l := h.of (fun k _ hk => hb.block k hk)
theorem OwnS.mono {W : World} {base base' : Nat} {v : Value} {l : LS} (hb : base' ≤ base) (h : OwnS W base v l) : OwnS W base' v l := by
  refine ⟨h.1, ?_⟩
  rcases h.2 with h0 | ⟨g, cap, cur, h1, h2, h3⟩
  · exact .inl h0
  · exact .inr ⟨g, cap, cur, h1, Nat.le_trans hb h2, h3⟩
theorem addS_mk (b o j : Nat) : (⟨b, o, none⟩ : Addr).add j = ⟨b, o + j, none⟩ := by
  unfold Addr.add
  by_cases h : j = 0 <;> simp [h]
theorem OwnS.at_ {W : World} {base : Nat} {v : Value} {l : LS} (h : OwnS W base v l) : ∃ A c, v = .slice A l.length c ∧ l.length ≤ c ∧ AtS W W.heap.size A l := by
  rcases h.2 with ⟨rfl, h0⟩ | ⟨g, cap, cur, rfl, hb, hh, hn, _, hc, ht⟩
  · have : l = [] := List.eq_nil_of_length_eq_zero h0
    subst this
    exact ⟨none, 0, rfl, Nat.le_refl _, AtS.nil⟩
  · refine ⟨some ⟨g, 0, none⟩, cap, rfl, hn, fun _ => ⟨g, 0, rfl, (Array.getElem?_eq_some_iff.1 hh).1, fun j hj => ?_⟩⟩
    rw [Nat.zero_add]
    simp only [World.cell?, hh]
    have e2 : (cur.toList.take (l.length * 1))[j]? = some (.string (nthS l j)) := by
      rw [ht, List.getElem?_map, nthS_get hj]; rfl
    rw [List.getElem?_take, if_pos (by omega)] at e2
    simpa using e2
theorem OwnS.at2 {W : World} {base n c : Nat} {A : Option Addr} {l : LS} (h : OwnS W base (.slice A n c) l) : AtS W W.heap.size A l := by
  obtain ⟨A', c', e, _, h2⟩ := h.at_
  injection e with e1 _ _
  subst e1
  exact h2
theorem one_encS {l : LS} : ∀ u ∈ l.map encS, u.oneCell' = true := fun u hu => by
  obtain ⟨x, _, rfl⟩ := List.mem_map.1 hu
  rfl
theorem str_info : (Try.prog.info? 9).map (fun i => (i.zero, i.size, i.bytes)) = some (some (.string ⟨#[]⟩), 1, 16) := by kernel_rfl
theorem str_parts : ∃ i0, Try.prog.info? 9 = some i0 ∧ i0.zero = some (.string ⟨#[]⟩) ∧ i0.size = 1 ∧ i0.bytes = 16 := by
  obtain ⟨i0, hi, he⟩ := Option.map_eq_some_iff.1 str_info
  simp only [Prod.mk.injEq] at he
  exact ⟨i0, hi, he.1, he.2.1, he.2.2⟩
/-- One text appended, that lies in a box of its own. -/
theorem append_str (w : World) (base : Nat) (v : Value) (l : LS) (x : ByteArray) (b : Nat) (h : OwnS w base v l) (hc : w.cell? ⟨b, 0, none⟩ = some (.string x)) (hb : base ≤ w.heap.size) (hl : l.length ≤ 65535) :
    ∃ v' W, (Builtin.append_ #[37, 37] 37 #[v, .slice (some ⟨b, 0, none⟩) 1 1]).run Try.prog w = .ok v' W ∧ OwnS W base v' (l ++ [x]) ∧ Below base w W := by
  obtain ⟨i0, hi, hz0, hz1, hz2⟩ := str_parts
  have hcells : ∀ j u, (([x] : LS).map encS)[j]? = some u → w.cell? ((⟨b, 0, none⟩ : Addr).add j) = some u := by
    intro j u hu
    have hj2 : j < 1 := by have := (List.getElem?_eq_some_iff.1 hu).1; simpa using this
    obtain rfl : j = 0 := by omega
    have e : (⟨b, 0, none⟩ : Addr).add 0 = ⟨b, 0, none⟩ := rfl
    rw [e, hc]
    simpa [encS] using hu
  obtain ⟨v', W, hr, hown, hg, -, -⟩ := run_append_own_at (P := Try.prog) w base 37 37 9 i0 (.string ⟨#[]⟩) 1 16 Try.underlying37 hi hz0 hz1 hz2 rfl (by decide) v l.length (l.map encS) h
    ⟨b, 0, none⟩ 1 1 ([x].map encS) (by simp) hcells one_encS (by simp only [maxLen]; omega) (by omega) hb
  refine ⟨v', W, hr, ?_, (Below.refl base w).grown hg hb (fun k hk => ?_)⟩
  · unfold OwnS
    rw [List.length_append, List.map_append]
    exact hown
  · rcases h.2 with ⟨rfl, _⟩ | ⟨g, cap, cur, rfl, hbg, _⟩
    · simp [Value.ownBlock] at hk
    · simp [Value.ownBlock] at hk
      omega
/-- An append by what it comes to. -/
theorem wpListS_append_run {P : Program} {w : World} {ops : Array Oper} {rest : List Oper} {o : Oper} {a : Act} {Q : Exit → Act → World → Prop} (hgd : o.guard = none) (s x : Operand) (t : TypeId)
    (ho : o.op = .call { callee := .builtin .append, args := #[s, x], argTypes := #[t, t] }) {u1 u2 r : Value} {W : World} (hs : a.eval s = u1) (hx : a.eval x = u2)
    (hrun : (Builtin.append_ #[t, t] o.type #[u1, u2]).run P w = .ok r W) (h : wpList P ops Q rest (a.put o.dst r) W) : wpList P ops Q (o :: rest) a w := by
  refine wpList_plain hgd fun K hK => ?_
  unfold Oper.wp execOp
  simp only [ho, resolve, invoke, builtin, Sem.run_bind, Sem.run_pure, Result.andThen_ok, List.map_toArray, List.map_cons, List.map_nil, hs, hx, hrun]
  exact hK _ _ h
theorem effOpS_append_run {n : Nat} {P : Program} {w : World} {o : Oper} {a : Act} (s x : Operand) (t : TypeId)
    (ho : o.op = .call { callee := .builtin .append, args := #[s, x], argTypes := #[t, t] }) {u1 u2 r : Value} {W : World} (hs : a.eval s = u1) (hx : a.eval x = u2)
    (hrun : (Builtin.append_ #[t, t] o.type #[u1, u2]).run P w = .ok r W) {K : Value → World → Prop} (h : K r W) : effOp Fence.wide n P o a w K := by
  refine ⟨fun _ _ => trivial, ?_⟩
  unfold execOp
  simp only [ho, resolve, invoke, builtin, Sem.run_bind, Sem.run_pure, Result.andThen_ok, List.map_toArray, List.map_cons, List.map_nil, hs, hx, hrun]
  exact h
theorem keepS {w w' : World} {b : Nat} {o : Obj} (h : w.heap[b]? = some o) (hB : Below w.heap.size w w') : w'.heap[b]? = some o := (hB.block b (Array.getElem?_eq_some_iff.1 h).1).trans h
end Go.Proofs.Ytdhbomipffidlaa
