/-
  Lists of numbers of 64 digits in memory: appended to. No program in sight.
-/
import Derived.Test.YtdhbomipffidlaaAudS
namespace Go.Proofs.Ytdhbomipffidlaa
open Go.RowKit
theorem u64_info : (Try.prog.info? 22).map (fun i => (i.zero, i.size, i.bytes)) = some (some (.int .u64 0), 1, 8) := by kernel_rfl
theorem add_mk (b o j : Nat) : (⟨b, o, none⟩ : Addr).add j = ⟨b, o + j, none⟩ := by
  unfold Addr.add
  by_cases h : j = 0 <;> simp [h]
/-- Block b begins with the numbers of l; it may be longer. -/
def RowP (w : World) (b : Nat) (T : TypeId) (l : List (BitVec 64)) : Prop := ∃ more : List Value, w.heap[b]? = some (.cells ((l.map enc64) ++ more).toArray T (0, 0))
section
variable {w w' : World} {b B : Nat} {T : TypeId} {l : List (BitVec 64)}
theorem RowP.lt (h : RowP w b T l) : b < w.heap.size := by obtain ⟨_, h⟩ := h; exact (Array.getElem?_eq_some_iff.1 h).1
theorem RowP.cell (h : RowP w b T l) {j : Nat} (hj : j < l.length) : w.cell? ⟨b, j, none⟩ = some (.int .u64 (U (nth l j))) := by
  obtain ⟨more, h⟩ := h
  simp only [World.cell?, h]
  have e : (((l.map enc64) ++ more).toArray[j]?) = some (enc64 (nth l j)) := by
    rw [List.getElem?_toArray, List.getElem?_append_left (by simpa using hj), List.getElem?_map, nth_get hj]
    rfl
  have e2 : enc64 (nth l j) = .int .u64 (U (nth l j)) := rfl
  rw [e2] at e
  simpa using e
theorem RowP.free (h : RowP w b T l) (j : Nat) : w.frozen? ⟨b, j, none⟩ = false := by
  obtain ⟨more, h⟩ := h
  simp [World.frozen?, h]
theorem RowP.of (h : w'.heap[b]? = w.heap[b]?) (k : RowP w b T l) : RowP w' b T l := by
  obtain ⟨more, k⟩ := k
  exact ⟨more, h.trans k⟩
theorem RowP.at_ (h : RowP w b T l) (hB : b < B) : At w B (some ⟨b, 0, none⟩) l := fun _ => ⟨b, 0, rfl, hB, fun j hj => by rw [Nat.zero_add]; exact h.cell hj⟩
theorem RowP.set (h : RowP w b T l) {j : Nat} (hj : j < l.length) (x : BitVec 64) : RowP (w.setCell ⟨b, j, none⟩ (.int .u64 (U x))) b T (l.set j x) := by
  have hlt := h.lt
  obtain ⟨more, h⟩ := h
  have h2 := ((Put.refl h).set j (.int .u64 (U x))).get hlt
  refine ⟨more, h2.trans ?_⟩
  have e : (((l.map enc64) ++ more).toArray.setIfInBounds j (.int .u64 (U x))) = ((l.set j x).map enc64 ++ more).toArray := by
    rw [List.setIfInBounds_toArray, List.set_append_left j _ (by simpa using hj), List.map_set]; rfl
  rw [e]
end

/-- An append by what it comes to. -/
theorem wpList_append_run {P : Program} {w : World} {ops : Array Oper} {rest : List Oper} {o : Oper} {a : Act} {Q : Exit → Act → World → Prop} (hgd : o.guard = none) (s x : Operand) (t : TypeId)
    (ho : o.op = .call { callee := .builtin .append, args := #[s, x], argTypes := #[t, t] }) {u1 u2 r : Value} {W : World} (hs : a.eval s = u1) (hx : a.eval x = u2)
    (hrun : (Builtin.append_ #[t, t] o.type #[u1, u2]).run P w = .ok r W) (h : wpList P ops Q rest (a.put o.dst r) W) : wpList P ops Q (o :: rest) a w := by
  refine wpList_plain hgd fun K hK => ?_
  unfold Oper.wp execOp
  simp only [ho, resolve, invoke, builtin, Sem.run_bind, Sem.run_pure, Result.andThen_ok, List.map_toArray, List.map_cons, List.map_nil, hs, hx, hrun]
  exact hK _ _ h

theorem effOp_append_run {n : Nat} {P : Program} {w : World} {o : Oper} {a : Act} (s x : Operand) (t : TypeId)
    (ho : o.op = .call { callee := .builtin .append, args := #[s, x], argTypes := #[t, t] }) {u1 u2 r : Value} {W : World} (hs : a.eval s = u1) (hx : a.eval x = u2)
    (hrun : (Builtin.append_ #[t, t] o.type #[u1, u2]).run P w = .ok r W) {K : Value → World → Prop} (h : K r W) : effOp Fence.wide n P o a w K := by
  refine ⟨fun _ _ => trivial, ?_⟩
  unfold execOp
  simp only [ho, resolve, invoke, builtin, Sem.run_bind, Sem.run_pure, Result.andThen_ok, List.map_toArray, List.map_cons, List.map_nil, hs, hx, hrun]
  exact h

/-- A list of the call's own. -/
def OwnL (W : World) (base : Nat) (v : Value) (l : List (BitVec 64)) : Prop := W.ownsRow base 22 1 v l.length (l.map enc64)
theorem OwnL.nil (W : World) (base : Nat) : OwnL W base (.slice none 0 0) [] := ⟨by simp, .inl ⟨rfl, rfl⟩⟩
theorem OwnL.of {W W' : World} {base : Nat} {v : Value} {l : List (BitVec 64)} (h : OwnL W base v l) (hb : ∀ k, base ≤ k → k < W.heap.size → W'.heap[k]? = W.heap[k]?) : OwnL W' base v l := by
  refine ⟨h.1, ?_⟩
  rcases h.2 with h0 | ⟨g, cap, cur, h1, h2, h3, h4⟩
  · exact .inl h0
  · exact .inr ⟨g, cap, cur, h1, h2, (hb g h2 (Array.getElem?_eq_some_iff.1 h3).1).trans h3, h4⟩
theorem OwnL.at_ {W : World} {base : Nat} {v : Value} {l : List (BitVec 64)} (h : OwnL W base v l) : ∃ A c, v = .slice A l.length c ∧ l.length ≤ c ∧ At W W.heap.size A l := by
  rcases h.2 with ⟨rfl, h0⟩ | ⟨g, cap, cur, rfl, hb, hh, hn, _, hc, ht⟩
  · have : l = [] := List.eq_nil_of_length_eq_zero h0
    subst this
    exact ⟨none, 0, rfl, Nat.le_refl _, At.nil⟩
  · refine ⟨some ⟨g, 0, none⟩, cap, rfl, hn, RowP.at_ (T := 22) ⟨cur.toList.drop l.length, ?_⟩ (Array.getElem?_eq_some_iff.1 hh).1⟩
    rw [hh]
    congr 2
    rw [← ht, Nat.mul_one, List.take_append_drop]
theorem OwnL.at2 {W : World} {base n c : Nat} {A : Option Addr} {l : List (BitVec 64)} (h : OwnL W base (.slice A n c) l) : At W W.heap.size A l := by
  obtain ⟨A', c', e, _, h2⟩ := h.at_
  injection e with e1 _ _
  subst e1
  exact h2

theorem OwnL.mono {W : World} {base base' : Nat} {v : Value} {l : List (BitVec 64)} (hb : base' ≤ base) (h : OwnL W base v l) : OwnL W base' v l := by
  refine ⟨h.1, ?_⟩
  rcases h.2 with h0 | ⟨g, cap, cur, h1, h2, h3⟩
  · exact .inl h0
  · exact .inr ⟨g, cap, cur, h1, Nat.le_trans hb h2, h3⟩

theorem Row.rowP {w : World} {b : Nat} {T : TypeId} {l : List (BitVec 64)} (h : Row w b T l) : RowP w b T l := ⟨[], by rw [List.append_nil]; exact h⟩
theorem OwnL.rowP {W : World} {base n c : Nat} {A : Option Addr} {l : List (BitVec 64)} (h : OwnL W base (.slice A n c) l) (h0 : 0 < l.length) : ∃ g, A = some ⟨g, 0, none⟩ ∧ base ≤ g ∧ RowP W g 22 l := by
  rcases h.2 with ⟨_, h1⟩ | ⟨g, cap, cur, h1, hb, hh, hn, _, hc, ht⟩
  · omega
  · injection h1 with e1 _ _
    refine ⟨g, e1, hb, cur.toList.drop l.length, ?_⟩
    rw [hh]
    congr 2
    rw [← ht, Nat.mul_one, List.take_append_drop]

theorem At.later {w w' : World} {A : Option Addr} {l : List (BitVec 64)} (h : At w w.heap.size A l) (hb : Below w.heap.size w w') : At w' w'.heap.size A l := (h.below hb).mono hb.size
theorem RowP.later {w w' : World} {b : Nat} {T : TypeId} {l : List (BitVec 64)} (h : RowP w b T l) (hb : Below w.heap.size w w') : RowP w' b T l := h.of (hb.block b h.lt)

theorem cellsOf_At {w : World} {B : Nat} {b o : Nat} {l : List (BitVec 64)} (h : At w B (some ⟨b, o, none⟩) l) (j : Nat) (u : Value) (hj : (l.map enc64)[j]? = some u) : w.cell? ((⟨b, o, none⟩ : Addr).add j) = some u := by
  have hj2 : j < l.length := by have := (List.getElem?_eq_some_iff.1 hj).1; simpa using this
  obtain ⟨b', o', e, _, hc⟩ := h (by omega)
  injection e with e
  injection e with e1 e2
  subst e1 e2
  rw [add_mk, hc j hj2]
  rw [List.getElem?_map, nth_get hj2] at hj
  exact hj
theorem one_enc {l : List (BitVec 64)} : ∀ u ∈ l.map enc64, u.oneCell' = true := fun u hu => by
  obtain ⟨x, _, rfl⟩ := List.mem_map.1 hu
  rfl
/-- A list appended to a list of the call's own; each may be nil. -/
theorem append_nums (w : World) (base : Nat) (v : Value) (l m : List (BitVec 64)) (A : Option Addr) (n c : Nat) (h : OwnL w base v l) (hn : m.length = n) (hA : At w w.heap.size A m) (hb : base ≤ w.heap.size) (hl : l.length + n ≤ 65536) :
    ∃ v' W, (Builtin.append_ #[48, 48] 48 #[v, .slice A n c]).run Try.prog w = .ok v' W ∧ OwnL W base v' (l ++ m) ∧ Below base w W ∧ ∀ (k : Nat) (cs : Array Value) (T : TypeId) (fr : Nat × Nat), w.heap[k]? = some (.cells cs T fr) → T ≠ 22 → W.heap[k]? = some (.cells cs T fr) := by
  obtain ⟨i0, hi, hz0, hz1, hz2⟩ := info_parts u64_info
  subst hn
  cases A with
  | none =>
    have hm : m = [] := by
      cases m with
      | nil => rfl
      | cons x m => obtain ⟨b, o, e, _⟩ := hA (by simp); cases e
    subst hm
    refine ⟨v, w, ?_, by rw [List.append_nil]; exact h, Below.refl _ _, fun _ _ _ _ h _ => h⟩
    rcases h.2 with ⟨rfl, h0⟩ | ⟨g, cap, cur, rfl, _, _, hnc, _⟩
    · simp [Builtin.append_, run_underlying Try.underlying48, sizeOf, typeInfo, hi, Builtin.lenOf, Builtin.firstCells]
    · simp [Builtin.append_, run_underlying Try.underlying48, sizeOf, typeInfo, hi, Builtin.lenOf, Builtin.firstCells, hnc, storeCells]
  | some a =>
    have hcells : ∀ j u, (m.map enc64)[j]? = some u → w.cell? (a.add j) = some u := by
      intro j u hu
      have hj2 : j < m.length := by have := (List.getElem?_eq_some_iff.1 hu).1; simpa using this
      obtain ⟨b, o, e, hlt, hc⟩ := hA (by omega)
      injection e with e
      subst e
      exact cellsOf_At (fun _ => ⟨b, o, rfl, hlt, hc⟩) j u hu
    obtain ⟨v', W, hr, hown, hg, -, -⟩ := run_append_own_at (P := Try.prog) w base 48 48 22 i0 (.int .u64 0) 1 8 Try.underlying48 hi hz0 hz1 hz2 rfl (by decide) v l.length (l.map enc64) h
      a m.length c (m.map enc64) (by simp) hcells one_enc (by simp only [maxLen]; omega) (by omega) hb
    refine ⟨v', W, hr, ?_, (Below.refl base w).grown hg hb (fun k hk => ?_), fun k cs T fr hk hT => (hg.block k (Array.getElem?_eq_some_iff.1 hk).1 (fun e => ?_)).trans hk⟩
    · unfold OwnL
      rw [List.length_append, List.map_append]
      exact hown
    · rcases h.2 with ⟨rfl, _⟩ | ⟨g, cap, cur, rfl, hbg, _⟩
      · simp [Value.ownBlock] at hk
      · simp [Value.ownBlock] at hk
        omega
    · rcases h.2 with ⟨rfl, _⟩ | ⟨g, cap, cur, rfl, hbg, hh, _⟩
      · simp [Value.ownBlock] at e
      · simp [Value.ownBlock] at e
        subst e
        rw [hk] at hh
        injection hh with hh
        injection hh with h5 h6
        exact hT h6
/-- One number appended, that lies in a box of its own. -/
theorem append_one (w : World) (base : Nat) (v : Value) (l : List (BitVec 64)) (x : BitVec 64) (b : Nat) (h : OwnL w base v l) (hc : w.cell? ⟨b, 0, none⟩ = some (.int .u64 (U x))) (hb : base ≤ w.heap.size) (hl : l.length ≤ 65535) :
    ∃ v' W, (Builtin.append_ #[48, 48] 48 #[v, .slice (some ⟨b, 0, none⟩) 1 1]).run Try.prog w = .ok v' W ∧ OwnL W base v' (l ++ [x]) ∧ Below base w W ∧ ∀ (k : Nat) (cs : Array Value) (T : TypeId) (fr : Nat × Nat), w.heap[k]? = some (.cells cs T fr) → T ≠ 22 → W.heap[k]? = some (.cells cs T fr) :=
  append_nums w base v l [x] _ 1 1 h rfl (fun _ => ⟨b, 0, rfl, World.block_lt_of_cell? w _ hc, fun j hj => by
    obtain rfl : j = 0 := by simpa using hj
    exact hc⟩) hb (by omega)
theorem OwnL.later {W W' : World} {base : Nat} {v : Value} {l : List (BitVec 64)} (h : OwnL W base v l) (hb : Below W.heap.size W W') : OwnL W' base v l := h.of (fun k _ hk => hb.block k hk)
theorem OwnL.put {W W' : World} {base B : Nat} {o : Obj} {v : Value} {l : List (BitVec 64)} (h : OwnL W base v l) (hP : Put W W' B o) (hB : B < base) : OwnL W' base v l := h.of (fun k hk _ => hP.other (by omega))
/-- A list of entries is not touched by what is appended to a list of numbers. -/
theorem LieE.other {w W : World} {lo : Nat} {A : Option Addr} {l : LE} (h : LieE w lo A l) (hg : ∀ (k : Nat) (cs : Array Value) (T : TypeId) (fr : Nat × Nat), w.heap[k]? = some (.cells cs T fr) → T ≠ 22 → W.heap[k]? = some (.cells cs T fr)) : LieE W lo A l := fun hl => by
  obtain ⟨b, o, cs, e, h1, hh, hc⟩ := h hl
  have h2 := hg b cs _ _ hh (by decide)
  have hc2 : ∀ p : Addr, p.block = b → W.cell? p = w.cell? p := fun p hp => World.cell?_of_block (w := w) (by rw [hp, h2, hh])
  exact ⟨b, o, cs, e, h1, h2, fun j hj => ⟨(hc2 _ rfl).trans (hc j hj).s, (hc2 _ rfl).trans (hc j hj).t, (hc2 _ rfl).trans (hc j hj).x, (hc2 _ rfl).trans (hc j hj).m⟩⟩
end Go.Proofs.Ytdhbomipffidlaa
