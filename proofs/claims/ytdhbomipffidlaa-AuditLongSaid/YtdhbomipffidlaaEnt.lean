/-
  Lists of entries in memory: where they lie, appended to. No walk in sight.
-/
import Derived.Test.YtdhbomipffidlaaChecked
import Derived.Test.YtdhbomipffidlaaRow
import Derived.Test.YtdhbomipffidlaaLater
import Derived.Test.YtdhbomipffidlaaMixL
import Derived.Maps.AppendAt
namespace Go.Proofs.Ytdhbomipffidlaa
open Go.RowKit

/-- An entry: its number, when, what, its sum. -/
structure Ent where
  s : BitVec 64
  t : BitVec 64
  x : ByteArray
  m : BitVec 64
abbrev LE := List Ent
def Ent.row (e : Ent) : List Value := [.int .u64 (U e.s), .int .u64 (U e.t), .string e.x, .int .u64 (U e.m)]
def Ent.val (e : Ent) : Value := .agg #[.int .u64 (U e.s), .int .u64 (U e.t), .string e.x, .int .u64 (U e.m)]
def noE : Ent := ⟨0#64, 0#64, ⟨#[]⟩, 0#64⟩
def nthE (l : LE) (j : Nat) : Ent := l.getD j noE
theorem nthE_get {l : LE} {j : Nat} (h : j < l.length) : l[j]? = some (nthE l j) := by
  unfold nthE
  rw [List.getD_eq_getElem?_getD, List.getElem?_eq_getElem h]
  rfl
theorem nthE_of {l : LE} {j : Nat} {e : Ent} (h : l[j]? = some e) : nthE l j = e := by
  unfold nthE
  rw [List.getD_eq_getElem?_getD, h]
  rfl
theorem takeE_snoc (l : LE) (j : Nat) (h : j < l.length) : l.take (j + 1) = l.take j ++ [nthE l j] := by
  rw [List.take_add_one, nthE_get h]; rfl
theorem nthE_take (l : LE) (n j : Nat) (h : j < n) : nthE (l.take n) j = nthE l j := by
  unfold nthE
  rw [List.getD_eq_getElem?_getD, List.getD_eq_getElem?_getD, List.getElem?_take, if_pos h]
theorem nthE_drop (l : LE) (n j : Nat) : nthE (l.drop n) j = nthE l (n + j) := by
  unfold nthE
  rw [List.getD_eq_getElem?_getD, List.getD_eq_getElem?_getD, List.getElem?_drop]
theorem nthE_ext {l m : LE} (h : l.length = m.length) (k : ∀ j, j < l.length → nthE l j = nthE m j) : l = m := by
  apply List.ext_getElem?
  intro i
  by_cases hi : i < l.length
  · rw [nthE_get hi, nthE_get (by omega), k i hi]
  · rw [List.getElem?_eq_none (by omega), List.getElem?_eq_none (by omega)]
theorem nthE_left (l m : LE) (j : Nat) (h : j < l.length) : nthE (l ++ m) j = nthE l j := by
  unfold nthE
  rw [List.getD_eq_getElem?_getD, List.getD_eq_getElem?_getD, List.getElem?_append_left h]
theorem nthE_last (l : LE) (e : Ent) : nthE (l ++ [e]) l.length = e := by
  unfold nthE
  rw [List.getD_eq_getElem?_getD, List.getElem?_append_right (Nat.le_refl _), Nat.sub_self]; rfl
/-- The four cells of an entry lie at an offset. -/
structure FourE (w : World) (b o : Nat) (e : Ent) : Prop where
  s : w.cell? ⟨b, o, none⟩ = some (.int .u64 (U e.s))
  t : w.cell? ⟨b, o + 1, none⟩ = some (.int .u64 (U e.t))
  x : w.cell? ⟨b, o + 2, none⟩ = some (.string e.x)
  m : w.cell? ⟨b, o + 3, none⟩ = some (.int .u64 (U e.m))
theorem FourE.below {w w' : World} {B b o : Nat} {e : Ent} (h : FourE w b o e) (hb : Below B w w') (hB : b < B) : FourE w' b o e :=
  ⟨(hb.cell hB).trans h.s, (hb.cell hB).trans h.t, (hb.cell hB).trans h.x, (hb.cell hB).trans h.m⟩
/-- From A on the entries of l lie, in a block below B. -/
def AtE (w : World) (B : Nat) (A : Option Addr) (l : LE) : Prop :=
  0 < l.length → ∃ b o, A = some ⟨b, o, none⟩ ∧ b < B ∧ ∀ j, j < l.length → FourE w b (o + j * 4) (nthE l j)
section
variable {w w' : World} {B B' : Nat} {A : Option Addr} {l : LE}
theorem AtE.nil : AtE w B A [] := fun h => absurd h (by simp)
theorem AtE.below (h : AtE w B A l) (hb : Below B w w') : AtE w' B A l := fun hl => by
  obtain ⟨b, o, e, hlt, hc⟩ := h hl
  exact ⟨b, o, e, hlt, fun j hj => (hc j hj).below hb hlt⟩
theorem AtE.mono (h : AtE w B A l) (hB : B ≤ B') : AtE w B' A l := fun hl => by
  obtain ⟨b, o, e, hlt, hc⟩ := h hl
  exact ⟨b, o, e, by omega, hc⟩
theorem AtE.later (h : AtE w w.heap.size A l) (hb : Below w.heap.size w w') : AtE w' w'.heap.size A l := (h.below hb).mono hb.size
theorem AtE.take (h : AtE w B A l) (n : Nat) : AtE w B A (l.take n) := fun hl => by
  have hl2 : 0 < l.length := by simp at hl; omega
  obtain ⟨b, o, e, hlt, hc⟩ := h hl2
  refine ⟨b, o, e, hlt, fun j hj => ?_⟩
  have hj2 : j < l.length := by simp at hj; omega
  have hjn : j < n := by simp at hj; omega
  rw [nthE_take l n j hjn]
  exact hc j hj2
/-- A later part of it. -/
theorem AtE.drop {b o : Nat} (h : AtE w B (some ⟨b, o, none⟩) l) (n : Nat) : AtE w B (some ⟨b, o + n * 4, none⟩) (l.drop n) := fun hl => by
  have hl2 : 0 < l.length := by simp at hl; omega
  obtain ⟨b', o', e, hlt, hc⟩ := h hl2
  injection e with e
  injection e with e1 e2 e3
  subst e1
  subst e2
  refine ⟨_, _, rfl, hlt, fun j hj => ?_⟩
  have hj2 : n + j < l.length := by simp at hj; omega
  rw [nthE_drop, show o + n * 4 + j * 4 = o + (n + j) * 4 by omega]
  exact hc _ hj2
end
/-- A list of entries that lies in a block of the call's own, which may be written. -/
def LieE (W : World) (lo : Nat) (A : Option Addr) (l : LE) : Prop :=
  0 < l.length → ∃ b o cs, A = some ⟨b, o, none⟩ ∧ lo ≤ b ∧ W.heap[b]? = some (.cells cs 41 (0, 0)) ∧ ∀ j, j < l.length → FourE W b (o + j * 4) (nthE l j)
theorem LieE.at_ {W : World} {lo : Nat} {A : Option Addr} {l : LE} (h : LieE W lo A l) : AtE W W.heap.size A l := fun hl => by
  obtain ⟨b, o, cs, e, -, hh, hc⟩ := h hl
  exact ⟨b, o, e, (Array.getElem?_eq_some_iff.1 hh).1, hc⟩
theorem LieE.later {W W' : World} {lo : Nat} {A : Option Addr} {l : LE} (h : LieE W lo A l) (hb : Below W.heap.size W W') : LieE W' lo A l := fun hl => by
  obtain ⟨b, o, cs, e, h1, hh, hc⟩ := h hl
  have hlt := (Array.getElem?_eq_some_iff.1 hh).1
  exact ⟨b, o, cs, e, h1, (hb.block b hlt).trans hh, fun j hj => (hc j hj).below hb hlt⟩
theorem LieE.mono {W : World} {lo lo' : Nat} {A : Option Addr} {l : LE} (hb : lo' ≤ lo) (h : LieE W lo A l) : LieE W lo' A l := fun hl => by
  obtain ⟨b, o, cs, e, h1, hh, hc⟩ := h hl
  exact ⟨b, o, cs, e, by omega, hh, hc⟩
theorem LieE.nil {W : World} {lo : Nat} {A : Option Addr} : LieE W lo A [] := fun h => absurd h (by simp)
theorem LieE.drop {W : World} {lo b o : Nat} {l : LE} (h : LieE W lo (some ⟨b, o, none⟩) l) (n : Nat) : LieE W lo (some ⟨b, o + n * 4, none⟩) (l.drop n) := fun hl => by
  have hl2 : 0 < l.length := by simp at hl; omega
  obtain ⟨b', o', cs, e, h1, hh, hc⟩ := h hl2
  injection e with e
  injection e with e1 e2 e3
  subst e1
  subst e2
  refine ⟨_, _, cs, rfl, h1, hh, fun j hj => ?_⟩
  have hj2 : n + j < l.length := by simp at hj; omega
  rw [nthE_drop, show o + n * 4 + j * 4 = o + (n + j) * 4 by omega]
  exact hc _ hj2

/-- A list of entries that is the call's own, from the block's start on, with room behind. -/
def rowsE (l : LE) : List Value := l.flatMap Ent.row
def OwnE (W : World) (base : Nat) (v : Value) (l : LE) : Prop := W.ownsRow base 41 4 v l.length (rowsE l)
theorem rowsE_append (l m : LE) : rowsE (l ++ m) = rowsE l ++ rowsE m := by unfold rowsE; rw [List.flatMap_append]
theorem rowsE_length : ∀ l : LE, (rowsE l).length = l.length * 4
  | [] => rfl
  | x :: l => by
    have h := rowsE_length l
    unfold rowsE at *
    rw [List.flatMap_cons, List.length_append, h, List.length_cons]
    show 4 + _ = _
    omega
theorem rowsE_get : ∀ (l : LE) (j k : Nat), j < l.length → k < 4 → (rowsE l)[j * 4 + k]? = (nthE l j).row[k]?
  | [], j, k, h, _ => absurd h (by simp)
  | x :: l, 0, k, _, hk => by
    unfold rowsE
    rw [List.flatMap_cons, Nat.zero_mul, Nat.zero_add, List.getElem?_append_left (by show k < 4; exact hk)]
    rfl
  | x :: l, j + 1, k, h, hk => by
    have ih := rowsE_get l j k (by simp at h; omega) hk
    unfold rowsE at *
    rw [List.flatMap_cons, List.getElem?_append_right (by show 4 ≤ _; omega)]
    have e : (j + 1) * 4 + k - x.row.length = j * 4 + k := by show (j + 1) * 4 + k - 4 = _; omega
    rw [e, ih]
    rfl
theorem OwnE.nil (W : World) (base : Nat) : OwnE W base (.slice none 0 0) [] := ⟨by simp [rowsE], .inl ⟨rfl, rfl⟩⟩
theorem OwnE.of {W W' : World} {base : Nat} {v : Value} {l : LE} (h : OwnE W base v l) (hb : ∀ k, base ≤ k → k < W.heap.size → W'.heap[k]? = W.heap[k]?) : OwnE W' base v l := by
  refine ⟨h.1, ?_⟩
  rcases h.2 with h0 | ⟨g, cap, cur, h1, h2, h3, h4⟩
  · exact .inl h0
  · exact .inr ⟨g, cap, cur, h1, h2, (hb g h2 (Array.getElem?_eq_some_iff.1 h3).1).trans h3, h4⟩
theorem OwnE.later {W W' : World} {base : Nat} {v : Value} {l : LE} (h : OwnE W base v l) (hb : Below W.heap.size W W') : OwnE W' base v l := h.of (fun k _ hk => hb.block k hk)
theorem OwnE.mono {W : World} {base base' : Nat} {v : Value} {l : LE} (hb : base' ≤ base) (h : OwnE W base v l) : OwnE W base' v l := by
  refine ⟨h.1, ?_⟩
  rcases h.2 with h0 | ⟨g, cap, cur, h1, h2, h3⟩
  · exact .inl h0
  · exact .inr ⟨g, cap, cur, h1, Nat.le_trans hb h2, h3⟩
theorem OwnE.lie {W : World} {base : Nat} {v : Value} {l : LE} (h : OwnE W base v l) : ∃ A c, v = .slice A l.length c ∧ l.length ≤ c ∧ LieE W base A l := by
  rcases h.2 with ⟨rfl, h0⟩ | ⟨g, cap, cur, rfl, hb, hh, hn, _, hc, ht⟩
  · have : l = [] := List.eq_nil_of_length_eq_zero h0
    subst this
    exact ⟨none, 0, rfl, Nat.le_refl _, LieE.nil⟩
  · refine ⟨some ⟨g, 0, none⟩, cap, rfl, hn, fun _ => ⟨g, 0, cur, rfl, hb, hh, fun j hj => ?_⟩⟩
    have key : ∀ k v, k < 4 → (nthE l j).row[k]? = some v → W.cell? ⟨g, 0 + j * 4 + k, none⟩ = some v := fun k v hk hv => by
      rw [Nat.zero_add]
      simp only [World.cell?, hh]
      have e2 : (cur.toList.take (l.length * 4))[j * 4 + k]? = some v := by
        rw [ht, rowsE_get l j k hj hk]; exact hv
      rw [List.getElem?_take, if_pos (by omega)] at e2
      simpa using e2
    exact ⟨key 0 _ (by omega) rfl, key 1 _ (by omega) rfl, key 2 _ (by omega) rfl, key 3 _ (by omega) rfl⟩
theorem oneE : ∀ (l : LE), ∀ u ∈ rowsE l, u.oneCell' = true := fun l u hu => by
  unfold rowsE at hu
  obtain ⟨x, _, h⟩ := List.mem_flatMap.1 hu
  simp only [Ent.row, List.mem_cons, List.not_mem_nil, or_false] at h
  rcases h with rfl | rfl | rfl | rfl <;> rfl
theorem ent_info : (Try.prog.info? 41).map (fun i => (i.zero, i.size, i.bytes)) = some (some noE.val, 4, 40) := by kernel_rfl
theorem ent_parts : ∃ i0, Try.prog.info? 41 = some i0 ∧ i0.zero = some noE.val ∧ i0.size = 4 ∧ i0.bytes = 40 := by
  obtain ⟨i0, hi, he⟩ := Option.map_eq_some_iff.1 ent_info
  simp only [Prod.mk.injEq] at he
  exact ⟨i0, hi, he.1, he.2.1, he.2.2⟩
theorem addE_mk (b o j : Nat) : (⟨b, o, none⟩ : Addr).add j = ⟨b, o + j, none⟩ := by
  unfold Addr.add
  by_cases h : j = 0 <;> simp [h]
/-- Entries appended, that lie one behind the other. -/
theorem append_ents (w : World) (base : Nat) (v : Value) (l m : LE) (b o c : Nat) (h : OwnE w base v l) (hc : ∀ j, j < m.length → FourE w b (o + j * 4) (nthE m j)) (hb : base ≤ w.heap.size) (hl : l.length + m.length ≤ 65535) :
    ∃ v' W, (Builtin.append_ #[25, 25] 25 #[v, .slice (some ⟨b, o, none⟩) m.length c]).run Try.prog w = .ok v' W ∧ OwnE W base v' (l ++ m) ∧ Below base w W := by
  obtain ⟨i0, hi, hz0, hz1, hz2⟩ := ent_parts
  have hcells : ∀ j u, (rowsE m)[j]? = some u → w.cell? ((⟨b, o, none⟩ : Addr).add j) = some u := by
    intro j u hu
    have hj2 : j < m.length * 4 := by have := (List.getElem?_eq_some_iff.1 hu).1; rw [rowsE_length] at this; exact this
    have hd := Nat.div_add_mod j 4
    have hm4 : j % 4 < 4 := Nat.mod_lt _ (by omega)
    have hq : j / 4 < m.length := by omega
    have e0 : j = j / 4 * 4 + j % 4 := by omega
    rw [e0, rowsE_get m _ _ hq hm4] at hu
    rw [addE_mk, show o + j = o + j / 4 * 4 + j % 4 by omega]
    obtain ⟨c0, c1, c2, c3⟩ := hc (j / 4) hq
    generalize j % 4 = k at *
    match k, hm4 with
    | 0, _ => rw [Nat.add_zero, c0]; exact hu
    | 1, _ => rw [c1]; exact hu
    | 2, _ => rw [c2]; exact hu
    | 3, _ => rw [c3]; exact hu
  obtain ⟨v', W, hr, hown, hg, -, -⟩ := run_append_own_at (P := Try.prog) w base 25 25 41 i0 noE.val 4 40 Try.underlying25 hi hz0 hz1 hz2 rfl (by decide) v l.length (rowsE l) h
    ⟨b, o, none⟩ m.length c (rowsE m) (rowsE_length m) hcells (oneE m) (by simp only [maxLen]; omega) (by omega) hb
  refine ⟨v', W, hr, ?_, (Below.refl base w).grown hg hb (fun k hk => ?_)⟩
  · unfold OwnE
    rw [List.length_append, rowsE_append]
    exact hown
  · rcases h.2 with ⟨rfl, _⟩ | ⟨g, cap, cur, rfl, hbg, _⟩
    · simp [Value.ownBlock] at hk
    · simp [Value.ownBlock] at hk
      omega
/-- An append by what it comes to. -/
theorem wpListE_append_run {P : Program} {w : World} {ops : Array Oper} {rest : List Oper} {o : Oper} {a : Act} {Q : Exit → Act → World → Prop} (hgd : o.guard = none) (s x : Operand) (t : TypeId)
    (ho : o.op = .call { callee := .builtin .append, args := #[s, x], argTypes := #[t, t] }) {u1 u2 r : Value} {W : World} (hs : a.eval s = u1) (hx : a.eval x = u2)
    (hrun : (Builtin.append_ #[t, t] o.type #[u1, u2]).run P w = .ok r W) (h : wpList P ops Q rest (a.put o.dst r) W) : wpList P ops Q (o :: rest) a w := by
  refine wpList_plain hgd fun K hK => ?_
  unfold Oper.wp execOp
  simp only [ho, resolve, invoke, builtin, Sem.run_bind, Sem.run_pure, Result.andThen_ok, List.map_toArray, List.map_cons, List.map_nil, hs, hx, hrun]
  exact hK _ _ h
theorem effOpE_append_run {n : Nat} {P : Program} {w : World} {o : Oper} {a : Act} (s x : Operand) (t : TypeId)
    (ho : o.op = .call { callee := .builtin .append, args := #[s, x], argTypes := #[t, t] }) {u1 u2 r : Value} {W : World} (hs : a.eval s = u1) (hx : a.eval x = u2)
    (hrun : (Builtin.append_ #[t, t] o.type #[u1, u2]).run P w = .ok r W) {K : Value → World → Prop} (h : K r W) : effOp Fence.wide n P o a w K := by
  refine ⟨fun _ _ => trivial, ?_⟩
  unfold execOp
  simp only [ho, resolve, invoke, builtin, Sem.run_bind, Sem.run_pure, Result.andThen_ok, List.map_toArray, List.map_cons, List.map_nil, hs, hx, hrun]
  exact h
theorem keep {w w' : World} {b : Nat} {o : Obj} (h : w.heap[b]? = some o) (hB : Below w.heap.size w w') : w'.heap[b]? = some o := (hB.block b (Array.getElem?_eq_some_iff.1 h).1).trans h
theorem free_at {w : World} {b : Nat} {cs : Array Value} {T : TypeId} (h : w.heap[b]? = some (.cells cs T (0, 0))) (i : Nat) : w.frozen? ⟨b, i, none⟩ = false := by simp [World.frozen?, h]
end Go.Proofs.Ytdhbomipffidlaa
