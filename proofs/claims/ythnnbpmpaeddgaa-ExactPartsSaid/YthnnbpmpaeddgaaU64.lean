/-
  Lists of numbers of 64 digits in memory: made, copied, appended to, compared. 
-/
import Derived.Test.YthnnbpmpaeddgaaChecked
import Derived.Test.YthnnbpmpaeddgaaRow
import Derived.Test.YthnnbpmpaeddgaaLater
import Derived.Test.YthnnbpmpaeddgaaTail
import Derived.Test.YthnnbpmpaeddgaaMixL
import Derived.Laws.CopyOwn
import Derived.Maps.AppendAt
import Derived.Deep.RegionHeld3
import Derived.StillTailTactics
import Derived.Laws.Externs
namespace Go.Proofs.Ythnnbpmpaeddgaa
open Go.RowKit

theorem cell_at {w : World} {b : Nat} {cs : Array Value} {T : TypeId} {fr : Nat × Nat} (h : w.heap[b]? = some (.cells cs T fr)) (i : Nat) : w.cell? ⟨b, i, none⟩ = cs[i]? := by simp [World.cell?, h]
theorem free_at {w : World} {b : Nat} {cs : Array Value} {T : TypeId} (h : w.heap[b]? = some (.cells cs T (0, 0))) (i : Nat) : w.frozen? ⟨b, i, none⟩ = false := by simp [World.frozen?, h]
theorem u64_info : (Try.prog.info? 25).map (fun i => (i.zero, i.size, i.bytes)) = some (some (.int .u64 0), 1, 8) := by kernel_rfl
theorem make_u64 (n : Nat) (hn : n ≤ 65536) (w : World) : (Instr.makeSlice 22 (.int .i64 (n : Int)) (.int .i64 (n : Int))).run Try.prog w = .ok (.slice (some ⟨w.heap.size, 0, none⟩) n n) (w.alloc (.cells ((List.replicate n (0#64)).map enc64).toArray 25)) := by
  obtain ⟨i0, hi, hz0, hz1, hz2⟩ := info_parts u64_info
  have h := run_make (P := Try.prog) w 22 25 i0 (.int .u64 0) Try.underlying22 hi hz0 .i64 .i64 n n (by omega) (by omega) (by rw [hz2]; omega) (by omega)
  rw [hz1, Int.toNat_natCast, zeros_eq] at h
  exact h

theorem add_mk (b o j : Nat) : (⟨b, o, none⟩ : Addr).add j = ⟨b, o + j, none⟩ := by
  unfold Addr.add
  by_cases h : j = 0 <;> simp [h]
/-- Block b begins with the numbers of l; it may be longer. -/
def RowP (w : World) (b : Nat) (T : TypeId) (l : List (BitVec 64)) : Prop := ∃ more : List Value, w.heap[b]? = some (.cells ((l.map enc64) ++ more).toArray T (0, 0))
section
variable {w w' : World} {b B : Nat} {T : TypeId} {l : List (BitVec 64)}
theorem RowP.lt (h : RowP w b T l) : b < w.heap.size := by obtain ⟨_, h⟩ := h; exact (Array.getElem?_eq_some_iff.1 h).1
theorem RowP.cell (h : RowP w b T l) {j : Nat} (hj : j < l.length) : w.cell? ⟨b, j, none⟩ = some (.int .u64 (U (nth l j))) := by
  obtain ⟨more, h⟩ := h
  simp only [World.cell?, h]
  have e : (((l.map enc64) ++ more).toArray[j]?) = some (enc64 (nth l j)) := by
    rw [List.getElem?_toArray, List.getElem?_append_left (by simpa using hj), List.getElem?_map, nth_get hj]
    rfl
  have e2 : enc64 (nth l j) = .int .u64 (U (nth l j)) := rfl
  rw [e2] at e
  simpa using e
theorem RowP.free (h : RowP w b T l) (j : Nat) : w.frozen? ⟨b, j, none⟩ = false := by
  obtain ⟨more, h⟩ := h
  simp [World.frozen?, h]
theorem RowP.of (h : w'.heap[b]? = w.heap[b]?) (k : RowP w b T l) : RowP w' b T l := by
  obtain ⟨more, k⟩ := k
  exact ⟨more, h.trans k⟩
theorem RowP.at_ (h : RowP w b T l) (hB : b < B) : At w B (some ⟨b, 0, none⟩) l := fun _ => ⟨b, 0, rfl, hB, fun j hj => by rw [Nat.zero_add]; exact h.cell hj⟩
theorem RowP.set (h : RowP w b T l) {j : Nat} (hj : j < l.length) (x : BitVec 64) : RowP (w.setCell ⟨b, j, none⟩ (.int .u64 (U x))) b T (l.set j x) := by
  have hlt := h.lt
  obtain ⟨more, h⟩ := h
  have h2 := ((Put.refl h).set j (.int .u64 (U x))).get hlt
  refine ⟨more, h2.trans ?_⟩
  have e : (((l.map enc64) ++ more).toArray.setIfInBounds j (.int .u64 (U x))) = ((l.set j x).map enc64 ++ more).toArray := by
    rw [List.setIfInBounds_toArray, List.set_append_left j _ (by simpa using hj), List.map_set]; rfl
  rw [e]
end

/-- An append by what it comes to. -/
theorem wpList_append_run {P : Program} {w : World} {ops : Array Oper} {rest : List Oper} {o : Oper} {a : Act} {Q : Exit → Act → World → Prop} (hgd : o.guard = none) (s x : Operand) (t : TypeId)
    (ho : o.op = .call { callee := .builtin .append, args := #[s, x], argTypes := #[t, t] }) {u1 u2 r : Value} {W : World} (hs : a.eval s = u1) (hx : a.eval x = u2)
    (hrun : (Builtin.append_ #[t, t] o.type #[u1, u2]).run P w = .ok r W) (h : wpList P ops Q rest (a.put o.dst r) W) : wpList P ops Q (o :: rest) a w := by
  refine wpList_plain hgd fun K hK => ?_
  unfold Oper.wp execOp
  simp only [ho, resolve, invoke, builtin, Sem.run_bind, Sem.run_pure, Result.andThen_ok, List.map_toArray, List.map_cons, List.map_nil, hs, hx, hrun]
  exact hK _ _ h

theorem effOp_append_run {n : Nat} {P : Program} {w : World} {o : Oper} {a : Act} (s x : Operand) (t : TypeId)
    (ho : o.op = .call { callee := .builtin .append, args := #[s, x], argTypes := #[t, t] }) {u1 u2 r : Value} {W : World} (hs : a.eval s = u1) (hx : a.eval x = u2)
    (hrun : (Builtin.append_ #[t, t] o.type #[u1, u2]).run P w = .ok r W) {K : Value → World → Prop} (h : K r W) : effOp Fence.wide n P o a w K := by
  refine ⟨fun _ _ => trivial, ?_⟩
  unfold execOp
  simp only [ho, resolve, invoke, builtin, Sem.run_bind, Sem.run_pure, Result.andThen_ok, List.map_toArray, List.map_cons, List.map_nil, hs, hx, hrun]
  exact h

/-- A list of the call's own. -/
def OwnL (W : World) (base : Nat) (v : Value) (l : List (BitVec 64)) : Prop := W.ownsRow base 25 1 v l.length (l.map enc64)
theorem OwnL.nil (W : World) (base : Nat) : OwnL W base (.slice none 0 0) [] := ⟨by simp, .inl ⟨rfl, rfl⟩⟩
theorem OwnL.of {W W' : World} {base : Nat} {v : Value} {l : List (BitVec 64)} (h : OwnL W base v l) (hb : ∀ k, base ≤ k → k < W.heap.size → W'.heap[k]? = W.heap[k]?) : OwnL W' base v l := by
  refine ⟨h.1, ?_⟩
  rcases h.2 with h0 | ⟨g, cap, cur, h1, h2, h3, h4⟩
  · exact .inl h0
  · exact .inr ⟨g, cap, cur, h1, h2, (hb g h2 (Array.getElem?_eq_some_iff.1 h3).1).trans h3, h4⟩
theorem OwnL.at_ {W : World} {base : Nat} {v : Value} {l : List (BitVec 64)} (h : OwnL W base v l) : ∃ A c, v = .slice A l.length c ∧ l.length ≤ c ∧ At W W.heap.size A l := by
  rcases h.2 with ⟨rfl, h0⟩ | ⟨g, cap, cur, rfl, hb, hh, hn, _, hc, ht⟩
  · have : l = [] := List.eq_nil_of_length_eq_zero h0
    subst this
    exact ⟨none, 0, rfl, Nat.le_refl _, At.nil⟩
  · refine ⟨some ⟨g, 0, none⟩, cap, rfl, hn, RowP.at_ (T := 25) ⟨cur.toList.drop l.length, ?_⟩ (Array.getElem?_eq_some_iff.1 hh).1⟩
    rw [hh]
    congr 2
    rw [← ht, Nat.mul_one, List.take_append_drop]
theorem OwnL.at2 {W : World} {base n c : Nat} {A : Option Addr} {l : List (BitVec 64)} (h : OwnL W base (.slice A n c) l) : At W W.heap.size A l := by
  obtain ⟨A', c', e, _, h2⟩ := h.at_
  injection e with e1 _ _
  subst e1
  exact h2

theorem OwnL.mono {W : World} {base base' : Nat} {v : Value} {l : List (BitVec 64)} (hb : base' ≤ base) (h : OwnL W base v l) : OwnL W base' v l := by
  refine ⟨h.1, ?_⟩
  rcases h.2 with h0 | ⟨g, cap, cur, h1, h2, h3⟩
  · exact .inl h0
  · exact .inr ⟨g, cap, cur, h1, Nat.le_trans hb h2, h3⟩

theorem Row.rowP {w : World} {b : Nat} {T : TypeId} {l : List (BitVec 64)} (h : Row w b T l) : RowP w b T l := ⟨[], by rw [List.append_nil]; exact h⟩
theorem OwnL.rowP {W : World} {base n c : Nat} {A : Option Addr} {l : List (BitVec 64)} (h : OwnL W base (.slice A n c) l) (h0 : 0 < l.length) : ∃ g, A = some ⟨g, 0, none⟩ ∧ base ≤ g ∧ RowP W g 25 l := by
  rcases h.2 with ⟨_, h1⟩ | ⟨g, cap, cur, h1, hb, hh, hn, _, hc, ht⟩
  · omega
  · injection h1 with e1 _ _
    refine ⟨g, e1, hb, cur.toList.drop l.length, ?_⟩
    rw [hh]
    congr 2
    rw [← ht, Nat.mul_one, List.take_append_drop]

theorem keep {w w' : World} {b : Nat} {o : Obj} (h : w.heap[b]? = some o) (hB : Below w.heap.size w w') : w'.heap[b]? = some o := (hB.block b (Array.getElem?_eq_some_iff.1 h).1).trans h
theorem At.later {w w' : World} {A : Option Addr} {l : List (BitVec 64)} (h : At w w.heap.size A l) (hb : Below w.heap.size w w') : At w' w'.heap.size A l := (h.below hb).mono hb.size
theorem RowP.later {w w' : World} {b : Nat} {T : TypeId} {l : List (BitVec 64)} (h : RowP w b T l) (hb : Below w.heap.size w w') : RowP w' b T l := h.of (hb.block b h.lt)

theorem cellsOf_At {w : World} {B : Nat} {b o : Nat} {l : List (BitVec 64)} (h : At w B (some ⟨b, o, none⟩) l) (j : Nat) (u : Value) (hj : (l.map enc64)[j]? = some u) : w.cell? ((⟨b, o, none⟩ : Addr).add j) = some u := by
  have hj2 : j < l.length := by have := (List.getElem?_eq_some_iff.1 hj).1; simpa using this
  obtain ⟨b', o', e, _, hc⟩ := h (by omega)
  injection e with e
  injection e with e1 e2
  subst e1 e2
  rw [add_mk, hc j hj2]
  rw [List.getElem?_map, nth_get hj2] at hj
  exact hj
theorem one_enc {l : List (BitVec 64)} : ∀ u ∈ l.map enc64, u.oneCell' = true := fun u hu => by
  obtain ⟨x, _, rfl⟩ := List.mem_map.1 hu
  rfl
/-- A list appended to a list of the call's own; each may be nil. -/
theorem append_list (w : World) (base : Nat) (v : Value) (l m : List (BitVec 64)) (A : Option Addr) (n c : Nat) (h : OwnL w base v l) (hn : m.length = n) (hA : At w w.heap.size A m) (hb : base ≤ w.heap.size) (hl : l.length + n ≤ 65536) :
    ∃ v' W, (Builtin.append_ #[22, 22] 22 #[v, .slice A n c]).run Try.prog w = .ok v' W ∧ OwnL W base v' (l ++ m) ∧ Below base w W := by
  obtain ⟨i0, hi, hz0, hz1, hz2⟩ := info_parts u64_info
  subst hn
  cases A with
  | none =>
    have hm : m = [] := by
      cases m with
      | nil => rfl
      | cons x m => obtain ⟨b, o, e, _⟩ := hA (by simp); cases e
    subst hm
    refine ⟨v, w, ?_, by rw [List.append_nil]; exact h, Below.refl _ _⟩
    rcases h.2 with ⟨rfl, h0⟩ | ⟨g, cap, cur, rfl, _, _, hnc, _⟩
    · simp [Builtin.append_, run_underlying Try.underlying22, sizeOf, typeInfo, hi, Builtin.lenOf, Builtin.firstCells]
    · simp [Builtin.append_, run_underlying Try.underlying22, sizeOf, typeInfo, hi, Builtin.lenOf, Builtin.firstCells, hnc, storeCells]
  | some a =>
    have hcells : ∀ j u, (m.map enc64)[j]? = some u → w.cell? (a.add j) = some u := by
      intro j u hu
      have hj2 : j < m.length := by have := (List.getElem?_eq_some_iff.1 hu).1; simpa using this
      obtain ⟨b, o, e, hlt, hc⟩ := hA (by omega)
      injection e with e
      subst e
      exact cellsOf_At (fun _ => ⟨b, o, rfl, hlt, hc⟩) j u hu
    obtain ⟨v', W, hr, hown, hg, -, -⟩ := run_append_own_at (P := Try.prog) w base 22 22 25 i0 (.int .u64 0) 1 8 Try.underlying22 hi hz0 hz1 hz2 rfl (by decide) v l.length (l.map enc64) h
      a m.length c (m.map enc64) (by simp) hcells one_enc (by simp only [maxLen]; omega) (by omega) hb
    refine ⟨v', W, hr, ?_, (Below.refl base w).grown hg hb (fun k hk => ?_)⟩
    · unfold OwnL
      rw [List.length_append, List.map_append]
      exact hown
    · rcases h.2 with ⟨rfl, _⟩ | ⟨g, cap, cur, rfl, hbg, _⟩
      · simp [Value.ownBlock] at hk
      · simp [Value.ownBlock] at hk
        omega
/-- One number appended, that lies in a box of its own. -/
theorem append_one (w : World) (base : Nat) (v : Value) (l : List (BitVec 64)) (x : BitVec 64) (b : Nat) (h : OwnL w base v l) (hc : w.cell? ⟨b, 0, none⟩ = some (.int .u64 (U x))) (hb : base ≤ w.heap.size) (hl : l.length ≤ 65535) :
    ∃ v' W, (Builtin.append_ #[22, 22] 22 #[v, .slice (some ⟨b, 0, none⟩) 1 1]).run Try.prog w = .ok v' W ∧ OwnL W base v' (l ++ [x]) ∧ Below base w W :=
  append_list w base v l [x] _ 1 1 h rfl (fun _ => ⟨b, 0, rfl, World.block_lt_of_cell? w _ hc, fun j hj => by
    obtain rfl : j = 0 := by simpa using hj
    exact hc⟩) hb (by omega)
/-- A list that is made, of so many zeros, with room for more. -/
theorem make_room (n c : Nat) (hnc : n ≤ c) (hc : c ≤ 65536) (w : World) : ∃ W, (Instr.makeSlice 22 (.int .i64 (n : Int)) (.int .i64 (c : Int))).run Try.prog w = .ok (.slice (some ⟨w.heap.size, 0, none⟩) n c) W ∧
    W = w.alloc (.cells ((List.replicate c (0#64)).map enc64).toArray 25) := by
  obtain ⟨i0, hi, hz0, hz1, hz2⟩ := info_parts u64_info
  have h := run_make (P := Try.prog) w 22 25 i0 (.int .u64 0) Try.underlying22 hi hz0 .i64 .i64 n c (by omega) (by omega) (by rw [hz2]; omega) (by omega)
  rw [hz1, Int.toNat_natCast, Int.toNat_natCast, zeros_eq] at h
  exact ⟨_, h, rfl⟩
/-- A list copied over the zeros of one that was just made: it is the call's own, with room for more. -/
theorem copy_room (w : World) (A : Option Addr) (l : List (BitVec 64)) (n c sc : Nat) (hl : l.length = n) (hnc : n ≤ c) (hc : c ≤ 65536) (hA : At w w.heap.size A l) :
    ∃ W, (Builtin.copy_ #[22, 22] 3 #[.slice (some ⟨w.heap.size, 0, none⟩) n c, .slice A n sc]).run Try.prog (w.alloc (.cells ((List.replicate c (0#64)).map enc64).toArray 25)) = .ok (.int .i64 (n : Nat)) W ∧
      OwnL W w.heap.size (.slice (some ⟨w.heap.size, 0, none⟩) n c) l ∧ Below w.heap.size w W := by
  have hg : (w.alloc (.cells ((List.replicate c (0#64)).map enc64).toArray 25)).heap[w.heap.size]? = some (.cells ((List.replicate c (0#64)).map enc64).toArray 25 (0, 0)) := new_at w _ _ rfl
  have hba : Below w.heap.size w (w.alloc (.cells ((List.replicate c (0#64)).map enc64).toArray 25)) := (Below.refl _ w).alloc (Nat.le_refl _) _
  have own : ∀ W : World, W.heap[w.heap.size]? = some (.cells (l.map enc64 ++ ((List.replicate c (0#64)).map enc64).drop n).toArray 25 (0, 0)) → OwnL W w.heap.size (.slice (some ⟨w.heap.size, 0, none⟩) n c) l := by
    intro W hW
    refine ⟨by simp, .inr ⟨w.heap.size, c, _, by rw [hl], Nat.le_refl _, hW, by rw [hl]; exact hnc, by simp only [maxLen]; omega, ?_, ?_⟩⟩
    · simp [hl]; omega
    · rw [Nat.mul_one]
      have e : l.length = (l.map enc64).length := by simp
      rw [e]
      exact List.take_left
  cases A with
  | none =>
    have hm : l = [] := by
      cases l with
      | nil => rfl
      | cons x m => obtain ⟨b, o, e, _⟩ := hA (by simp); cases e
    subst hm
    simp at hl
    subst hl
    refine ⟨_, ?_, own _ (by rw [hg]; simp), hba⟩
    obtain ⟨i0, hi, hz0, hz1, hz2⟩ := info_parts u64_info
    simp [Builtin.copy_, run_underlying Try.underlying22, Builtin.lenOf, Builtin.firstCells, sizeOf, typeInfo, hi, storeCells]
    rfl
  | some a =>
    have hcells : ∀ j u, (l.map enc64)[j]? = some u → (w.alloc (.cells ((List.replicate c (0#64)).map enc64).toArray 25)).cell? (a.add j) = some u := by
      intro j u hu
      have hj2 : j < l.length := by have := (List.getElem?_eq_some_iff.1 hu).1; simpa using this
      obtain ⟨b, o, e, hlt, hc⟩ := hA (by omega)
      injection e with e
      subst e
      exact old_cell (cellsOf_At (fun _ => ⟨b, o, rfl, hlt, hc⟩) j u hu) _
    have h := run_copy_row (P := Try.prog) (w.alloc (.cells ((List.replicate c (0#64)).map enc64).toArray 25)) 22 22 3 25 w.heap.size 0 n c a n sc _ _ (l.map enc64) Try.underlying22 (by kernel_rfl) hg (by simp [hl]) hcells (by simp [hl]; omega) one_enc
    refine ⟨_, by rw [h, List.length_map, hl]; rfl, own _ ?_, below_setRow hba (Nat.le_refl _) _⟩
    rw [setRow_heap _ _ _ _ _ _ hg]
    simp

set_option maxRecDepth 100000 in
set_option maxHeartbeats 1000000 in
theorem numbers_any (A A' : Option Addr) (c c' : Nat) (l m : List (BitVec 64)) (hl : l.length ≤ 65536) (w : World) (hA : At w w.heap.size A l) (hA' : At w w.heap.size A' m) :
    Calls Try.prog 16 #[.slice A l.length c, .slice A' m.length c'] w fun e w' => e = .returned (.bool (decide (l = m))) ∧ Below w.heap.size w w' := by
  by_cases hlen : l.length = m.length
  · have hd : ((l.length : Int) != (m.length : Int)) = false := by rw [bne_eq_false_iff_eq]; omega
    have hml : m.length = l.length := hlen.symm
    obtain ⟨N, hN⟩ : ∃ N, l.length = N := ⟨_, rfl⟩
    rw [hml, hN] at hd ⊢
    have HN := Lib.hid hN
    have HM := Lib.hid (hml.trans hN)
    have hN2 : N ≤ 65536 := by omega
    clear hN hml hlen hl
    go_enter Try.func16, Try.ntmps16
    go_wp2_with fail
    go_loopw [5] (fun iv wr => ∃ j : Nat, j ≤ N ∧ iv = .int .i64 j ∧ Below w.heap.size w wr ∧ Hid (∀ i, i < j → nth l i = nth m i)) (fun iv _ => N - (intOf iv).toNat)
    case atStart => exact ⟨0, Nat.zero_le _, rfl, Below.refl _ _, Lib.hid (fun i hi => absurd hi (by omega))⟩
    case round =>
      obtain ⟨j, hj, rfl, hB, he⟩ := hrel
      obtain ⟨wo, rfl⟩ : ∃ wo : World, wo = wr := ⟨_, rfl⟩
      by_cases hjN : j < N
      · obtain ⟨b, o, rfl, hb, hc⟩ := hA (by rw [HN.out]; omega)
        obtain ⟨b', o', rfl, hb', hc'⟩ := hA' (by rw [HM.out]; omega)
        have k0 := (hB.cell (p := ⟨b, o + j, none⟩) hb).trans (hc j (by rw [HN.out]; omega))
        have k1 := (hB.cell (p := ⟨b', o' + j, none⟩) hb').trans (hc' j (by rw [HM.out]; omega))
        clear hc hc'
        by_cases hx : nth l j = nth m j
        · have hd2 : (U (nth l j) != U (nth m j)) = false := by rw [bne_eq_false_iff_eq, hx]
          have HX := Lib.hid hx
          clear hx
          go_wp2_with fail
          go_quiet (fail)
          go_wp2_with fail
          go_roundw
          case rel => exact ⟨j + 1, by omega, by go_num, dn hB _, Lib.hid (fun i hi => by
            by_cases e : i = j
            · rw [e]; exact HX.out
            · exact he.out i (by omega))⟩
          case measure => simp [intOf]; omega
        · have hd2 : (U (nth l j) != U (nth m j)) = true := by rw [bne_iff_ne]; exact fun e => hx (U_inj e)
          have hne : l ≠ m := fun e => hx (by rw [e])
          have HE := Lib.hid (decide_eq_false hne)
          clear hx hne
          go_wp2_with fail
          go_quiet (fail)
          go_wp2_with fail
          go_ret
          exact ⟨by rw [HE.out]; rfl, dn hB _⟩
      · have hee : l = m := nth_ext (HN.out.trans HM.out.symm) (fun i hi => he.out i (by have := HN.out; omega))
        have HE := Lib.hid (decide_eq_true hee)
        clear hee
        go_wp2_with fail
        go_ret
        exact ⟨by rw [HE.out]; rfl, hB⟩
  · have hd : ((l.length : Int) != (m.length : Int)) = true := by rw [bne_iff_ne]; omega
    have hne : l ≠ m := fun e => hlen (by rw [e])
    have HE := Lib.hid (decide_eq_false hne)
    clear hlen hne
    go_enter Try.func16, Try.ntmps16
    go_wp2_with fail
    go_ret
    exact ⟨by rw [HE.out]; rfl, Below.refl _ _⟩

set_option maxRecDepth 100000 in
set_option maxHeartbeats 1000000 in
theorem equal_any (A A' : Option Addr) (c c' : Nat) (l m : List (BitVec 64)) (hl : l.length ≤ 65536) (w : World) (hA : At w w.heap.size A l) (hA' : At w w.heap.size A' m) :
    Calls Try.prog 33 #[.slice A l.length c, .slice A' m.length c'] w fun e w' => e = .returned (.bool (decide (l = m))) ∧ Below w.heap.size w w' := by
  by_cases hlen : l.length = m.length
  · have hd : ((l.length : Int) != (m.length : Int)) = false := by rw [bne_eq_false_iff_eq]; omega
    have hml : m.length = l.length := hlen.symm
    obtain ⟨N, hN⟩ : ∃ N, l.length = N := ⟨_, rfl⟩
    rw [hml, hN] at hd ⊢
    have HN := Lib.hid hN
    have HM := Lib.hid (hml.trans hN)
    have hN2 : N ≤ 65536 := by omega
    clear hN hml hlen hl
    go_enter Try.func33, Try.ntmps33
    go_wp2_with fail
    go_loopw [13] (fun iv wr => ∃ j : Nat, j ≤ N ∧ iv = .int .i64 j ∧ Below w.heap.size w wr ∧ Hid (∀ i, i < j → nth l i = nth m i)) (fun iv _ => N - (intOf iv).toNat)
    case atStart => exact ⟨0, Nat.zero_le _, rfl, Below.refl _ _, Lib.hid (fun i hi => absurd hi (by omega))⟩
    case round =>
      obtain ⟨j, hj, rfl, hB, he⟩ := hrel
      obtain ⟨wo, rfl⟩ : ∃ wo : World, wo = wr := ⟨_, rfl⟩
      by_cases hjN : j < N
      · obtain ⟨b, o, rfl, hb, hc⟩ := hA (by rw [HN.out]; omega)
        obtain ⟨b', o', rfl, hb', hc'⟩ := hA' (by rw [HM.out]; omega)
        have k0 := (hB.cell (p := ⟨b, o + j, none⟩) hb).trans (hc j (by rw [HN.out]; omega))
        have k1 := (hB.cell (p := ⟨b', o' + j, none⟩) hb').trans (hc' j (by rw [HM.out]; omega))
        clear hc hc'
        by_cases hx : nth l j = nth m j
        · have hd2 : (U (nth l j) != U (nth m j)) = false := by rw [bne_eq_false_iff_eq, hx]
          have HX := Lib.hid hx
          clear hx
          go_wp2_with fail
          go_quiet (fail)
          go_wp2_with fail
          go_roundw
          case rel => exact ⟨j + 1, by omega, by go_num, dn hB _, Lib.hid (fun i hi => by
            by_cases e : i = j
            · rw [e]; exact HX.out
            · exact he.out i (by omega))⟩
          case measure => simp [intOf]; omega
        · have hd2 : (U (nth l j) != U (nth m j)) = true := by rw [bne_iff_ne]; exact fun e => hx (U_inj e)
          have hne : l ≠ m := fun e => hx (by rw [e])
          have HE := Lib.hid (decide_eq_false hne)
          clear hx hne
          go_wp2_with fail
          go_quiet (fail)
          go_wp2_with fail
          go_ret
          exact ⟨by rw [HE.out]; rfl, dn hB _⟩
      · have hee : l = m := nth_ext (HN.out.trans HM.out.symm) (fun i hi => he.out i (by have := HN.out; omega))
        have HE := Lib.hid (decide_eq_true hee)
        clear hee
        go_wp2_with fail
        go_ret
        exact ⟨by rw [HE.out]; rfl, hB⟩
  · have hd : ((l.length : Int) != (m.length : Int)) = true := by rw [bne_iff_ne]; omega
    have hne : l ≠ m := fun e => hlen (by rw [e])
    have HE := Lib.hid (decide_eq_false hne)
    clear hlen hne
    go_enter Try.func33, Try.ntmps33
    go_wp2_with fail
    go_ret
    exact ⟨by rw [HE.out]; rfl, Below.refl _ _⟩

end Go.Proofs.Ythnnbpmpaeddgaa
