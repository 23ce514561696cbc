/-
  Adding a number to counters, and how often it came at most: the reference's.
-/
import Derived.Test.YtlehjbfhhikpiaaCmsG
import Derived.Test.YtlehjbfhhikpiaaTail
import Derived.Maps.AppendAt
namespace Go.Proofs.Ytlehjbfhhikpiaa
open Go.RowKit

/-- Block b begins with the numbers of l; it may be longer. -/
def RowP (w : World) (b : Nat) (T : TypeId) (l : List (BitVec 64)) : Prop := ∃ more : List Value, w.heap[b]? = some (.cells ((l.map enc64) ++ more).toArray T (0, 0))
section
variable {w w' : World} {b B : Nat} {T : TypeId} {l : List (BitVec 64)}
theorem RowP.lt (h : RowP w b T l) : b < w.heap.size := by obtain ⟨_, h⟩ := h; exact (Array.getElem?_eq_some_iff.1 h).1
theorem RowP.cell (h : RowP w b T l) {j : Nat} (hj : j < l.length) : w.cell? ⟨b, j, none⟩ = some (.int .u64 (U (nth l j))) := by
  obtain ⟨more, h⟩ := h
  simp only [World.cell?, h]
  have e : (((l.map enc64) ++ more).toArray[j]?) = some (enc64 (nth l j)) := by
    rw [List.getElem?_toArray, List.getElem?_append_left (by simpa using hj), List.getElem?_map, nth_get hj]
    rfl
  have e2 : enc64 (nth l j) = .int .u64 (U (nth l j)) := rfl
  rw [e2] at e
  simpa using e
theorem RowP.free (h : RowP w b T l) (j : Nat) : w.frozen? ⟨b, j, none⟩ = false := by
  obtain ⟨more, h⟩ := h
  simp [World.frozen?, h]
theorem RowP.of (h : w'.heap[b]? = w.heap[b]?) (k : RowP w b T l) : RowP w' b T l := by
  obtain ⟨more, k⟩ := k
  exact ⟨more, h.trans k⟩
theorem RowP.at_ (h : RowP w b T l) (hB : b < B) : At w B (some ⟨b, 0, none⟩) l := fun _ => ⟨b, 0, rfl, hB, fun j hj => by rw [Nat.zero_add]; exact h.cell hj⟩
theorem RowP.set (h : RowP w b T l) {j : Nat} (hj : j < l.length) (x : BitVec 64) : RowP (w.setCell ⟨b, j, none⟩ (.int .u64 (U x))) b T (l.set j x) := by
  have hlt := h.lt
  obtain ⟨more, h⟩ := h
  have h2 := ((Put.refl h).set j (.int .u64 (U x))).get hlt
  refine ⟨more, h2.trans ?_⟩
  have e : (((l.map enc64) ++ more).toArray.setIfInBounds j (.int .u64 (U x))) = ((l.set j x).map enc64 ++ more).toArray := by
    rw [List.setIfInBounds_toArray, List.set_append_left j _ (by simpa using hj), List.map_set]; rfl
  rw [e]
end

/-- An append by what it comes to. -/
theorem wpList_append_run {P : Program} {w : World} {ops : Array Oper} {rest : List Oper} {o : Oper} {a : Act} {Q : Exit → Act → World → Prop} (hgd : o.guard = none) (s x : Operand) (t : TypeId)
    (ho : o.op = .call { callee := .builtin .append, args := #[s, x], argTypes := #[t, t] }) {u1 u2 r : Value} {W : World} (hs : a.eval s = u1) (hx : a.eval x = u2)
    (hrun : (Builtin.append_ #[t, t] o.type #[u1, u2]).run P w = .ok r W) (h : wpList P ops Q rest (a.put o.dst r) W) : wpList P ops Q (o :: rest) a w := by
  refine wpList_plain hgd fun K hK => ?_
  unfold Oper.wp execOp
  simp only [ho, resolve, invoke, builtin, Sem.run_bind, Sem.run_pure, Result.andThen_ok, List.map_toArray, List.map_cons, List.map_nil, hs, hx, hrun]
  exact hK _ _ h

theorem append_all (w : World) (b o c : Nat) (l : List (BitVec 64)) (hl0 : 0 < l.length) (hl : l.length ≤ 65536) (hc : ∀ j, j < l.length → w.cell? ⟨b, o + j, none⟩ = some (.int .u64 (U (nth l j)))) :
    ∃ g cap W, (Builtin.append_ #[22, 22] 22 #[.slice none 0 0, .slice (some ⟨b, o, none⟩) l.length c]).run Try.prog w = .ok (.slice (some ⟨g, 0, none⟩) l.length cap) W ∧
      RowP W g 25 l ∧ Below w.heap.size w W ∧ w.heap.size ≤ g := by
  obtain ⟨i0, hi, hz0, hz1, hz2⟩ := info_parts u64_info
  obtain ⟨v', W, hr, hown, hg, -, -⟩ := run_append_own_at (P := Try.prog) w w.heap.size 22 22 25 i0 (.int .u64 0) 1 8 Try.underlying22 hi hz0 hz1 hz2 rfl (by decide) (.slice none 0 0) 0 [] ⟨by simp, .inl ⟨rfl, rfl⟩⟩
    ⟨b, o, none⟩ l.length c (l.map enc64) (by simp) (fun j u hj => by
      have hj2 : j < l.length := by have := (List.getElem?_eq_some_iff.1 hj).1; simpa using this
      rw [add_mk, hc j hj2]
      rw [List.getElem?_map, nth_get hj2] at hj
      exact hj) (fun v hv => by
      obtain ⟨x, _, rfl⟩ := List.mem_map.1 hv
      rfl) (by simp only [maxLen]; omega) (by omega) (Nat.le_refl _)
  rw [Nat.zero_add, List.nil_append] at hown
  rcases hown.2 with ⟨_, h0⟩ | ⟨g, cap, cur, rfl, hb, hh, hnc, _, hcs, htake⟩
  · omega
  · refine ⟨g, cap, W, hr, ⟨cur.toList.drop l.length, ?_⟩, (Below.refl _ w).grown hg (Nat.le_refl _) (by simp [Value.ownBlock]), hb⟩
    rw [hh]
    congr 2
    rw [← htake, Nat.mul_one, List.take_append_drop]

theorem four3 {w w1 : World} {a b c a' b' c' : Value} {T T' : TypeId} (hB : Below ((w.alloc (.cells #[a, b, c] T)).alloc (.cells #[a', b', c'] T')).heap.size ((w.alloc (.cells #[a, b, c] T)).alloc (.cells #[a', b', c'] T')) w1) :
    w1.heap[w.heap.size]? = some (.cells #[a, b, c] T) ∧ w1.heap[w.heap.size + 1]? = some (.cells #[a', b', c'] T') ∧ Below w.heap.size w w1 ∧ w.heap.size + 2 ≤ w1.heap.size :=
  ⟨(hB.block _ (by simp; omega)).trans (old_at (new_at _ _ _ rfl)), (hB.block _ (by simp)).trans (new_at _ _ _ (by simp)), two3 hB, by have := hB.size; simp at this; omega⟩

set_option maxRecDepth 100000 in
set_option maxHeartbeats 4000000 in
theorem refAdd_any (R C : Int) (A : Option Addr) (c : Nat) (l : List (BitVec 64)) (x m : BitVec 64) (w : World) (hA : At w w.heap.size A l) : Calls Try.prog 15 #[.agg #[.int .i64 R, .int .i64 C, .slice A l.length c], .int .u64 (U x), .int .u64 (U m)] w fun e w' => Below w.heap.size w w' ∧
    ((isRight R C l.length = false ∧ e = .returned (.tuple #[.agg #[.int .i64 0, .int .i64 0, .slice none 0 0], .int .i64 80])) ∨
     (isRight R C l.length = true ∧ ∃ (g cap : Nat), w.heap.size ≤ g ∧ e = .returned (.tuple #[.agg #[.int .i64 R, .int .i64 C, .slice (some ⟨g, 0, none⟩) l.length cap], .int .i64 0]) ∧ RowP w' g 25 (addF R.toNat C.toNat x m l))) := by
  go_enter Try.func15, Try.ntmps15
  go_wp2_with fail
  refine (refRight_any R C A l.length c _).mono ?_
  rintro e w1 ⟨rfl, hB1⟩
  obtain ⟨kx, kr, hBw1, hs1⟩ := four3 hB1
  clear hB1
  have c0 := cell_at kx 0
  have c1 := cell_at kx 1
  have c2 := cell_at kx 2
  by_cases hR : isRight R C l.length = true
  · have hRR := hR
    obtain ⟨r, k, rfl, rfl, hr, hr4, hk, hn⟩ := isRight_out hR
    have hlt0 : 0 < l.length := by rw [hn]; exact Nat.mul_pos (by omega) (by omega)
    have hle : l.length ≤ 65536 := by rw [hn]; rcases hk with rfl | rfl | rfl | rfl <;> omega
    obtain ⟨b, o, rfl, hb, hc⟩ := hA hlt0
    obtain ⟨g, cap, W, happ, hrow, hBW, hg⟩ := append_all w1 b o c l hlt0 hle (fun j hj => (hBw1.cell (p := ⟨b, o + j, none⟩) hb).trans (hc j hj))
    have kx2 := (hBW.block _ (by omega)).trans kx
    have kr2 := (hBW.block _ (by omega)).trans kr
    have hBw2 := hBw1.trans (hBW.mono (by omega))
    have hsW := hBW.size
    have HR := Lib.hid hRR
    have HN := Lib.hid hn
    have HK := Lib.hid hk
    rw [hRR]
    clear hR hRR hn hk hc kx kr
    have happ := Lib.hid happ
    go_wp2_with (at_builtin; refine wpList_append_run rfl (.tmp 15) (.tmp 17) _ rfl rfl rfl happ.out ?_)
    clear c0 c1 c2
    go_loopw [9] (fun iv wr => ∃ j : Nat, j ≤ r ∧ iv = .int .i64 j ∧ w.heap.size + 2 ≤ wr.heap.size ∧ Below w.heap.size w wr ∧
        wr.heap[w.heap.size]? = some (.cells #[.int .i64 (r : Int), .int .i64 (k : Int), .slice (some ⟨b, o, none⟩) l.length c] 24 (0, 0)) ∧
        wr.heap[w.heap.size + 1]? = some (.cells #[.int .i64 0, .int .i64 0, .slice none 0 0] 24 (0, 0)) ∧ RowP wr g 25 ((placesTo k x j).foldl (addAt m) l)) (fun iv _ => r - (intOf iv).toNat)
    case atStart => exact ⟨0, Nat.zero_le _, rfl, by omega, hBw2, kx2, kr2, hrow⟩
    case round =>
      obtain ⟨j, hj, rfl, hz, hB, jx, jr, jrow⟩ := hrel
      obtain ⟨wo, rfl⟩ : ∃ wo : World, wo = wr := ⟨_, rfl⟩
      have c0 := cell_at jx 0
      have c1 := cell_at jx 1
      have c2 := cell_at jx 2
      by_cases hjr : j < r
      · have hk := HK.out
        have hkk : k ≤ 32 := by omega
        obtain ⟨cc, hc⟩ : ∃ cc, colF k j x = cc := ⟨_, rfl⟩
        have hcl : cc < k := by rw [← hc]; exact Nat.mod_lt _ (by omega)
        have hjk : j * k ≤ 128 := by rcases hk with rfl | rfl | rfl | rfl <;> omega
        obtain ⟨d, hd⟩ : ∃ d, j * k = d := ⟨_, rfl⟩
        have hm : IntKind.i64.wrap ((j : Int) * (k : Int)) = (d : Int) := by
          have e : (j : Int) * (k : Int) = (d : Int) := by rw [← hd]; simp
          rw [e, IntKind.wrap_i64]; omega
        have hd128 : d ≤ 128 := by rw [← hd]; exact hjk
        have hcolv : colAt r k l.length j x = cc := by
          unfold colAt
          rw [HR.out, decide_eq_true (show (0 : Int) ≤ (j : Int) by omega), decide_eq_true (show (j : Int) < (r : Int) by omega)]
          simp only [Bool.and_self, if_true, Int.toNat_natCast]
          exact hc
        have hcol := fun w => refCol_any (r : Int) (k : Int) (some ⟨b, o, none⟩) l.length c (j : Int) x w
        rw [hcolv] at hcol
        have hin : d + cc < l.length := by
          rw [HN.out]
          have h1 : (j + 1) * k ≤ r * k := Nat.mul_le_mul_right _ hjr
          rw [Nat.add_mul, Nat.one_mul, hd] at h1
          omega
        have hplace : placesTo k x (j + 1) = placesTo k x j ++ [d + cc] := by rw [placesTo_succ, hc, hd]
        obtain ⟨L, hL⟩ : ∃ L, (placesTo k x j).foldl (addAt m) l = L := ⟨_, rfl⟩
        have hlen : L.length = l.length := by rw [← hL, foldl_addAt_length]
        rw [hL] at jrow
        have hnext : (placesTo k x (j + 1)).foldl (addAt m) l = L.set (d + cc) (sat (nth L (d + cc)) m) := by rw [hplace, List.foldl_append, hL]; rfl
        have HNX := Lib.hid hnext
        have HL := Lib.hid hlen
        have HCol := Lib.hid hcol
        have q0 : w.heap.size < wo.heap.size := by omega
        have gl := jrow.lt
        clear hc hcolv hcol hplace hL hnext hlen hd hk
        go_wp2_with fail
        refine wp_region_later wo.heap.size (by kernel_rfl) (by kernel_rfl) ?_
        have l0 : ∀ s : Later wo.heap.size wo, s.W.cell? ⟨w.heap.size, 0, none⟩ = some _ := fun s => s.cell c0 q0
        have l1 : ∀ s : Later wo.heap.size wo, s.W.cell? ⟨w.heap.size, 1, none⟩ = some _ := fun s => s.cell c1 q0
        have l2 : ∀ s : Later wo.heap.size wo, s.W.cell? ⟨w.heap.size, 2, none⟩ = some _ := fun s => s.cell c2 q0
        clear c0 c1 c2
        repeat (go_big_quiet_step ((go_at_call 20; exact Calls.later (Nat.le_refl _) (HCol.out _))))
        refine wpQuiet_nil ?_
        rintro _ ⟨u, rfl⟩
        clear l0 l1 l2
        have hub := u.below
        have ux := (hub.block _ q0).trans jx
        have ur := (hub.block (w.heap.size + 1) (by omega)).trans jr
        have urow := jrow.of (hub.block _ gl)
        have ci := urow.cell (j := d + cc) (by rw [HL.out]; exact hin)
        have fi := urow.free (d + cc)
        have hus := hub.size
        have hplus := fun w => refPlus_any (nth L (d + cc)) m w
        have HPl := Lib.hid hplus
        clear hplus
        go_wp2_with (go_at_call 25; refine (HPl.out _).mono ?_; rintro e w9 ⟨rfl, rfl⟩)
        go_roundw
        case rel =>
          refine ⟨j + 1, by omega, by go_num, by simp [World.setCell]; omega, (hB.trans (hub.mono (by omega))).setCell (by show w.heap.size ≤ g; omega) _, ?_, ?_, ?_⟩
          · exact (Below.heap_setCell u.W ⟨g, d + cc, none⟩ _ w.heap.size (by show w.heap.size ≠ g; omega)).trans ux
          · exact (Below.heap_setCell u.W ⟨g, d + cc, none⟩ _ (w.heap.size + 1) (by show w.heap.size + 1 ≠ g; omega)).trans ur
          · rw [HNX.out]
            exact urow.set (by rw [HL.out]; exact hin) _
        case measure => simp [intOf]; omega
      · obtain rfl : j = r := by omega
        have d0 := cell_at jr 0
        have d1 := cell_at jr 1
        have d2 := cell_at jr 2
        have f0 := free_at jr 0
        have f1 := free_at jr 1
        have f2 := free_at jr 2
        go_wp2_with fail
        refine bodyPost_ret (v := .tuple #[.agg #[.int .i64 (j : Int), .int .i64 (k : Int), .slice (some ⟨g, 0, none⟩) l.length cap], .int .i64 0]) ?_ rfl ⟨?_, .inr ⟨HR.out, g, cap, by omega, rfl, ?_⟩⟩
        · simp [results, Try.results15, go_sem, d0, d1, d2]
        · exact ((hB.setCell (by simp) _).setCell (by simp) _).setCell (by simp) _
        · have e : ∀ (W : World) v i, (W.setCell ⟨w.heap.size + 1, i, none⟩ v).heap[g]? = W.heap[g]? := fun W v i => Below.heap_setCell W ⟨w.heap.size + 1, i, none⟩ v g (by show g ≠ w.heap.size + 1; omega)
          exact jrow.of ((e _ _ _).trans ((e _ _ _).trans (e _ _ _)))
  · rw [Bool.not_eq_true] at hR
    rw [hR]
    have HR := Lib.hid hR
    clear hR
    have d0 := cell_at kr 0
    have d1 := cell_at kr 1
    have d2 := cell_at kr 2
    have f0 := free_at kr 0
    have f1 := free_at kr 1
    have f2 := free_at kr 2
    go_wp2_with fail
    refine bodyPost_ret (v := .tuple #[.agg #[.int .i64 0, .int .i64 0, .slice none 0 0], .int .i64 80]) ?_ rfl ⟨?_, .inl ⟨HR.out, rfl⟩⟩
    · simp [results, Try.results15, go_sem, d0, d1, d2]
    · exact ((hBw1.setCell (by simp) _).setCell (by simp) _).setCell (by simp) _
end Go.Proofs.Ytlehjbfhhikpiaa
