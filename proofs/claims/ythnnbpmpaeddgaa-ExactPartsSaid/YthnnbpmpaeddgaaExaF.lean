/-
  What is merged, added, there, counted, the same: the program's.
-/
import Derived.Test.YthnnbpmpaeddgaaExaE
namespace Go.Proofs.Ythnnbpmpaeddgaa
open Go.RowKit Go.Shelf
attribute [local go_sem] calmOp calmUpon effOp effUpon

/-- What is told of a merge. -/
def pickX (b : Bool) (t : Xt) : Xt := if b = true then t else ⟨[], 60⟩
def mergeX (l m : L64) : Xt := pickX (rightX l && rightX m) (capX (ofX (l ++ m)))
theorem rightX_len {l : L64} (h : rightX l = true) : l.length ≤ 64 := (rightX_iff.1 h).1
theorem GivesX.bad (w w' : World) (h : Below w.heap.size w w') : GivesX ⟨[], 60⟩ w (.returned (.tuple #[.agg #[.slice none 0 0], .int .i64 60])) w' := ⟨h, none, 0, rfl, OwnL.nil _ _⟩
theorem trio1 {w w1 : World} {o1 o2 o3 : Obj} (hB : Below (((w.alloc o1).alloc o2).alloc o3).heap.size (((w.alloc o1).alloc o2).alloc o3) w1) :
    w1.heap[w.heap.size]? = some o1 ∧ w1.heap[w.heap.size + 1]? = some o2 ∧ w1.heap[w.heap.size + 1 + 1]? = some o3 ∧ Below w.heap.size w w1 ∧ w.heap.size + 3 ≤ w1.heap.size :=
  ⟨(hB.block _ (by simp; omega)).trans (old_at (old_at (new_at _ _ _ rfl))), (hB.block _ (by simp)).trans (old_at (new_at _ _ _ (by simp))), (hB.block _ (by simp)).trans (new_at _ _ _ (by simp)),
   ((((Below.refl _ w).alloc (Nat.le_refl _) _).alloc (by simp) _).alloc (by simp; omega) _).trans (hB.mono (by simp; omega)), by have := hB.size; simp at this; omega⟩

set_option maxRecDepth 100000 in
set_option maxHeartbeats 4000000 in
theorem Merge_gives (A A' : Option Addr) (c c' : Nat) (l l' : L64) (n n' : Nat) (hn : l.length = n) (hn' : l'.length = n') (hl : n ≤ 60000) (hl' : n' ≤ 60000) (w : World) (hA : At w w.heap.size A l) (hA' : At w w.heap.size A' l') :
    Calls Try.prog 14 #[.agg #[.slice A n c], .agg #[.slice A' n' c']] w (GivesX (mergeX l l') w) := by
  unfold mergeX
  obtain ⟨x, hx⟩ : ∃ x, rightX l = x := ⟨_, rfl⟩
  obtain ⟨y, hy⟩ : ∃ y, rightX l' = y := ⟨_, rfl⟩
  rw [hx, hy]
  have hlen : x = true → n ≤ 64 := fun h => by rw [← hn]; exact rightX_len (by rw [hx, h])
  have hlen' : y = true → n' ≤ 64 := fun h => by rw [← hn']; exact rightX_len (by rw [hy, h])
  have HX := Lib.hid hx
  have HY := Lib.hid hy
  have HN := Lib.hid hn
  have HN' := Lib.hid hn'
  have HLen := Lib.hid hlen
  have HLen' := Lib.hid hlen'
  clear hx hy hn hn' hlen hlen'
  go_enter Try.func14, Try.ntmps14
  go_wp2_with fail
  have hb3 : Below w.heap.size w (((w.alloc (.cells #[.slice A n c] 24)).alloc (.cells #[.slice A' n' c'] 24)).alloc (.cells #[.slice none 0 0] 24)) := (((Below.refl _ w).alloc (Nat.le_refl _) _).alloc (by simp) _).alloc (by simp; omega) _
  have hR := Right_any A c l n HN.out (by omega) _ (hA.later hb3)
  rw [HX.out] at hR
  refine hR.mono ?_
  rintro e w1 ⟨rfl, hB1⟩
  obtain ⟨kx, ky, kr, hBw1, hs1⟩ := trio1 hB1
  clear hb3 hB1 hR
  have y0 := cell_at ky 0
  cases x with
  | false =>
    go_wp2_with fail
    refine (told_wrong _).mono ?_
    rintro e w2 ⟨rfl, hB2⟩
    have kr2 := keep kr hB2
    have d0 := cell_at kr2 0
    have f0 := free_at kr2 0
    have hB := hBw1.trans (hB2.mono hBw1.size)
    clear y0
    go_wp2_with fail
    refine bodyPost_ret (v := .tuple #[.agg #[.slice none 0 0], .int .i64 60]) ?_ rfl (GivesX.bad _ _ ?_)
    · simp [results, Try.results14, go_sem, d0]
    · exact hB.setCell (by simp; omega) _
  | true =>
    have hn64 := HLen.out rfl
    go_wp2_with fail
    have hR := Right_any A' c' l' n' HN'.out (by omega) w1 (hA'.later hBw1)
    rw [HY.out] at hR
    refine hR.mono ?_
    rintro e w2 ⟨rfl, hB2⟩
    have kx2 := keep kx hB2
    have ky2 := keep ky hB2
    have kr2 := keep kr hB2
    have hB := hBw1.trans (hB2.mono hBw1.size)
    have hs2 := hB2.size
    clear y0 hR kx ky kr hB2
    cases y with
    | false =>
      go_wp2_with fail
      refine (told_wrong _).mono ?_
      rintro e w3 ⟨rfl, hB3⟩
      have kr3 := keep kr2 hB3
      have d0 := cell_at kr3 0
      have f0 := free_at kr3 0
      have hB := hB.trans (hB3.mono hB.size)
      go_wp2_with fail
      refine bodyPost_ret (v := .tuple #[.agg #[.slice none 0 0], .int .i64 60]) ?_ rfl (GivesX.bad _ _ ?_)
      · simp [results, Try.results14, go_sem, d0]
      · exact hB.setCell (by simp; omega) _
    | true =>
      have hn64' := HLen'.out rfl
      have x0 := cell_at kx2 0
      have y0 := cell_at ky2 0
      go_wp2_with fail
      have hBc : Below w2.heap.size w2 (w2.alloc (.cells #[.slice A n c, .slice A' n' c'] 22)) := (Below.refl _ w2).alloc (Nat.le_refl _) _
      have knew := new_at w2 (.cells #[.slice A n c, .slice A' n' c'] 22) _ rfl
      refine (concat_any A A' c c' l l' n n' HN.out HN'.out (by omega) w2.heap.size _ (cell_at knew 0) (cell_at knew 1) ((hA.later hB).later hBc) ((hA'.later hB).later hBc)).mono ?_
      rintro e w3 ⟨hB3, v, rfl, hown⟩
      have hBc3 := hBc.trans (hB3.mono hBc.size)
      have kr3 := keep kr2 hBc3
      have hB := hB.trans (hBc3.mono hB.size)
      obtain ⟨A3, c3, hv, -, hAt3⟩ := hown.at_
      have hll : (l ++ l').length = n + n' := by rw [List.length_append, HN.out, HN'.out]
      rw [hll] at hv
      subst hv
      clear hown kx2 ky2 kr2 x0 y0 hBc hB3 hBc3 knew
      have HLL := Lib.hid hll
      clear hll
      go_wp2_with fail
      refine (Of_gives A3 c3 (l ++ l') (n + n') HLL.out (by omega) w3 hAt3).mono ?_
      rintro e w4 ⟨hB4, A4, c4, rfl, hown4⟩
      have kr4 := keep kr3 hB4
      have d0 := cell_at kr4 0
      have f0 := free_at kr4 0
      have hB' := hB.trans (hB4.mono hB.size)
      have HO := Lib.hid hown4
      have hs3 := hB4.size
      have hlt := (Array.getElem?_eq_some_iff.1 kr3).1
      clear hown4
      obtain ⟨t, ht⟩ : ∃ t, capX (ofX (l ++ l')) = t := ⟨_, rfl⟩
      rw [ht] at HO ⊢
      have HT := Lib.hid ht
      clear ht
      go_wp2_with fail
      refine bodyPost_ret (v := .tuple #[.agg #[.slice A4 t.l.length c4], .int .i64 t.e]) ?_ rfl ?_
      · simp [results, Try.results14, go_sem, d0]
      · rw [show pickX (true && true) (capX (ofX (l ++ l'))) = t from HT.out]
        refine ⟨hB'.setCell (by simp; omega) _, A4, c4, rfl, ?_⟩
        exact OwnL.mono hB.size (HO.out.of (fun k hk _ => Below.heap_setCell w4 ⟨w.heap.size + 1 + 1, 0, none⟩ _ k (by show k ≠ w.heap.size + 1 + 1; omega)))
theorem duo1 {w w1 : World} {o1 o2 : Obj} (hB : Below ((w.alloc o1).alloc o2).heap.size ((w.alloc o1).alloc o2) w1) :
    w1.heap[w.heap.size]? = some o1 ∧ w1.heap[w.heap.size + 1]? = some o2 ∧ Below w.heap.size w w1 ∧ w.heap.size + 2 ≤ w1.heap.size :=
  ⟨(hB.block _ (by simp; omega)).trans (old_at (new_at _ _ _ rfl)), (hB.block _ (by simp)).trans (new_at _ _ _ (by simp)),
   (((Below.refl _ w).alloc (Nat.le_refl _) _).alloc (by simp) _).trans (hB.mono (by simp; omega)), by have := hB.size; simp at this; omega⟩

set_option maxRecDepth 100000 in
set_option maxHeartbeats 2000000 in
theorem Add_gives (A : Option Addr) (c : Nat) (l : L64) (n : Nat) (hn : l.length = n) (hl : n ≤ 60000) (x : BitVec 64) (w : World) (hA : At w w.heap.size A l) :
    Calls Try.prog 12 #[.agg #[.slice A n c], .int .u64 (U x)] w (GivesX (mergeX l [x]) w) := by
  obtain ⟨t, ht⟩ : ∃ t, mergeX l [x] = t := ⟨_, rfl⟩
  rw [ht]
  have HT := Lib.hid ht
  have HN := Lib.hid hn
  clear ht hn
  go_enter Try.func12, Try.ntmps12
  go_wp2_with fail
  have hb3 : Below w.heap.size w (((w.alloc (.cells #[.slice A n c] 24)).alloc (.cells #[.slice none 0 0] 24)).alloc (.cells #[.int .u64 (U x)] 25)) := (((Below.refl _ w).alloc (Nat.le_refl _) _).alloc (by simp) _).alloc (by simp; omega) _
  have knew := new_at ((w.alloc (.cells #[.slice A n c] 24)).alloc (.cells #[.slice none 0 0] 24)) (.cells #[.int .u64 (U x)] 25) (w.heap.size + 1 + 1) (by simp)
  have hone : At (((w.alloc (.cells #[.slice A n c] 24)).alloc (.cells #[.slice none 0 0] 24)).alloc (.cells #[.int .u64 (U x)] 25)) (((w.alloc (.cells #[.slice A n c] 24)).alloc (.cells #[.slice none 0 0] 24)).alloc (.cells #[.int .u64 (U x)] 25)).heap.size (some ⟨w.heap.size + 1 + 1, 0, none⟩) [x] := fun _ => ⟨_, 0, rfl, by simp, fun j hj => by
    obtain rfl : j = 0 := by simpa using hj
    exact cell_at knew 0⟩
  refine (Merge_gives A _ c 1 l [x] n 1 HN.out rfl hl (by omega) _ (hA.later hb3) hone).mono ?_
  rw [HT.out]
  rintro e w1 ⟨hB1, A1, c1, rfl, hown⟩
  obtain ⟨-, kr, -, hBw, hs1⟩ := trio1 hB1
  have d0 := cell_at kr 0
  have f0 := free_at kr 0
  have HO := Lib.hid hown
  clear hown hone knew hb3 hB1
  go_wp2_with fail
  refine bodyPost_ret (v := .tuple #[.agg #[.slice A1 t.l.length c1], .int .i64 t.e]) ?_ rfl ?_
  · simp [results, Try.results12, go_sem, d0]
  · refine ⟨hBw.setCell (by simp) _, A1, c1, rfl, ?_⟩
    have ho := HO.out
    rw [show (((w.alloc (.cells #[.slice A n c] 24)).alloc (.cells #[.slice none 0 0] 24)).alloc (.cells #[.int .u64 (U x)] 25)).heap.size = w.heap.size + 3 by simp] at ho
    have ho2 : OwnL (w1.setCell ⟨w.heap.size + 1, 0, none⟩ (.slice A1 t.l.length c1)) (w.heap.size + 3) (.slice A1 t.l.length c1) t.l := ho.of (fun k hk _ => Below.heap_setCell w1 ⟨w.heap.size + 1, 0, none⟩ _ k (by show k ≠ w.heap.size + 1; omega))
    exact OwnL.mono (by omega) ho2

set_option maxRecDepth 100000 in
set_option maxHeartbeats 2000000 in
theorem index_any (A : Option Addr) (c : Nat) (l : L64) (n : Nat) (hn : l.length = n) (hl : n ≤ 65536) (x : BitVec 64) (w : World) (hA : At w w.heap.size A l) :
    Calls Try.prog 36 #[.slice A n c, .int .u64 (U x)] w fun e w' => (∃ z : Int, e = .returned (.int .i64 z) ∧ decide (0 ≤ z) = decide (x ∈ l)) ∧ w' = w := by
  have HN := Lib.hid hn
  clear hn
  go_enter Try.func36, Try.ntmps36
  go_wp2_with fail
  go_loop [8] (fun iv => ∃ j : Nat, j ≤ n ∧ iv = .int .i64 j ∧ Hid (∀ i, i < j → nth l i ≠ x)) (fun iv => n - (intOf iv).toNat)
  case atStart => exact ⟨0, Nat.zero_le _, rfl, Lib.hid (fun i hi => absurd hi (by omega))⟩
  case round =>
    obtain ⟨j, hj, rfl, H⟩ := hrel
    by_cases hjn : j < n
    · obtain ⟨b, o, rfl, hb, hc⟩ := hA (by rw [HN.out]; omega)
      have y := hc j (by rw [HN.out]; exact hjn)
      have hu := U_beq x (nth l j)
      by_cases hx : x = nth l j
      · have e : (x == nth l j) = true := by rw [beq_iff_eq]; exact hx
        rw [e] at hu
        have HM : Hid (x ∈ l) := Lib.hid (by rw [hx]; exact nth_mem (by rw [HN.out]; exact hjn))
        clear hc hx e
        go_wp2_with fail
        go_ret
        exact ⟨⟨_, rfl, by simp [HM.out]⟩, rfl⟩
      · have e : (x == nth l j) = false := by rw [beq_eq_false_iff_ne]; exact hx
        rw [e] at hu
        have HX := Lib.hid hx
        clear hc hx e
        go_wp2_with fail
        go_round
        case rel => exact ⟨j + 1, by omega, by go_num, Lib.hid (fun i hi => by
          by_cases e : i = j
          · rw [e]; exact fun h => HX.out h.symm
          · exact H.out i (by omega))⟩
        case measure => simp [intOf]; omega
    · obtain rfl : j = n := by omega
      have HM : Hid (x ∉ l) := Lib.hid (fun h => by
        obtain ⟨i, hi, e⟩ := mem_nth h
        exact H.out i (by rw [← HN.out]; exact hi) e)
      go_wp2_with fail
      go_ret
      exact ⟨⟨_, rfl, by simp [HM.out]⟩, rfl⟩
set_option maxRecDepth 100000 in
theorem contains_any (A : Option Addr) (c : Nat) (l : L64) (n : Nat) (hn : l.length = n) (hl : n ≤ 65536) (x : BitVec 64) (w : World) (hA : At w w.heap.size A l) :
    Calls Try.prog 30 #[.slice A n c, .int .u64 (U x)] w fun e w' => e = .returned (.bool (decide (x ∈ l))) ∧ w' = w := by
  go_enter Try.func30, Try.ntmps30
  go_wp2_with fail
  refine (index_any A c l n hn hl x w hA).mono ?_
  rintro e w1 ⟨⟨z, rfl, hz⟩, rfl⟩
  go_wp2_with fail
  go_ret
  exact ⟨by first | rfl | rw [← hz], rfl⟩

def hasX (l : L64) (x : BitVec 64) : Bool := rightX l && decide (x ∈ l)
def countX (l : L64) : Nat := if rightX l = true then l.length else 0
set_option maxRecDepth 100000 in
set_option maxHeartbeats 1000000 in
theorem Has_any (A : Option Addr) (c : Nat) (l : L64) (n : Nat) (hn : l.length = n) (hl : n ≤ 65536) (x : BitVec 64) (w : World) (hA : At w w.heap.size A l) :
    Calls Try.prog 19 #[.agg #[.slice A n c], .int .u64 (U x)] w fun e w' => e = .returned (.bool (hasX l x)) ∧ Below w.heap.size w w' := by
  have hbx : Below w.heap.size w (w.alloc (.cells #[.slice A n c] 24)) := (Below.refl _ w).alloc (Nat.le_refl _) _
  unfold hasX
  obtain ⟨y, hy⟩ : ∃ y, rightX l = y := ⟨_, rfl⟩
  rw [hy]
  have HY := Lib.hid hy
  clear hy
  go_enter Try.func19, Try.ntmps19
  go_wp2_with fail
  have hR := Right_any A c l n hn hl _ (hA.later hbx)
  rw [HY.out] at hR
  refine hR.mono ?_
  rintro e w1 ⟨rfl, hB1⟩
  have kx := keep (new_at w _ _ rfl) hB1
  have hB := hbx.trans (hB1.mono hbx.size)
  have x0 := cell_at kx 0
  clear hR hB1 hbx
  cases y with
  | false =>
    go_wp2_with fail
    go_ret
    exact ⟨rfl, hB⟩
  | true =>
    go_wp2_with fail
    refine (contains_any A c l n hn hl x w1 (hA.later hB)).mono ?_
    rintro e w2 ⟨rfl, rfl⟩
    go_wp2_with fail
    go_ret
    exact ⟨rfl, hB⟩
set_option maxRecDepth 100000 in
set_option maxHeartbeats 1000000 in
theorem Count_any (A : Option Addr) (c : Nat) (l : L64) (n : Nat) (hn : l.length = n) (hl : n ≤ 65536) (w : World) (hA : At w w.heap.size A l) :
    Calls Try.prog 20 #[.agg #[.slice A n c]] w fun e w' => e = .returned (.int .u64 (countX l : Nat)) ∧ Below w.heap.size w w' := by
  have hbx : Below w.heap.size w (w.alloc (.cells #[.slice A n c] 24)) := (Below.refl _ w).alloc (Nat.le_refl _) _
  unfold countX
  rw [hn]
  obtain ⟨y, hy⟩ : ∃ y, rightX l = y := ⟨_, rfl⟩
  rw [hy]
  have HY := Lib.hid hy
  have hw : IntKind.u64.wrap (n : Int) = (n : Int) := by rw [IntKind.wrap_u64]; omega
  clear hy
  cases y with
  | false =>
    rw [if_neg Bool.false_ne_true]
    go_enter Try.func20, Try.ntmps20
    go_wp2_with fail
    have hR := Right_any A c l n hn hl _ (hA.later hbx)
    rw [HY.out] at hR
    refine hR.mono ?_
    rintro e w1 ⟨rfl, hB1⟩
    have hB := hbx.trans (hB1.mono hbx.size)
    clear hR hB1 hbx
    go_wp2_with fail
    go_ret
    exact ⟨rfl, hB⟩
  | true =>
    rw [if_pos rfl]
    go_enter Try.func20, Try.ntmps20
    go_wp2_with fail
    have hR := Right_any A c l n hn hl _ (hA.later hbx)
    rw [HY.out] at hR
    refine hR.mono ?_
    rintro e w1 ⟨rfl, hB1⟩
    have kx := keep (new_at w _ _ rfl) hB1
    have hB := hbx.trans (hB1.mono hbx.size)
    have x0 := cell_at kx 0
    clear hR hB1 hbx
    go_wp2_with fail
    go_ret
    exact ⟨rfl, hB⟩
set_option maxRecDepth 100000 in
set_option maxHeartbeats 1000000 in
theorem Same_any (A A' : Option Addr) (c c' : Nat) (l m : L64) (n n' : Nat) (hn : l.length = n) (hn' : m.length = n') (hl : n ≤ 65536) (w : World) (hA : At w w.heap.size A l) (hA' : At w w.heap.size A' m) :
    Calls Try.prog 26 #[.agg #[.slice A n c], .agg #[.slice A' n' c']] w fun e w' => e = .returned (.bool (decide (l = m))) ∧ Below w.heap.size w w' := by
  subst hn hn'
  have hb : Below w.heap.size w ((w.alloc (.cells #[.slice A l.length c] 24)).alloc (.cells #[.slice A' m.length c'] 24)) := ((Below.refl _ w).alloc (Nat.le_refl _) _).alloc (by simp) _
  go_enter Try.func26, Try.ntmps26
  go_wp2_with fail
  refine (equal_any A A' c c' l m hl _ (hA.later hb) (hA'.later hb)).mono ?_
  rintro e w1 ⟨rfl, hB1⟩
  obtain ⟨-, -, hB, -⟩ := duo1 hB1
  clear hB1 hb
  go_wp2_with fail
  go_ret
  exact ⟨rfl, hB⟩
end Go.Proofs.Ythnnbpmpaeddgaa
