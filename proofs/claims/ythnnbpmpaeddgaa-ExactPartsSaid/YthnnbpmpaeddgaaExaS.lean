/-
  What the statements on sketches share: results as they see them, the head, lists cut.
-/
import Derived.Test.YthnnbpmpaeddgaaExaI
namespace Go.Proofs.Ythnnbpmpaeddgaa
open Go.RowKit Go.Shelf

/-- Two results, of numbers that are known. -/
def GivesA (l : L64) (N : Nat) (k : Int) (w : World) (e : Ending) (w' : World) : Prop :=
  Below w.heap.size w w' ∧ ∃ A c, e = .returned (.tuple #[.agg #[.slice A N c], .int .i64 k]) ∧ At w' w'.heap.size A l
theorem GivesX.a {t : Xt} {w w' : World} {e : Ending} {l : L64} {N : Nat} {k : Int} (h : GivesX t w e w') (hl : t = ⟨l, k⟩) (hN : l.length = N) : GivesA l N k w e w' := by
  subst hl
  obtain ⟨hB, A, c, rfl, ho⟩ := h
  exact ⟨hB, A, c, by show Ending.returned (.tuple #[.agg #[.slice A l.length c], .int .i64 k]) = _; rw [hN], ho.at2⟩
theorem Of_at {t : Xt} {l : L64} {N : Nat} {k : Int} (A : Option Addr) (c : Nat) (L : L64) (n : Nat) (ht : capX (ofX L) = t) (hl : t = ⟨l, k⟩) (hN : l.length = N) (hn : L.length = n) (hn2 : n ≤ 60000) (w : World) (hA : At w w.heap.size A L) :
    Calls Try.prog 17 #[.slice A n c] w (GivesA l N k w) := (Of_gives A c L n hn hn2 w hA).mono fun _ _ h => GivesX.a h (ht.trans hl) hN
theorem refOf_at {t : Xt} {l : L64} {N : Nat} {k : Int} (A : Option Addr) (c : Nat) (L : L64) (n : Nat) (ht : capX (ofX L) = t) (hl : t = ⟨l, k⟩) (hN : l.length = N) (hn : L.length = n) (hn2 : n ≤ 60000) (w : World) (hA : At w w.heap.size A L) :
    Calls Try.prog 21 #[.slice A n c] w (GivesA l N k w) := (refOf_gives A c L n hn hn2 w hA).mono fun _ _ h => GivesX.a h (ht.trans hl) hN
theorem Add_at {t : Xt} {l : L64} {N : Nat} {k : Int} (A : Option Addr) (c : Nat) (L : L64) (n : Nat) (x : BitVec 64) (ht : mergeX L [x] = t) (hl : t = ⟨l, k⟩) (hN : l.length = N) (hn : L.length = n) (hn2 : n ≤ 50000) (w : World) (hA : At w w.heap.size A L) :
    Calls Try.prog 12 #[.agg #[.slice A n c], .int .u64 (U x)] w (GivesA l N k w) := (Add_gives A c L n hn (by omega) x w hA).mono fun _ _ h => GivesX.a h (ht.trans hl) hN
theorem refAdd_at {t : Xt} {l : L64} {N : Nat} {k : Int} (A : Option Addr) (c : Nat) (L : L64) (n : Nat) (x : BitVec 64) (ht : mergeX L [x] = t) (hl : t = ⟨l, k⟩) (hN : l.length = N) (hn : L.length = n) (hn2 : n ≤ 50000) (w : World) (hA : At w w.heap.size A L) :
    Calls Try.prog 13 #[.agg #[.slice A n c], .int .u64 (U x)] w (GivesA l N k w) := (refAdd_gives A c L n hn hn2 x w hA).mono fun _ _ h => GivesX.a h (ht.trans hl) hN
theorem Merge_at {t : Xt} {l : L64} {N : Nat} {k : Int} (A A' : Option Addr) (c c' : Nat) (L M : L64) (n m : Nat) (ht : mergeX L M = t) (hl : t = ⟨l, k⟩) (hN : l.length = N) (hn : L.length = n) (hm : M.length = m) (hn2 : n ≤ 50000) (hm2 : m ≤ 50000) (w : World) (hA : At w w.heap.size A L) (hA' : At w w.heap.size A' M) :
    Calls Try.prog 14 #[.agg #[.slice A n c], .agg #[.slice A' m c']] w (GivesA l N k w) := (Merge_gives A A' c c' L M n m hn hm (by omega) (by omega) w hA hA').mono fun _ _ h => GivesX.a h (ht.trans hl) hN
theorem refMerge_at {t : Xt} {l : L64} {N : Nat} {k : Int} (A A' : Option Addr) (c c' : Nat) (L M : L64) (n m : Nat) (ht : mergeX L M = t) (hl : t = ⟨l, k⟩) (hN : l.length = N) (hn : L.length = n) (hm : M.length = m) (hn2 : n ≤ 50000) (hm2 : m ≤ 50000) (w : World) (hA : At w w.heap.size A L) (hA' : At w w.heap.size A' M) :
    Calls Try.prog 15 #[.agg #[.slice A n c], .agg #[.slice A' m c']] w (GivesA l N k w) := (refMerge_gives A A' c c' L M n m hn hm (by omega) (by omega) w hA hA').mono fun _ _ h => GivesX.a h (ht.trans hl) hN
theorem numbers_self (A A' : Option Addr) (c c' : Nat) (l : L64) (n : Nat) (hn : l.length = n) (hn2 : n ≤ 65536) (w : World) (hA : At w w.heap.size A l) (hA' : At w w.heap.size A' l) :
    Calls Try.prog 16 #[.slice A n c, .slice A' n c'] w fun e w' => e = .returned (.bool true) ∧ Below w.heap.size w w' := by
  subst hn
  have h := numbers_any A A' c c' l l hn2 w hA hA'
  rw [decide_eq_true rfl] at h
  exact h
theorem numbers_at (A A' : Option Addr) (c c' : Nat) (l m : L64) (n n' : Nat) (hn : l.length = n) (hn' : m.length = n') (hn2 : n ≤ 65536) (w : World) (hA : At w w.heap.size A l) (hA' : At w w.heap.size A' m) :
    Calls Try.prog 16 #[.slice A n c, .slice A' n' c'] w fun e w' => e = .returned (.bool (decide (l = m))) ∧ Below w.heap.size w w' := by
  subst hn hn'
  exact numbers_any A A' c c' l m hn2 w hA hA'
theorem same_self (A A' : Option Addr) (c c' : Nat) (l : L64) (n : Nat) (hn : l.length = n) (hn2 : n ≤ 65536) (w : World) (hA : At w w.heap.size A l) (hA' : At w w.heap.size A' l) :
    Calls Try.prog 26 #[.agg #[.slice A n c], .agg #[.slice A' n c']] w fun e w' => e = .returned (.bool true) ∧ Below w.heap.size w w' := by
  have h := Same_any A A' c c' l l n n hn hn hn2 w hA hA'
  rw [decide_eq_true rfl] at h
  exact h

theorem known1 : capX (ofX [5#64, 3#64, 5#64]) = ⟨[3#64, 5#64], 0⟩ := by rfl
theorem known2 : mergeX [3#64, 5#64] [4#64] = ⟨[3#64, 4#64, 5#64], 0⟩ := by rfl
theorem known3 : mergeX [2#64, 1#64] [4#64] = ⟨[], 60⟩ := by rfl
theorem known4 : hasX [3#64, 4#64, 5#64] 4#64 = true := by rfl
theorem known5 : countX [3#64, 4#64, 5#64] = 3 := by rfl
theorem U3 : U 3#64 = 3 := by decide +kernel
theorem U4 : U 4#64 = 4 := by decide +kernel
theorem U5 : U 5#64 = 5 := by decide +kernel
theorem U2 : U 2#64 = 2 := by decide +kernel
theorem U1 : U 1#64 = 1 := by decide +kernel
theorem row_of {w : World} {b : Nat} {T : TypeId} {cs : Array Value} {l : L64} (h : w.heap[b]? = some (.cells cs T (0, 0))) (e : (l.map enc64).toArray = cs) : At w w.heap.size (some ⟨b, 0, none⟩) l := by
  subst e
  exact Row.at_ h (Array.getElem?_eq_some_iff.1 h).1

-- PRINTED by gen_exa.py from here on
set_option maxRecDepth 100000 in
set_option maxHeartbeats 4000000 in
theorem shown_any (w : World) : Calls Try.prog 10 #[] w fun e w' => e = .returned (.bool true) ∧ Below w.heap.size w w' := by
  go_enter Try.func10, Try.ntmps10
  have hB : Below w.heap.size w w := Below.refl _ w
  go_wp2_with fail
  have hA : Below w.heap.size w (w.alloc (.cells #[.int .u64 5, .int .u64 3, .int .u64 5] 25)) := (Below.refl _ w).alloc (Nat.le_refl _) _
  replace hB := hB.trans (hA.mono hB.size)
  have k_s := new_at w (.cells #[.int .u64 5, .int .u64 3, .int .u64 5] 25) _ rfl
  obtain ⟨b_s, hb⟩ : ∃ b, w.heap.size = b := ⟨_, rfl⟩
  rw [hb] at k_s ⊢
  clear hA hb
  generalize w.alloc (.cells #[.int .u64 5, .int .u64 3, .int .u64 5] 25) = u1 at *
  have a_s := row_of (l := [5#64, 3#64, 5#64]) k_s (by simp [enc64, U3, U5])
  refine (Of_at (t := ⟨[3#64, 5#64], 0⟩) _ 3 [5#64, 3#64, 5#64] 3 known1 rfl (N := 2) rfl rfl (by omega) _ a_s).mono ?_
  rintro e u2 ⟨hC, A_x, c_x, rfl, a_x⟩
  replace k_s := keep k_s hC
  replace hB := hB.trans (hC.mono hB.size)
  clear hC
  go_wp2_with fail
  have hA : Below u2.heap.size u2 (u2.alloc (.cells #[.slice A_x 2 c_x] 24)) := (Below.refl _ u2).alloc (Nat.le_refl _) _
  replace k_s := keep k_s hA
  replace a_x := a_x.later hA
  replace hB := hB.trans (hA.mono hB.size)
  have k_x := new_at u2 (.cells #[.slice A_x 2 c_x] 24) _ rfl
  obtain ⟨b_x, hb⟩ : ∃ b, u2.heap.size = b := ⟨_, rfl⟩
  rw [hb] at k_x ⊢
  clear hA hb
  generalize u2.alloc (.cells #[.slice A_x 2 c_x] 24) = u3 at *
  clear u2
  have h4 := fun A c w h => Add_at (t := ⟨[3#64, 4#64, 5#64], 0⟩) A c [3#64, 5#64] 2 4#64 known2 rfl (N := 3) rfl rfl (by omega) w h
  simp only [U4] at h4
  have H4 := Lib.hid h4
  clear h4
  refine (H4.out _ c_x _ a_x).mono ?_
  rintro e u4 ⟨hC, A_y, c_y, rfl, a_y⟩
  replace k_s := keep k_s hC
  replace a_x := a_x.later hC
  replace k_x := keep k_x hC
  replace hB := hB.trans (hC.mono hB.size)
  clear hC
  go_wp2_with fail
  have hA : Below u4.heap.size u4 ((u4.alloc (.cells #[.slice A_y 3 c_y] 24)).alloc (.cells #[.int .u64 2, .int .u64 1] 25)) := ((Below.refl _ u4).alloc (Nat.le_refl _) _).alloc (by simp) _
  have hq0 := hB.size
  replace k_s := keep k_s hA
  replace a_x := a_x.later hA
  replace k_x := keep k_x hA
  replace a_y := a_y.later hA
  replace hB := hB.trans (hA.mono hB.size)
  have k_y : ((u4.alloc (.cells #[.slice A_y 3 c_y] 24)).alloc (.cells #[.int .u64 2, .int .u64 1] 25)).heap[u4.heap.size]? = some (.cells #[.slice A_y 3 c_y] 24 (0, 0)) := old_at (new_at _ _ _ rfl)
  have k_t : ((u4.alloc (.cells #[.slice A_y 3 c_y] 24)).alloc (.cells #[.int .u64 2, .int .u64 1] 25)).heap[u4.heap.size + 1]? = some (.cells #[.int .u64 2, .int .u64 1] 25 (0, 0)) := new_at _ _ _ (by simp)
  obtain ⟨b_t, hb1⟩ : ∃ b, u4.heap.size + 1 = b := ⟨_, rfl⟩
  have q_t : w.heap.size ≤ b_t := by omega
  rw [hb1] at k_t ⊢
  obtain ⟨b_y, hb0⟩ : ∃ b, u4.heap.size = b := ⟨_, rfl⟩
  have q_y : w.heap.size ≤ b_y := by omega
  rw [hb0] at k_y ⊢
  have lt_y_t : b_y < b_t := by omega
  clear hA hq0 hb0 hb1
  generalize ((u4.alloc (.cells #[.slice A_y 3 c_y] 24)).alloc (.cells #[.int .u64 2, .int .u64 1] 25)) = u5 at *
  clear u4
  have a_t := row_of (l := [2#64, 1#64]) k_t (by simp [enc64, U2, U1])
  have h4 := fun A c w h => Add_at (t := ⟨[], 60⟩) A c [2#64, 1#64] 2 4#64 known3 rfl (N := 0) rfl rfl (by omega) w h
  simp only [U4] at h4
  have H4 := Lib.hid h4
  clear h4
  refine (H4.out _ 2 _ a_t).mono ?_
  rintro e u6 ⟨hC, A_z, c_z, rfl, a_z⟩
  clear a_z
  replace k_s := keep k_s hC
  replace a_x := a_x.later hC
  replace k_x := keep k_x hC
  replace a_y := a_y.later hC
  replace k_y := keep k_y hC
  replace k_t := keep k_t hC
  replace hB := hB.trans (hC.mono hB.size)
  clear hC
  have x_x_0 := cell_at k_x 0
  have x_x_0o1 := fun o0 => old_cell (x_x_0) o0
  have x_x_0o2 := fun o0 o1 => old_cell (old_cell (x_x_0) o0) o1
  go_wp2_with fail
  clear x_x_0 x_x_0o1 x_x_0o2
  have hA : Below u6.heap.size u6 ((u6.alloc (.cells #[.slice A_z 0 c_z] 24)).alloc (.cells #[.int .u64 3, .int .u64 5] 25)) := ((Below.refl _ u6).alloc (Nat.le_refl _) _).alloc (by simp) _
  have hq0 := hB.size
  replace k_s := keep k_s hA
  replace a_x := a_x.later hA
  replace k_x := keep k_x hA
  replace a_y := a_y.later hA
  replace k_y := keep k_y hA
  replace k_t := keep k_t hA
  replace hB := hB.trans (hA.mono hB.size)
  have k_z : ((u6.alloc (.cells #[.slice A_z 0 c_z] 24)).alloc (.cells #[.int .u64 3, .int .u64 5] 25)).heap[u6.heap.size]? = some (.cells #[.slice A_z 0 c_z] 24 (0, 0)) := old_at (new_at _ _ _ rfl)
  have k_v : ((u6.alloc (.cells #[.slice A_z 0 c_z] 24)).alloc (.cells #[.int .u64 3, .int .u64 5] 25)).heap[u6.heap.size + 1]? = some (.cells #[.int .u64 3, .int .u64 5] 25 (0, 0)) := new_at _ _ _ (by simp)
  obtain ⟨b_v, hb1⟩ : ∃ b, u6.heap.size + 1 = b := ⟨_, rfl⟩
  have q_v : w.heap.size ≤ b_v := by omega
  rw [hb1] at k_v ⊢
  obtain ⟨b_z, hb0⟩ : ∃ b, u6.heap.size = b := ⟨_, rfl⟩
  have q_z : w.heap.size ≤ b_z := by omega
  rw [hb0] at k_z ⊢
  have lt_z_v : b_z < b_v := by omega
  clear hA hq0 hb0 hb1
  generalize ((u6.alloc (.cells #[.slice A_z 0 c_z] 24)).alloc (.cells #[.int .u64 3, .int .u64 5] 25)) = u7 at *
  clear u6
  have a_v := row_of (l := [3#64, 5#64]) k_v (by simp [enc64, U3, U5])
  refine (numbers_self _ _ c_x 2 [3#64, 5#64] 2 rfl (by omega) _ a_x a_v).mono ?_
  rintro e u8 ⟨rfl, hC⟩
  replace k_s := keep k_s hC
  replace a_x := a_x.later hC
  replace k_x := keep k_x hC
  replace a_y := a_y.later hC
  replace k_y := keep k_y hC
  replace k_t := keep k_t hC
  replace k_z := keep k_z hC
  replace k_v := keep k_v hC
  replace hB := hB.trans (hC.mono hB.size)
  clear hC
  have x_y_0 := cell_at k_y 0
  go_wp2_with fail
  clear x_y_0
  have h4 := fun A c w h => Has_any A c [3#64, 4#64, 5#64] 3 rfl (by omega) 4#64 w h
  simp only [U4, known4] at h4
  have H4 := Lib.hid h4
  clear h4
  refine (H4.out _ c_y _ a_y).mono ?_
  rintro e u9 ⟨rfl, hC⟩
  replace k_s := keep k_s hC
  replace a_x := a_x.later hC
  replace k_x := keep k_x hC
  replace a_y := a_y.later hC
  replace k_y := keep k_y hC
  replace k_t := keep k_t hC
  replace k_z := keep k_z hC
  replace k_v := keep k_v hC
  replace hB := hB.trans (hC.mono hB.size)
  clear hC
  have x_y_0 := cell_at k_y 0
  go_wp2_with fail
  clear x_y_0
  have h4 := fun A c w h => Count_any A c [3#64, 4#64, 5#64] 3 rfl (by omega) w h
  simp only [known5] at h4
  have H4 := Lib.hid h4
  clear h4
  refine (H4.out _ c_y _ a_y).mono ?_
  rintro e u10 ⟨rfl, hC⟩
  replace k_s := keep k_s hC
  replace a_x := a_x.later hC
  replace k_x := keep k_x hC
  replace a_y := a_y.later hC
  replace k_y := keep k_y hC
  replace k_t := keep k_t hC
  replace k_z := keep k_z hC
  replace k_v := keep k_v hC
  replace hB := hB.trans (hC.mono hB.size)
  clear hC
  go_wp2_with fail
  go_ret
  exact ⟨rfl, hB⟩

set_option maxRecDepth 100000 in
set_option maxHeartbeats 4000000 in
theorem Few_any (A : Option Addr) (n c m : Nat) (hm : min n 70 = m) (hnc : n ≤ c) (w : World) : Calls Try.prog 11 #[.agg #[.slice A n c]] w fun e w' => e = .returned (.agg #[.slice A m c]) ∧ Below w.heap.size w w' := by
  have hmi : (if 70 < (n : Int) then (70 : Int) else (n : Int)) = (m : Int) := by split <;> omega
  have hmc : m ≤ c := by omega
  clear hm
  go_enter Try.func11, Try.ntmps11
  go_wp2_with fail
  refine bodyPost_ret (v := .agg #[.slice A m c]) ?_ rfl ⟨rfl, ?_⟩
  · simp [results, Try.results11, go_sem]
  · exact ((Below.refl _ w).alloc (Nat.le_refl _) _).alloc (by simp) _
set_option maxRecDepth 100000 in
set_option maxHeartbeats 4000000 in
theorem few_any (A : Option Addr) (n c m : Nat) (hm : min n 100 = m) (hnc : n ≤ c) (w : World) : Calls Try.prog 18 #[.slice A n c] w fun e w' => e = .returned (.slice A m c) ∧ w' = w := by
  have hmi : (if 100 < (n : Int) then (100 : Int) else (n : Int)) = (m : Int) := by split <;> omega
  have hmc : m ≤ c := by omega
  clear hm
  go_enter Try.func18, Try.ntmps18
  go_wp2_with fail
  go_ret
  exact ⟨rfl, rfl⟩
end Go.Proofs.Ythnnbpmpaeddgaa
