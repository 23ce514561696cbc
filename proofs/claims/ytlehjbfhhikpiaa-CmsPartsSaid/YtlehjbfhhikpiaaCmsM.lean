/-
  What is merged: the program's. The list that is told is the call's own.
-/
import Derived.Test.YtlehjbfhhikpiaaCmsL
namespace Go.Proofs.Ytlehjbfhhikpiaa
open Go.RowKit

def pairAt (k : Nat) (l l' : List (BitVec 64)) (i j : Nat) : BitVec 64 × BitVec 64 := (nth l (i * k + j), nth l' (i * k + j))
def mergeOk (R C : Int) (l : List (BitVec 64)) (R' C' : Int) (l' : List (BitVec 64)) : Bool := isRight R C l.length && isRight R' C' l'.length && R == R' && C == C'
def pickCt (b : Bool) (t : Ct) : Ct := if b = true then t else ⟨0, 0, [], 80⟩
def mergeR (R C : Int) (l : List (BitVec 64)) (R' C' : Int) (l' : List (BitVec 64)) : Ct := pickCt (mergeOk R C l R' C' l') ⟨R, C, joinTo C.toNat (pairAt C.toNat l l') R.toNat, 0⟩

theorem trio {w w1 : World} {o1 o2 o3 : Obj} (hB : Below (((w.alloc o1).alloc o2).alloc o3).heap.size (((w.alloc o1).alloc o2).alloc o3) w1) :
    w1.heap[w.heap.size]? = some o1 ∧ w1.heap[w.heap.size + 1]? = some o2 ∧ w1.heap[w.heap.size + 1 + 1]? = some o3 ∧ Below w.heap.size w w1 ∧ w.heap.size + 3 ≤ w1.heap.size :=
  ⟨(hB.block _ (by simp; omega)).trans (old_at (old_at (new_at _ _ _ rfl))), (hB.block _ (by simp)).trans (old_at (new_at _ _ _ (by simp))), (hB.block _ (by simp)).trans (new_at _ _ _ (by simp)),
   ((((Below.refl _ w).alloc (Nat.le_refl _) _).alloc (by simp) _).alloc (by simp; omega) _).trans (hB.mono (by simp; omega)), by have := hB.size; simp at this; omega⟩

/-- Two results: the counters, whose list is the call's own, and what is told. -/
def GivesO (t : Ct) (w : World) (e : Ending) (w' : World) : Prop :=
  Below w.heap.size w w' ∧ ∃ A c, e = .returned (.tuple #[.agg #[.int .i64 t.R, .int .i64 t.C, .slice A t.l.length c], .int .i64 t.e]) ∧ OwnL w' w.heap.size (.slice A t.l.length c) t.l
theorem GivesO.gives {t : Ct} {w w' : World} {e : Ending} (h : GivesO t w e w') : Gives t w e w' := by
  obtain ⟨hB, A, c, he, ho⟩ := h
  exact ⟨hB, A, c, he, ho.at2⟩

set_option maxRecDepth 100000 in
set_option maxHeartbeats 4000000 in
theorem Merge_own (R C : Int) (A : Option Addr) (c : Nat) (l : List (BitVec 64)) (R' C' : Int) (A' : Option Addr) (c' : Nat) (l' : List (BitVec 64)) (w : World) (hA : At w w.heap.size A l) (hA' : At w w.heap.size A' l') :
    Calls Try.prog 24 #[.agg #[.int .i64 R, .int .i64 C, .slice A l.length c], .agg #[.int .i64 R', .int .i64 C', .slice A' l'.length c']] w (GivesO (mergeR R C l R' C' l') w) := by
  unfold mergeR
  obtain ⟨ok, hok⟩ : ∃ ok, mergeOk R C l R' C' l' = ok := ⟨_, rfl⟩
  rw [hok]
  unfold mergeOk at hok
  go_enter Try.func24, Try.ntmps24
  go_wp2_with fail
  have hb3 : Below w.heap.size w (((w.alloc (.cells #[.int .i64 R, .int .i64 C, .slice A l.length c] 24)).alloc (.cells #[.int .i64 R', .int .i64 C', .slice A' l'.length c'] 24)).alloc (.cells #[.int .i64 0, .int .i64 0, .slice none 0 0] 24)) := (((Below.refl _ w).alloc (Nat.le_refl _) _).alloc (by simp) _).alloc (by simp; omega) _
  refine (start_any R C A c l _ ((hA.below hb3).mono (by simp; omega))).mono ?_
  rintro e w1 ⟨hB1, hR⟩
  obtain ⟨kx, ky, kr, hBw1, hs1⟩ := trio hB1
  have d0 := cell_at kr 0
  have d1 := cell_at kr 1
  have d2 := cell_at kr 2
  have f0 := free_at kr 0
  have f1 := free_at kr 1
  have f2 := free_at kr 2
  clear hb3 hB1
  have hbad : ∀ w2 : World, Below w1.heap.size w1 w2 → Calls Try.prog 31 #[.iface 50 (.agg #[])] w2 fun e w3 => e = .returned (.int .i64 80) ∧ Below w.heap.size w w3 ∧ w3.heap[w.heap.size + 1 + 1]? = some (.cells #[.int .i64 0, .int .i64 0, .slice none 0 0] 24) := fun w2 h2 =>
    (told_wrong w2).mono fun e w3 ⟨he, hb⟩ => ⟨he, (hBw1.trans (h2.mono (by omega))).trans (hb.mono (Nat.le_trans hBw1.size h2.size)), (hb.block _ (by have := h2.size; omega)).trans ((h2.block _ (by omega)).trans kr)⟩
  have HBad := Lib.hid hbad
  clear hbad
  rcases hR with ⟨hR, rfl⟩ | ⟨hR, g, g2, hg, hg2, rfl, hW⟩
  · rw [hR] at hok
    simp only [Bool.false_and] at hok
    subst hok
    clear hR d0 d1 d2 f0 f1 f2
    go_wp2_with fail
    refine (HBad.out w1 (Below.refl _ _)).mono ?_
    rintro e w3 ⟨rfl, hB3, kr3⟩
    have d0 := cell_at kr3 0
    have d1 := cell_at kr3 1
    have d2 := cell_at kr3 2
    have f0 := free_at kr3 0
    have f1 := free_at kr3 1
    have f2 := free_at kr3 2
    go_wp2_with fail
    refine bodyPost_ret (v := .tuple #[.agg #[.int .i64 0, .int .i64 0, .slice none 0 0], .int .i64 80]) ?_ rfl ⟨?_, none, 0, rfl, OwnL.nil _ _⟩
    · simp [results, Try.results24, go_sem, d0, d1, d2]
    · exact ((hB3.setCell (by simp; omega) _).setCell (by simp; omega) _).setCell (by simp; omega) _
  · have hRR := hR
    rw [hR] at hok
    obtain ⟨r, k, rfl, rfl, hr, hr4, hk, hn⟩ := isRight_out hR
    have x0 := cell_at kx 0
    have x1 := cell_at kx 1
    have y0 := cell_at ky 0
    have y1 := cell_at ky 1
    have y2 := cell_at ky 2
    have hlt0 : 0 < l.length := by rw [hn]; exact Nat.mul_pos (by omega) (by omega)
    have HN := Lib.hid hn
    have HK := Lib.hid hk
    have HRR := Lib.hid hRR
    clear hR hRR hn hk
    by_cases hY : isRight R' C' l'.length = true
    · rw [hY] at hok
      have hry := right_any R' C' A' l'.length c'
      rw [hY] at hry
      have HRY := Lib.hid hry
      have HY := Lib.hid hY
      clear hry hY
      by_cases hRe : (r : Int) = R'
      · subst hRe
        by_cases hCe : (k : Int) = C'
        · subst hCe
          simp only [Bool.and_self, beq_self_eq_true] at hok
          subst hok
          go_wp2_with fail
          refine (HRY.out _).mono ?_
          rintro e w2 ⟨rfl, hB2⟩
          have kx2 := (hB2.block _ (by omega)).trans kx
          have ky2 := (hB2.block _ (by omega)).trans ky
          have kr2 := (hB2.block _ (by omega)).trans kr
          have hBw2 := hBw1.trans (hB2.mono (by omega))
          have hs2 := hB2.size
          have hg2' := (hB2.block g (Array.getElem?_eq_some_iff.1 hW.1).1).trans hW.1
          clear x0 x1 y0 y1 y2 d0 d1 d2 f0 f1 f2 kx ky kr
          have x0 := cell_at kx2 0
          have x1 := cell_at kx2 1
          have y0 := cell_at ky2 0
          have y1 := cell_at ky2 1
          have hn := HN.out
          have hk := HK.out
          have hn' : l'.length = r * k := by
            have h := HY.out
            unfold isRight at h
            simp only [Bool.and_eq_true, beq_iff_eq] at h
            have e : ((r * k : Nat) : Int) = (r : Int) * (k : Int) := by simp
            omega
          obtain ⟨b, o, hAe, hb, hc⟩ := hA hlt0
          obtain ⟨b', o', hAe', hb', hc'⟩ := hA' (by omega)
          have hcl : ∀ (W : World) (i j : Nat), Below w2.heap.size w2 W → i < r → j < k → Calls Try.prog 39 #[.int .i64 (i : Int), .int .i64 (j : Int), .pointer (some ⟨w.heap.size, 0, none⟩), .pointer (some ⟨w.heap.size + 1, 0, none⟩)] W fun e w' =>
              ∃ g, e = .returned (.slice (some ⟨g, 0, none⟩) 2 2) ∧ w'.cell? ⟨g, 0, none⟩ = some (.int .u64 (U (pairAt k l l' i j).1)) ∧ w'.cell? ⟨g, 1, none⟩ = some (.int .u64 (U (pairAt k l l' i j).2)) ∧ Below W.heap.size W w' := by
            intro W i j hBW hi hj
            have hij : i * k + j < r * k := by
              have h1 : (i + 1) * k ≤ r * k := Nat.mul_le_mul_right _ hi
              rw [Nat.add_mul, Nat.one_mul] at h1
              omega
            have hBall := hBw2.trans (hBW.mono hBw2.size)
            refine merge1_any (r : Int) (k : Int) A A' (r : Int) (k : Int) l.length c c' w.heap.size (w.heap.size + 1) i j k _ _ b o b' o' rfl (by omega) (by omega) (by omega) hAe hAe' W ((hBW.block _ (by omega)).trans kx2) ?_ (by omega) ?_ ?_
            · have e := (hBW.block _ (by omega)).trans ky2
              rw [hn', ← hn] at e
              exact e
            · exact (hBall.cell (p := ⟨b, o + (i * k + j), none⟩) hb).trans (hc _ (by omega))
            · exact (hBall.cell (p := ⟨b', o' + (i * k + j), none⟩) hb').trans (hc' _ (by omega))
          have hjoin := joinM_any g w.heap.size (w.heap.size + 1) r k hr4 (by omega) (pairAt k l l') w2 (cell_at hg2' 0) hcl
          have HJ := Lib.hid hjoin
          clear hjoin hcl hn hk hn' hAe hAe' hc hc'
          go_wp2_with fail
          refine HJ.out.mono ?_
          rintro e w5 ⟨hB5, A5, c5, rfl, hlc5, h5⟩
          have kr5 := (hB5.block _ (by omega)).trans kr2
          have hBw5 := hBw2.trans (hB5.mono hBw2.size)
          have d0 := cell_at kr5 0
          have d1 := cell_at kr5 1
          have d2 := cell_at kr5 2
          have f0 := free_at kr5 0
          have f1 := free_at kr5 1
          have f2 := free_at kr5 2
          have HOwn := Lib.hid h5
          clear h5
          go_wp2_with fail
          refine bodyPost_ret (v := .tuple #[.agg #[.int .i64 (r : Int), .int .i64 (k : Int), .slice A5 (joinTo k (pairAt k l l') r).length c5], .int .i64 0]) ?_ rfl ⟨?_, A5, c5, rfl, ?_⟩
          · simp [results, Try.results24, go_sem, d0, d1, d2]
          · exact ((hBw5.setCell (by simp; omega) _).setCell (by simp; omega) _).setCell (by simp; omega) _
          · have e : ∀ (W : World) v i k, w2.heap.size ≤ k → (W.setCell ⟨w.heap.size + 1 + 1, i, none⟩ v).heap[k]? = W.heap[k]? := fun W v i k hk => Below.heap_setCell W ⟨w.heap.size + 1 + 1, i, none⟩ v k (by show k ≠ w.heap.size + 1 + 1; omega)
            exact OwnL.mono hBw2.size (HOwn.out.of (fun k hk _ => (e _ _ _ k hk).trans ((e _ _ _ k hk).trans (e _ _ _ k hk))))
        · have hne : ((k : Int) == C') = false := by rw [beq_eq_false_iff_ne]; exact hCe
          have hne2 : ((k : Int) != C') = true := by rw [bne_iff_ne]; exact hCe
          simp only [hne, Bool.and_false] at hok
          subst hok
          clear hne hCe
          go_wp2_with fail
          refine (HRY.out _).mono ?_
          rintro e w2 ⟨rfl, hB2⟩
          have kx2 := (hB2.block _ (by omega)).trans kx
          have ky2 := (hB2.block _ (by omega)).trans ky
          clear x0 x1 y0 y1 y2 d0 d1 d2 f0 f1 f2 kx ky
          have x0 := cell_at kx2 0
          have x1 := cell_at kx2 1
          have y0 := cell_at ky2 0
          have y1 := cell_at ky2 1
          go_wp2_with fail
          refine (HBad.out w2 hB2).mono ?_
          rintro e w3 ⟨rfl, hB3, kr3⟩
          have d0 := cell_at kr3 0
          have d1 := cell_at kr3 1
          have d2 := cell_at kr3 2
          have f0 := free_at kr3 0
          have f1 := free_at kr3 1
          have f2 := free_at kr3 2
          go_wp2_with fail
          refine bodyPost_ret (v := .tuple #[.agg #[.int .i64 0, .int .i64 0, .slice none 0 0], .int .i64 80]) ?_ rfl ⟨?_, none, 0, rfl, OwnL.nil _ _⟩
          · simp [results, Try.results24, go_sem, d0, d1, d2]
          · exact ((hB3.setCell (by simp; omega) _).setCell (by simp; omega) _).setCell (by simp; omega) _
      · have hne : ((r : Int) == R') = false := by rw [beq_eq_false_iff_ne]; exact hRe
        have hne2 : ((r : Int) != R') = true := by rw [bne_iff_ne]; exact hRe
        simp only [hne, Bool.and_false, Bool.false_and] at hok
        subst hok
        clear hne hRe
        go_wp2_with fail
        refine (HRY.out _).mono ?_
        rintro e w2 ⟨rfl, hB2⟩
        have kx2 := (hB2.block _ (by omega)).trans kx
        have ky2 := (hB2.block _ (by omega)).trans ky
        clear x0 x1 y0 y1 y2 d0 d1 d2 f0 f1 f2 kx ky
        have x0 := cell_at kx2 0
        have x1 := cell_at kx2 1
        have y0 := cell_at ky2 0
        have y1 := cell_at ky2 1
        go_wp2_with fail
        refine (HBad.out w2 hB2).mono ?_
        rintro e w3 ⟨rfl, hB3, kr3⟩
        have d0 := cell_at kr3 0
        have d1 := cell_at kr3 1
        have d2 := cell_at kr3 2
        have f0 := free_at kr3 0
        have f1 := free_at kr3 1
        have f2 := free_at kr3 2
        go_wp2_with fail
        refine bodyPost_ret (v := .tuple #[.agg #[.int .i64 0, .int .i64 0, .slice none 0 0], .int .i64 80]) ?_ rfl ⟨?_, none, 0, rfl, OwnL.nil _ _⟩
        · simp [results, Try.results24, go_sem, d0, d1, d2]
        · exact ((hB3.setCell (by simp; omega) _).setCell (by simp; omega) _).setCell (by simp; omega) _
    · rw [Bool.not_eq_true] at hY
      rw [hY] at hok
      simp only [Bool.and_false, Bool.false_and] at hok
      subst hok
      have hry := right_any R' C' A' l'.length c'
      rw [hY] at hry
      have HRY := Lib.hid hry
      clear hry hY
      go_wp2_with fail
      refine (HRY.out _).mono ?_
      rintro e w2 ⟨rfl, hB2⟩
      have kx2 := (hB2.block _ (by omega)).trans kx
      have ky2 := (hB2.block _ (by omega)).trans ky
      clear x0 x1 y0 y1 y2 d0 d1 d2 f0 f1 f2 kx ky
      have x0 := cell_at kx2 0
      have x1 := cell_at kx2 1
      have y0 := cell_at ky2 0
      have y1 := cell_at ky2 1
      go_wp2_with fail
      refine (HBad.out w2 hB2).mono ?_
      rintro e w3 ⟨rfl, hB3, kr3⟩
      have d0 := cell_at kr3 0
      have d1 := cell_at kr3 1
      have d2 := cell_at kr3 2
      have f0 := free_at kr3 0
      have f1 := free_at kr3 1
      have f2 := free_at kr3 2
      go_wp2_with fail
      refine bodyPost_ret (v := .tuple #[.agg #[.int .i64 0, .int .i64 0, .slice none 0 0], .int .i64 80]) ?_ rfl ⟨?_, none, 0, rfl, OwnL.nil _ _⟩
      · simp [results, Try.results24, go_sem, d0, d1, d2]
      · exact ((hB3.setCell (by simp; omega) _).setCell (by simp; omega) _).setCell (by simp; omega) _
theorem Merge_gives (R C : Int) (A : Option Addr) (c : Nat) (l : List (BitVec 64)) (R' C' : Int) (A' : Option Addr) (c' : Nat) (l' : List (BitVec 64)) (w : World) (hA : At w w.heap.size A l) (hA' : At w w.heap.size A' l') :
    Calls Try.prog 24 #[.agg #[.int .i64 R, .int .i64 C, .slice A l.length c], .agg #[.int .i64 R', .int .i64 C', .slice A' l'.length c']] w (Gives (mergeR R C l R' C' l') w) :=
  (Merge_own R C A c l R' C' A' c' l' w hA hA').mono fun _ _ h => h.gives
end Go.Proofs.Ytlehjbfhhikpiaa
