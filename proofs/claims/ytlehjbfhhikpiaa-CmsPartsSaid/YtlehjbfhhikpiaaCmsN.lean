/-
  What is lowered: the program's.
-/
import Derived.Test.YtlehjbfhhikpiaaCmsM
namespace Go.Proofs.Ytlehjbfhhikpiaa
open Go.RowKit

def lowPair (k : Nat) (l : List (BitVec 64)) (i j : Nat) : BitVec 64 × BitVec 64 := (nth l (i * k + j), nth l (i * k + j + k / 2))
def lowerR (R C : Int) (l : List (BitVec 64)) : Ct := pickCt (isRight R C l.length && !(C == 4)) ⟨R, ((C.toNat / 2 : Nat) : Int), joinTo (C.toNat / 2) (lowPair C.toNat l) R.toNat, 0⟩
theorem duo {w w1 : World} {o1 o2 : Obj} (hB : Below ((w.alloc o1).alloc o2).heap.size ((w.alloc o1).alloc o2) w1) :
    w1.heap[w.heap.size]? = some o1 ∧ w1.heap[w.heap.size + 1]? = some o2 ∧ Below w.heap.size w w1 ∧ w.heap.size + 2 ≤ w1.heap.size :=
  ⟨(hB.block _ (by simp; omega)).trans (old_at (new_at _ _ _ rfl)), (hB.block _ (by simp)).trans (new_at _ _ _ (by simp)),
   (((Below.refl _ w).alloc (Nat.le_refl _) _).alloc (by simp) _).trans (hB.mono (by simp; omega)), by have := hB.size; simp at this; omega⟩

set_option maxRecDepth 100000 in
set_option maxHeartbeats 4000000 in
theorem Lower_gives (R C : Int) (A : Option Addr) (c : Nat) (l : List (BitVec 64)) (w : World) (hA : At w w.heap.size A l) :
    Calls Try.prog 26 #[.agg #[.int .i64 R, .int .i64 C, .slice A l.length c]] w (Gives (lowerR R C l) w) := by
  unfold lowerR
  obtain ⟨ok, hok⟩ : ∃ ok, (isRight R C l.length && !(C == 4)) = ok := ⟨_, rfl⟩
  rw [hok]
  go_enter Try.func26, Try.ntmps26
  go_wp2_with fail
  have hb3 : Below w.heap.size w ((w.alloc (.cells #[.int .i64 R, .int .i64 C, .slice A l.length c] 24)).alloc (.cells #[.int .i64 0, .int .i64 0, .slice none 0 0] 24)) := ((Below.refl _ w).alloc (Nat.le_refl _) _).alloc (by simp) _
  refine (start_any R C A c l _ ((hA.below hb3).mono (by simp; omega))).mono ?_
  rintro e w1 ⟨hB1, hR⟩
  obtain ⟨kx, kr, hBw1, hs1⟩ := duo hB1
  clear hb3 hB1
  have hbad : Calls Try.prog 31 #[.iface 50 (.agg #[])] w1 fun e w3 => e = .returned (.int .i64 80) ∧ Below w.heap.size w w3 ∧ w3.heap[w.heap.size + 1]? = some (.cells #[.int .i64 0, .int .i64 0, .slice none 0 0] 24) :=
    (told_wrong w1).mono fun e w3 ⟨he, hb⟩ => ⟨he, hBw1.trans (hb.mono hBw1.size), (hb.block _ (by omega)).trans kr⟩
  have HBad := Lib.hid hbad
  clear hbad
  rcases hR with ⟨hR, rfl⟩ | ⟨hR, g, g2, hg, hg2, rfl, hW⟩
  · rw [hR] at hok
    simp only [Bool.false_and] at hok
    subst hok
    clear hR
    go_wp2_with fail
    refine HBad.out.mono ?_
    rintro e w3 ⟨rfl, hB3, kr3⟩
    have d0 := cell_at kr3 0
    have d1 := cell_at kr3 1
    have d2 := cell_at kr3 2
    have f0 := free_at kr3 0
    have f1 := free_at kr3 1
    have f2 := free_at kr3 2
    go_wp2_with fail
    refine bodyPost_ret (v := .tuple #[.agg #[.int .i64 0, .int .i64 0, .slice none 0 0], .int .i64 80]) ?_ rfl ⟨?_, none, 0, rfl, At.nil⟩
    · simp [results, Try.results26, go_sem, d0, d1, d2]
    · exact ((hB3.setCell (by simp) _).setCell (by simp) _).setCell (by simp) _
  · have hRR := hR
    rw [hR] at hok
    obtain ⟨r, k, rfl, rfl, hr, hr4, hk, hn⟩ := isRight_out hR
    have x0 := cell_at kx 0
    have x1 := cell_at kx 1
    have hlt0 : 0 < l.length := by rw [hn]; exact Nat.mul_pos (by omega) (by omega)
    have HN := Lib.hid hn
    have HK := Lib.hid hk
    clear hR hRR hn hk
    by_cases h4 : (k : Int) = 4
    · have he4 : ((k : Int) == 4) = true := by rw [beq_iff_eq]; exact h4
      rw [he4] at hok
      simp only [Bool.not_true, Bool.and_false] at hok
      subst hok
      clear h4
      go_wp2_with fail
      refine HBad.out.mono ?_
      rintro e w3 ⟨rfl, hB3, kr3⟩
      have d0 := cell_at kr3 0
      have d1 := cell_at kr3 1
      have d2 := cell_at kr3 2
      have f0 := free_at kr3 0
      have f1 := free_at kr3 1
      have f2 := free_at kr3 2
      go_wp2_with fail
      refine bodyPost_ret (v := .tuple #[.agg #[.int .i64 0, .int .i64 0, .slice none 0 0], .int .i64 80]) ?_ rfl ⟨?_, none, 0, rfl, At.nil⟩
      · simp [results, Try.results26, go_sem, d0, d1, d2]
      · exact ((hB3.setCell (by simp) _).setCell (by simp) _).setCell (by simp) _
    · have he4 : ((k : Int) == 4) = false := by rw [beq_eq_false_iff_ne]; exact h4
      rw [he4] at hok
      simp only [Bool.not_false, Bool.and_true] at hok
      subst hok
      obtain ⟨h, hh⟩ : ∃ h, k / 2 = h := ⟨_, rfl⟩
      have hq : (k : Int).tdiv 2 = (h : Int) := by rw [Int.tdiv_eq_ediv_of_nonneg (by omega)]; omega
      have hq2 : (k : Int) / 2 = (h : Int) := by omega
      have hk := HK.out
      have hkk : k = 2 * h := by omega
      have hh16 : h ≤ 16 := by omega
      have HKK := Lib.hid hkk
      have HH := Lib.hid hh
      clear hkk hh hk h4
      go_wp2_with fail
      have hn := HN.out
      have hkk := HKK.out
      obtain ⟨b, o, hAe, hb, hc⟩ := hA hlt0
      obtain ⟨W1, hW1⟩ : ∃ W1, w1.alloc (.cells #[.int .i64 (h : Int)] 3) = W1 := ⟨_, rfl⟩
      have hBW1 : Below w1.heap.size w1 W1 := by rw [← hW1]; exact (Below.refl _ w1).alloc (Nat.le_refl _) _
      have kh1 : W1.heap[w1.heap.size]? = some (.cells #[.int .i64 (h : Int)] 3) := by rw [← hW1]; exact new_at _ _ _ rfl
      have hsz1 : W1.heap.size = w1.heap.size + 1 := by rw [← hW1]; simp
      rw [hW1]
      have kx1 := (hBW1.block _ (by omega)).trans kx
      have kr1 := (hBW1.block _ (by omega)).trans kr
      have kg1 := (hBW1.block g (Array.getElem?_eq_some_iff.1 hW.1).1).trans hW.1
      have hBw := hBw1.trans (hBW1.mono hBw1.size)
      obtain ⟨B1, hB1⟩ : ∃ b, w1.heap.size = b := ⟨_, rfl⟩
      rw [hB1] at kh1 hsz1 hs1 ⊢
      clear hW1 hB1 hBW1 kx kr hW x0 x1 hBw1
      have hcl : ∀ (W : World) (i j : Nat), Below W1.heap.size W1 W → i < r → j < h → Calls Try.prog 40 #[.int .i64 (i : Int), .int .i64 (j : Int), .pointer (some ⟨w.heap.size, 0, none⟩), .pointer (some ⟨B1, 0, none⟩)] W fun e w' =>
          ∃ g, e = .returned (.slice (some ⟨g, 0, none⟩) 2 2) ∧ w'.cell? ⟨g, 0, none⟩ = some (.int .u64 (U (lowPair k l i j).1)) ∧ w'.cell? ⟨g, 1, none⟩ = some (.int .u64 (U (lowPair k l i j).2)) ∧ Below W.heap.size W w' := by
        intro W i j hBW hi hj
        have hij : i * k + j + h < r * k := by
          have h1 : (i + 1) * k ≤ r * k := Nat.mul_le_mul_right _ hi
          rw [Nat.add_mul, Nat.one_mul] at h1
          omega
        have hBall := hBw.trans (hBW.mono hBw.size)
        refine lower1_any (r : Int) (k : Int) A l.length c w.heap.size B1 i j k h _ _ b o rfl (by omega) (by omega) (by omega) (by omega) hAe W ((hBW.block _ (by omega)).trans kx1) ((hBW.block _ (by omega)).trans kh1) (by omega) ?_ ?_
        · exact (hBall.cell (p := ⟨b, o + (i * k + j), none⟩) hb).trans (hc _ (by omega))
        · have e : (lowPair k l i j).2 = nth l (i * k + j + h) := by unfold lowPair; rw [HH.out]
          rw [e]
          exact (hBall.cell (p := ⟨b, o + (i * k + j + h), none⟩) hb).trans (hc _ (by omega))
      have hjoin := joinL_any g w.heap.size B1 r h hr4 (by omega) (lowPair k l) W1 (cell_at kg1 0) hcl
      have HJ := Lib.hid hjoin
      clear hjoin hcl hn hkk hAe hc
      refine HJ.out.mono ?_
      rintro e w5 ⟨hB5, A5, c5, rfl, hlc5, h5⟩
      have kr5 := (hB5.block _ (by omega)).trans kr1
      have hBw5 := hBw.trans (hB5.mono hBw.size)
      have d0 := cell_at kr5 0
      have d1 := cell_at kr5 1
      have d2 := cell_at kr5 2
      have f0 := free_at kr5 0
      have f1 := free_at kr5 1
      have f2 := free_at kr5 2
      have HOwn := Lib.hid h5
      clear h5 hq hq2
      go_wp2_with fail
      have hsW1 := hsz1
      refine bodyPost_ret (v := .tuple #[.agg #[.int .i64 (r : Int), .int .i64 (h : Int), .slice A5 (joinTo h (lowPair k l) r).length c5], .int .i64 0]) ?_ rfl ⟨?_, A5, c5, ?_, ?_⟩
      · simp [results, Try.results26, go_sem, d0, d1, d2]
      · exact ((hBw5.setCell (by simp) _).setCell (by simp) _).setCell (by simp) _
      · rw [show (k : Int).toNat / 2 = h from HH.out]; rfl
      · have e : ∀ (W : World) v i k, W1.heap.size ≤ k → (W.setCell ⟨w.heap.size + 1, i, none⟩ v).heap[k]? = W.heap[k]? := fun W v i k hk => Below.heap_setCell W ⟨w.heap.size + 1, i, none⟩ v k (by show k ≠ w.heap.size + 1; omega)
        rw [show (k : Int).toNat / 2 = h from HH.out]
        exact OwnL.at2 (HOwn.out.of (fun k hk _ => (e _ _ _ k hk).trans ((e _ _ _ k hk).trans (e _ _ _ k hk))))
end Go.Proofs.Ytlehjbfhhikpiaa
