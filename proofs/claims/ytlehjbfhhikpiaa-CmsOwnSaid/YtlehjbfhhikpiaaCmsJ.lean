/-
  What is made and added, as functions: the program's and the reference's make the same; and the head of the statements.
-/
import Derived.Test.YtlehjbfhhikpiaaCmsI
namespace Go.Proofs.Ytlehjbfhhikpiaa
open Go.RowKit

/-- Counters as the statements see them: rows, columns, numbers, and what is told of what is wrong. -/
structure Ct where
  R : Int
  C : Int
  l : List (BitVec 64)
  e : Int
def newF (R C : Int) : Ct := if isSz R C = true then ⟨R, C, List.replicate (R * C).toNat 0, 0⟩ else ⟨0, 0, [], 80⟩
def addR (R C : Int) (x m : BitVec 64) (l : List (BitVec 64)) : Ct := if isRight R C l.length = true then ⟨R, C, addF R.toNat C.toNat x m l, 0⟩ else ⟨0, 0, [], 80⟩
theorem addF_length (r k : Nat) (x m : BitVec 64) (l : List (BitVec 64)) : (addF r k x m l).length = l.length := foldl_addAt_length m _ _
theorem newF_length (R C : Int) : (newF R C).l.length ≤ 65536 := by
  unfold newF
  split
  · rename_i h
    obtain ⟨h1, h2, h3⟩ := isSz_out h
    show (List.replicate (R * C).toNat (0#64)).length ≤ 65536
    rw [List.length_replicate]
    rcases h3 with rfl | rfl | rfl | rfl <;> omega
  · simp
theorem addR_length (R C : Int) (x m : BitVec 64) (l : List (BitVec 64)) (h : l.length ≤ 65536) : (addR R C x m l).l.length ≤ 65536 := by
  unfold addR
  split
  · show (addF R.toNat C.toNat x m l).length ≤ 65536
    rw [addF_length]; exact h
  · simp

/-- Two results: the counters, and what is told. -/
def Gives (t : Ct) (w : World) (e : Ending) (w' : World) : Prop :=
  Below w.heap.size w w' ∧ ∃ A c, e = .returned (.tuple #[.agg #[.int .i64 t.R, .int .i64 t.C, .slice A t.l.length c], .int .i64 t.e]) ∧ At w' w'.heap.size A t.l

theorem New_gives (R C : Int) (w : World) : Calls Try.prog 12 #[.int .i64 R, .int .i64 C] w (Gives (newF R C) w) :=
  (New_any R C w).mono fun e w' ⟨hB, h⟩ => by
    refine ⟨hB, ?_⟩
    unfold newF
    rcases h with ⟨hz, rfl⟩ | ⟨hz, n, g, hn, hg, rfl, hr⟩
    · rw [hz, if_neg Bool.false_ne_true]
      exact ⟨none, 0, rfl, At.nil⟩
    · rw [hz, if_pos rfl]
      have e : (R * C).toNat = n := by omega
      rw [e]
      refine ⟨some ⟨g, 0, none⟩, n, ?_, hr.at_ hr.lt⟩
      show _ = Ending.returned (.tuple #[.agg #[.int .i64 R, .int .i64 C, .slice (some ⟨g, 0, none⟩) (List.replicate n (0#64)).length n], .int .i64 0])
      rw [List.length_replicate]
theorem refNew_gives (R C : Int) (w : World) : Calls Try.prog 13 #[.int .i64 R, .int .i64 C] w (Gives (newF R C) w) :=
  (refNew_any R C w).mono fun e w' ⟨hB, h⟩ => by
    refine ⟨hB, ?_⟩
    unfold newF
    rcases h with ⟨hz, rfl⟩ | ⟨hz, n, g, hn, hg, rfl, hr⟩
    · rw [hz, if_neg Bool.false_ne_true]
      exact ⟨none, 0, rfl, At.nil⟩
    · rw [hz, if_pos rfl]
      have e : (R * C).toNat = n := by omega
      rw [e]
      refine ⟨some ⟨g, 0, none⟩, n, ?_, hr.at_ hr.lt⟩
      show _ = Ending.returned (.tuple #[.agg #[.int .i64 R, .int .i64 C, .slice (some ⟨g, 0, none⟩) (List.replicate n (0#64)).length n], .int .i64 0])
      rw [List.length_replicate]
theorem Add_gives (R C : Int) (A : Option Addr) (c : Nat) (l : List (BitVec 64)) (x m : BitVec 64) (w : World) (hA : At w w.heap.size A l) : Calls Try.prog 14 #[.agg #[.int .i64 R, .int .i64 C, .slice A l.length c], .int .u64 (U x), .int .u64 (U m)] w (Gives (addR R C x m l) w) :=
  (Add_any R C A c l x m w hA).mono fun e w' ⟨hB, h⟩ => by
    refine ⟨hB, ?_⟩
    unfold addR
    rcases h with ⟨hz, rfl⟩ | ⟨hz, g, hg, rfl, hr⟩
    · rw [hz, if_neg Bool.false_ne_true]
      exact ⟨none, 0, rfl, At.nil⟩
    · rw [hz, if_pos rfl]
      refine ⟨some ⟨g, 0, none⟩, l.length, ?_, hr.at_ hr.lt⟩
      show _ = Ending.returned (.tuple #[.agg #[.int .i64 R, .int .i64 C, .slice (some ⟨g, 0, none⟩) (addF R.toNat C.toNat x m l).length l.length], .int .i64 0])
      rw [addF_length]
theorem refAdd_gives (R C : Int) (A : Option Addr) (c : Nat) (l : List (BitVec 64)) (x m : BitVec 64) (w : World) (hA : At w w.heap.size A l) : Calls Try.prog 15 #[.agg #[.int .i64 R, .int .i64 C, .slice A l.length c], .int .u64 (U x), .int .u64 (U m)] w (Gives (addR R C x m l) w) :=
  (refAdd_any R C A c l x m w hA).mono fun e w' ⟨hB, h⟩ => by
    refine ⟨hB, ?_⟩
    unfold addR
    rcases h with ⟨hz, rfl⟩ | ⟨hz, g, cap, hg, rfl, hr⟩
    · rw [hz, if_neg Bool.false_ne_true]
      exact ⟨none, 0, rfl, At.nil⟩
    · rw [hz, if_pos rfl]
      refine ⟨some ⟨g, 0, none⟩, cap, ?_, hr.at_ hr.lt⟩
      show _ = Ending.returned (.tuple #[.agg #[.int .i64 R, .int .i64 C, .slice (some ⟨g, 0, none⟩) (addF R.toNat C.toNat x m l).length cap], .int .i64 0])
      rw [addF_length]

theorem known_col0 : (colAt 2 4 8 0 21474836483#64 : Nat) = 1 := by decide +kernel
theorem known_col1 : (colAt 2 4 8 1 21474836483#64 : Nat) = 0 := by decide +kernel
theorem known_count : U (countAt 2 4 21474836483#64 (addF 2 4 21474836483#64 7#64 (List.replicate 8 0#64))) = 7 := by decide +kernel
theorem known_addlen : (addF 2 4 21474836483#64 7#64 (List.replicate 8 0#64)).length = 8 := by decide +kernel

def kn : List (BitVec 64) := addF 2 4 21474836483#64 7#64 (List.replicate 8 0#64)
theorem kn_length : kn.length = 8 := known_addlen
theorem U_known : U 21474836483#64 = 21474836483 := by decide +kernel
theorem U_seven : U 7#64 = 7 := by decide +kernel
theorem New_known (w : World) : Calls Try.prog 12 #[.int .i64 2, .int .i64 4] w fun e w' => Below w.heap.size w w' ∧ ∃ A c, e = .returned (.tuple #[.agg #[.int .i64 2, .int .i64 4, .slice A 8 c], .int .i64 0]) ∧ At w' w'.heap.size A (List.replicate 8 0) := by
  have h := New_gives 2 4 w
  have e1 : newF 2 4 = ⟨2, 4, List.replicate 8 0, 0⟩ := by unfold newF; rw [if_pos (by decide)]; rfl
  rw [e1] at h
  refine h.mono ?_
  rintro e w' ⟨hB, A, c, rfl, hA⟩
  exact ⟨hB, A, c, by show Ending.returned (.tuple #[.agg #[.int .i64 2, .int .i64 4, .slice A (List.replicate 8 (0#64)).length c], .int .i64 0]) = _; rw [List.length_replicate], hA⟩
theorem New_bad (w : World) : Calls Try.prog 12 #[.int .i64 2, .int .i64 5] w fun e w' => Below w.heap.size w w' ∧ e = .returned (.tuple #[.agg #[.int .i64 0, .int .i64 0, .slice none 0 0], .int .i64 80]) := by
  refine (New_any 2 5 w).mono ?_
  rintro e w' ⟨hB, ⟨hz, rfl⟩ | ⟨hz, _⟩⟩
  · exact ⟨hB, rfl⟩
  · exact absurd hz (by decide)
theorem Add_known (A : Option Addr) (c : Nat) (w : World) (hA : At w w.heap.size A (List.replicate 8 0)) : Calls Try.prog 14 #[.agg #[.int .i64 2, .int .i64 4, .slice A 8 c], .int .u64 21474836483, .int .u64 7] w fun e w' => Below w.heap.size w w' ∧
    ∃ A c, e = .returned (.tuple #[.agg #[.int .i64 2, .int .i64 4, .slice A 8 c], .int .i64 0]) ∧ At w' w'.heap.size A kn := by
  have h := Add_gives 2 4 A c (List.replicate 8 0) 21474836483#64 7#64 w hA
  have e1 : addR 2 4 21474836483#64 7#64 (List.replicate 8 0) = ⟨2, 4, kn, 0⟩ := by unfold addR; rw [if_pos (by decide)]; rfl
  rw [e1, U_known, U_seven, List.length_replicate] at h
  refine h.mono ?_
  rintro e w' ⟨hB, A, c, rfl, hA⟩
  exact ⟨hB, A, c, by show Ending.returned (.tuple #[.agg #[.int .i64 2, .int .i64 4, .slice A kn.length c], .int .i64 0]) = _; rw [kn_length], hA⟩
theorem Col_known0 (A : Option Addr) (c : Nat) (w : World) : Calls Try.prog 19 #[.agg #[.int .i64 2, .int .i64 4, .slice A 8 c], .int .i64 0, .int .u64 21474836483] w fun e w' => e = .returned (.int .i64 1) ∧ Below w.heap.size w w' := by
  have h := Col_any 2 4 A 8 c 0 21474836483#64 w
  rw [known_col0, U_known] at h
  exact h
theorem Col_known1 (A : Option Addr) (c : Nat) (w : World) : Calls Try.prog 19 #[.agg #[.int .i64 2, .int .i64 4, .slice A 8 c], .int .i64 1, .int .u64 21474836483] w fun e w' => e = .returned (.int .i64 0) ∧ Below w.heap.size w w' := by
  have h := Col_any 2 4 A 8 c 1 21474836483#64 w
  rw [known_col1, U_known] at h
  exact h
theorem Count_known (A : Option Addr) (c : Nat) (w : World) (hA : At w w.heap.size A kn) : Calls Try.prog 21 #[.agg #[.int .i64 2, .int .i64 4, .slice A 8 c], .int .u64 21474836483] w fun e w' => Below w.heap.size w w' ∧ e = .returned (.int .u64 7) := by
  have h := Count_any 2 4 A c kn 21474836483#64 w hA
  rw [show U (countAt 2 4 21474836483#64 kn) = 7 from known_count, U_known, kn_length] at h
  exact h

set_option maxRecDepth 100000 in
set_option maxHeartbeats 1000000 in
theorem shown_any (w : World) : Calls Try.prog 10 #[] w fun e w' => e = .returned (.bool true) ∧ Below w.heap.size w w' := by
  go_enter Try.func10, Try.ntmps10
  go_wp2_with fail
  refine (New_known _).mono ?_
  rintro e w1 ⟨hB1, A1, c1, rfl, h1⟩
  go_wp2_with fail
  refine (Add_known A1 c1 _ ((h1.below ((Below.refl _ w1).alloc (Nat.le_refl _) _)).mono (by simp))).mono ?_
  rintro e w2 ⟨hB2, A2, c2, rfl, h2⟩
  have k1 := (hB2.block w1.heap.size (by simp)).trans (new_at w1 _ _ rfl)
  have hBw2 : Below w.heap.size w w2 := (hB1.alloc hB1.size _).trans (hB2.mono (by have := hB1.size; simp; omega))
  have hlt1 := (Array.getElem?_eq_some_iff.1 k1).1
  go_wp2_with fail
  refine (New_bad _).mono ?_
  rintro e w3 ⟨hB3, rfl⟩
  have k2 := (hB3.block w2.heap.size (by simp)).trans (new_at w2 _ _ rfl)
  have k1' := (hB3.block w1.heap.size (by simp; omega)).trans (old_at k1)
  have hBw3 : Below w.heap.size w w3 := (hBw2.alloc hBw2.size _).trans (hB3.mono (by have := hBw2.size; simp; omega))
  have h3 := (h2.below ((Below.refl w2.heap.size w2).alloc (Nat.le_refl _) (.cells #[.int .i64 2, .int .i64 4, .slice A2 8 c2] 24))).below (hB3.mono (by simp))
  have hlt2 := (Array.getElem?_eq_some_iff.1 k2).1
  have hw23 : w2.heap.size ≤ w3.heap.size := by have := hB3.size; simp at this; omega
  clear k1 hB1 hB2 hB3 h1 h2
  have a0 := old_cell (cell_at k1' 0)
  have a1 := old_cell (cell_at k1' 1)
  have a2 := old_cell (cell_at k1' 2)
  go_wp2_with fail
  refine (Col_known0 A1 c1 _).mono ?_
  rintro e w4 ⟨rfl, hB4⟩
  have b1 := (hB4.block w1.heap.size (by simp; omega)).trans (old_at k1')
  have b2 := (hB4.block w2.heap.size (by simp; omega)).trans (old_at k2)
  have h4 := (h3.below ((Below.refl w2.heap.size w3).alloc hw23 (.cells #[.int .i64 0, .int .i64 0, .slice none 0 0] 24))).below (hB4.mono (by simp; omega))
  have hBw4 : Below w.heap.size w w4 := (hBw3.alloc hBw3.size _).trans (hB4.mono (by have := hBw3.size; simp; omega))
  have hw34 := hB4.size
  simp at hw34
  clear a0 a1 a2 k1' k2 h3 hB4
  have a0 := cell_at b1 0
  have a1 := cell_at b1 1
  have a2 := cell_at b1 2
  go_wp2_with fail
  refine (Col_known1 A1 c1 _).mono ?_
  rintro e w5 ⟨rfl, hB5⟩
  have d2 := (hB5.block w2.heap.size (by omega)).trans b2
  have h5 := h4.below (hB5.mono (by omega))
  have hBw5 := hBw4.trans (hB5.mono hBw4.size)
  have hw45 := hB5.size
  clear a0 a1 a2 b1 b2 h4 hB5
  have a0 := cell_at d2 0
  have a1 := cell_at d2 1
  have a2 := cell_at d2 2
  go_wp2_with fail
  refine (Count_known A2 c2 _ (h5.mono (by omega))).mono ?_
  rintro e w6 ⟨hB6, rfl⟩
  go_wp2_with fail
  go_ret
  exact ⟨rfl, hBw5.trans (hB6.mono hBw5.size)⟩
end Go.Proofs.Ytlehjbfhhikpiaa
