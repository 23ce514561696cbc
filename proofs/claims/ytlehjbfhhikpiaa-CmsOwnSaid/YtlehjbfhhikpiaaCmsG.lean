/-
  How often a number came at most: the program's.
-/
import Derived.Test.YtlehjbfhhikpiaaCmsF
namespace Go.Proofs.Ytlehjbfhhikpiaa
open Go.RowKit Go.Shelf
attribute [local go_sem] Oper.semAt_some calmOp calmUpon effOp effUpon

def minB (x y : BitVec 64) : BitVec 64 := if y.toNat < x.toNat then y else x
theorem U_min (x y : BitVec 64) : (if U y < U x then U y else U x) = U (minB x y) := by
  unfold minB
  by_cases h : y.toNat < x.toNat
  · rw [if_pos h, if_pos (by unfold U; omega)]
  · rw [if_neg h, if_neg (by unfold U; omega)]
def countF (r k : Nat) (x : BitVec 64) (l : List (BitVec 64)) : BitVec 64 := (placesTo k x r).foldl (fun n i => minB n (nth l i)) 18446744073709551615#64
/-- How often a number came at most, whatever the counters. -/
def countAt (R C : Int) (x : BitVec 64) (l : List (BitVec 64)) : BitVec 64 := if isRight R C l.length = true then countF R.toNat C.toNat x l else 0
def CountI (w : World) (z B8 g g2 r k n : Nat) (L : List (BitVec 64)) (v : BitVec 64) (W : World) : Prop :=
  z ≤ W.heap.size ∧ Below w.heap.size w W ∧ W.heap[B8]? = some (.cells #[.pointer (some ⟨g, 0, none⟩)] 51 (0, 0)) ∧ W.heap[B8 + 1]? = some (.cells #[.int .u64 (U v)] 25 (0, 0)) ∧
    W.heap[g]? = some (.cells #[.int .i64 (r : Int), .int .i64 (k : Int), .slice (some ⟨g2, 0, none⟩) n n] 61 (0, 0)) ∧ Row W g2 25 L

set_option maxRecDepth 100000 in
set_option maxHeartbeats 4000000 in
theorem Count_any (R C : Int) (A : Option Addr) (c : Nat) (l : List (BitVec 64)) (x : BitVec 64) (w : World) (hA : At w w.heap.size A l) : Calls Try.prog 21 #[.agg #[.int .i64 R, .int .i64 C, .slice A l.length c], .int .u64 (U x)] w fun e w' => Below w.heap.size w w' ∧
    e = .returned (.int .u64 (U (countAt R C x l))) := by
  refine (callsIn_wide (n := 3)).1 ?_
  refine callsIn_of_wp_marks Try.func21 rfl trivial ?_ rfl
  simp only [Try.ntmps21, List.size_toArray, List.length_cons, List.length_nil, Nat.reduceAdd, Nat.reduceSub, Array.replicate_succ, Array.replicate_zero, List.push_toArray, List.append_toArray, List.nil_append, List.cons_append]
  refine wpIn_wide.2 ?_
  go_wp2_with fail
  refine abs_call (fun u => Below w.heap.size w u ∧ u.heap.size = w.heap.size + 1) ⟨(Below.refl _ w).alloc (Nat.le_refl _) _, by simp⟩ ?_
  rintro W0 ⟨hB0, hsz0⟩
  refine (start_any R C A c l W0 ((hA.below hB0).mono hB0.size)).mono ?_
  rintro e w1 ⟨hB1, hR⟩
  have hBw1 := hB0.trans (hB1.mono hB0.size)
  have hs1 := hB1.size
  rw [hsz0] at hs1
  rcases hR with ⟨hR, rfl⟩ | ⟨hR, g, g2, hg, hg2, rfl, hW⟩
  · have HR := Lib.hid hR
    clear hR hB1
    go_wp2_with fail
    refine ⟨_, results_tmp rfl _ _ _, hBw1.alloc hBw1.size _, ?_⟩
    rw [countAt, HR.out, if_neg Bool.false_ne_true]
    rfl
  · have hRR := hR
    obtain ⟨r, k, rfl, rfl, hr, hr4, hk, hn⟩ := isRight_out hR
    have HR := Lib.hid hRR
    have HN := Lib.hid hn
    have HK := Lib.hid hk
    obtain ⟨hwk, hrow, hne⟩ := hW
    clear hR hRR hn hk hB1
    go_wp2_with fail
    refine (places_any _ ⟨g, rfl⟩ x _).mono ?_
    rintro e w2 ⟨rfl, rfl⟩
    go_wp2_with fail
    have hBW2 : Below w.heap.size w ((((w1.alloc (.cells #[.pointer (some ⟨g, 0, none⟩)] 51)).alloc (.cells #[.int .u64 18446744073709551615] 25)).alloc (.cells #[.pointer (some ⟨g, 0, none⟩)] 51)).alloc (.cells #[.int .u64 (U x)] 25)) :=
      (((hBw1.alloc hBw1.size _).alloc (by simp; omega) _).alloc (by simp; omega) _).alloc (by simp; omega) _
    have hgl := (Array.getElem?_eq_some_iff.1 hwk).1
    have hg2l := hrow.lt
    obtain ⟨B8, hB8⟩ : ∃ b, b = w1.heap.size := ⟨_, rfl⟩
    rw [← hB8] at hs1 hgl hg2l
    refine abs_code (fun u => Below w.heap.size w u ∧ u.heap.size = B8 + 4 ∧
      u.heap[B8]? = some (.cells #[.pointer (some ⟨g, 0, none⟩)] 51) ∧ u.heap[B8 + 1]? = some (.cells #[.int .u64 18446744073709551615] 25) ∧ u.heap[B8 + 2]? = some (.cells #[.pointer (some ⟨g, 0, none⟩)] 51) ∧ u.heap[B8 + 3]? = some (.cells #[.int .u64 (U x)] 25) ∧
      u.heap[g]? = some (.cells #[.int .i64 (r : Int), .int .i64 (k : Int), .slice (some ⟨g2, 0, none⟩) l.length l.length] 61 (0, 0)) ∧ Row u g2 25 l)
      ⟨hBW2, by rw [hB8]; simp, old_at (old_at (old_at (new_at _ _ _ hB8))), old_at (old_at (new_at _ _ _ (by rw [hB8]; simp))), old_at (new_at _ _ _ (by rw [hB8]; simp)), new_at _ _ _ (by rw [hB8]; simp), old_at (old_at (old_at (old_at hwk))), old_at (old_at (old_at (old_at hrow)))⟩ ?_
    rintro W2 ⟨hBW, hsz2, k8, k9, kw, kh, kg, krow⟩
    rw [← hB8]
    clear hBW2 hwk hrow hBw1 hB8
    refine (wpIn_wide (n := 3)).1 ?_
    refine wpIn_rangeFunc_ok (F := Fence.wide) (n := 3) rfl (by omega) (gf := 43) (lb := #[.pointer (some ⟨B8 + 1 + 1, 0, none⟩), .pointer (some ⟨B8 + 1 + 1 + 1, 0, none⟩)]) rfl trivial (enters_of Try.func43 (by kernel_rfl) rfl)
      (encs := fun x : Nat => #[.int .i64 (x : Int)]) (Kp := Keep3 g (B8 + 1 + 1) (B8 + 1 + 1 + 1)) (St := fun A B => ∃ q, B = A.drewN q) (S := fun xs => xs = placesTo k x r) (N := r) (Pre := fun W => Eyes W g (B8 + 1 + 1) (B8 + 1 + 1 + 1) r k x) (ok := fun i => i < r * k)
      ?seq ?pre (fun h j => ⟨j.1.trans h.1, j.2.1.trans h.2.1, j.2.2.trans h.2.2⟩) ?kb ?st (fun _ => rfl)
      (fun pre W => CountI w (B8 + 4) B8 g g2 r k l.length l (pre.foldl (fun n i => minB n (nth l i)) 18446744073709551615#64) W)
      ?own ?ownst ⟨by omega, hBW, k8, k9, kg, krow⟩
      ?a1 ?assign ?body ?done
    case assign =>
      intro l x W K hK
      gi_wp2
      exact hK
    case seq =>
      intro l J hJ hY W h0 hp
      exact (places1_in 2 (by omega) l g (B8 + 1 + 1) (B8 + 1 + 1 + 1) r k hr4 HK.out x J (fun pre A q h => hJ pre A _ h ⟨q, rfl⟩) hY W hp h0).mono fun e W' ⟨he, hj⟩ => ⟨he, _, rfl, hj⟩
    case pre =>
      intro W hW
      have e1 := (hW.block (B8 + 1 + 1) (by omega)).trans kw
      have e2 := (hW.block (B8 + 1 + 1 + 1) (by omega)).trans kh
      have e3 := (hW.block g (by omega)).trans kg
      exact ⟨cell_at e1 0, cell_at e2 0, cell_at e3 0, cell_at e3 1⟩
    case kb => exact fun W l o' hl => ⟨World.putObj_heap_other (by omega), World.putObj_heap_other (by omega), World.putObj_heap_other (by omega)⟩
    case st =>
      rintro A B k o ⟨q, rfl⟩ h _
      exact h
    case own =>
      refine OwnFrom.and (fun s A B row hs hg hr => Nat.le_trans hs hg.size) (OwnFrom.and (ownFrom_below (Nat.le_refl _) hBW.size) (OwnFrom.and (Own.from ?_ _) (OwnFrom.and (Own.from ?_ _) (OwnFrom.and (Own.from ?_ _) (Own.from ?_ _)))))
      all_goals
        intro pre A B row h hg hr
        exact cells_kept h hg hr
    case ownst =>
      rintro pre A B h ⟨q, rfl⟩
      exact ⟨h.1, dn h.2.1 q, h.2.2⟩
    case body =>
      rintro lr pre i W hi ⟨hz, hB, j8, j9, jg, jrow⟩ _
      obtain ⟨v, hv⟩ : ∃ v, pre.foldl (fun n i => minB n (nth l i)) 18446744073709551615#64 = v := ⟨_, rfl⟩
      rw [hv] at j9
      have hil : i < l.length := by rw [HN.out]; exact hi
      have HV := Lib.hid hv
      clear hv
      have ci := jrow.cell (j := i) hil
      have c9 := cell_at j9 0
      have f9 := free_at j9 0
      have c8 := cell_at j8 0
      have cg := cell_at jg 2
      have q8 : B8 < W.heap.size := by omega
      have q9 : B8 + 1 < W.heap.size := by omega
      have qg : g < W.heap.size := by omega
      have qi : g2 < W.heap.size := by omega
      have hmin := U_min v (nth l i)
      have l8 : ∀ s : Later W.heap.size W, s.W.cell? ⟨B8, 0, none⟩ = some (.pointer (some ⟨g, 0, none⟩)) := fun s => s.cell c8 q8
      have l9 : ∀ s : Later W.heap.size W, s.W.cell? ⟨B8 + 1, 0, none⟩ = some (.int .u64 (U v)) := fun s => s.cell c9 q9
      have lg : ∀ s : Later W.heap.size W, s.W.cell? ⟨g, 2, none⟩ = some (.slice (some ⟨g2, 0, none⟩) l.length l.length) := fun s => s.cell cg qg
      have li : ∀ s : Later W.heap.size W, s.W.cell? ⟨g2, i, none⟩ = some (.int .u64 (U (nth l i))) := fun s => s.cell ci qi
      clear ci c8 cg
      gi_wp2
      refine region_mix_round (C := fun W' => ∃ s : Later W.heap.size W, W' = s.W) 10 (List.replicate 10 false) (by kernel_rfl) (by kernel_rfl) (by kernel_rfl) (by kernel_rfl) ⟨⟨W.drew, (Below.refl _ W).drew⟩, rfl⟩ ?_
      simp only [List.take_succ_cons, List.take_zero, List.drop_succ_cons, List.drop_zero, List.replicate_succ, List.replicate_zero]
      repeat (refine wpM_calm (fun K hK => ?_); go_simp; refine hK _ ?_; clear hK K)
      refine wpM_nil ?_
      clear l8 l9 lg li
      have hP := (Put.refl j9).set 0 (.int .u64 (U (minB v (nth l i))))
      have HP := Lib.hid hP
      clear hP
      gi_wp2
      have hP := HP.out
      rw [HV.out]
      refine ⟨((KeepsOthers.setCell W ⟨B8 + 1, 0, none⟩ _).trans (KeepsOthers.drew _)).from _, ⟨hP.other (k := B8 + 1 + 1) (by omega), hP.other (k := B8 + 1 + 1 + 1) (by omega), hP.other (k := g) (by omega)⟩, ?_, ?_, ?_, ?_, ?_, ?_⟩
      · simp [World.setCell]; omega
      · exact (hB.trans (hP.below (by omega))).drew
      · exact (hP.other (by omega)).trans j8
      · exact hP.get q9
      · exact (hP.other (by omega)).trans jg
      · exact (hP.other (by omega)).trans jrow
    case done =>
      rintro D xs W hD rfl ⟨hz, hB, j8, j9, jg, jrow⟩ hK
      have c9 := cell_at j9 0
      have HK2 := Lib.hid hK
      clear hK
      go_wp2_with fail
      have hK3 := HK2.out
      refine ⟨by simp, .inl ⟨_, _, rfl, run_takeDeferred hK3, ?_⟩⟩
      refine ⟨_, results_tmp rfl _ _ _, ?_, ?_⟩
      · exact hB.trans (belowK_b (w := w) (Nat.le_refl _) _ D _ _ (by omega) hK3 rfl rfl)
      · rw [countAt, HR.out, if_pos rfl]
        rfl
end Go.Proofs.Ytlehjbfhhikpiaa
