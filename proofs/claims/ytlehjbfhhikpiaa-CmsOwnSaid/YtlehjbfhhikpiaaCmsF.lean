/-
  Adding a number to counters: the program's.
-/
import Derived.Test.YtlehjbfhhikpiaaCmsE
import Derived.Test.YtlehjbfhhikpiaaIter2
import Derived.Test.YtlehjbfhhikpiaaMix
namespace Go.Proofs.Ytlehjbfhhikpiaa
open Go.RowKit Go.Shelf
attribute [local go_sem] Oper.semAt_some calmOp calmUpon effOp effUpon

/-- The counter at place i is raised. -/
def addAt (m : BitVec 64) (l : List (BitVec 64)) (i : Nat) : List (BitVec 64) := l.set i (sat (nth l i) m)
/-- The counters that a number tells are raised. -/
def addF (r k : Nat) (x m : BitVec 64) (l : List (BitVec 64)) : List (BitVec 64) := (placesTo k x r).foldl (addAt m) l
theorem addAt_length (m : BitVec 64) (l : List (BitVec 64)) (i : Nat) : (addAt m l i).length = l.length := by simp [addAt]
theorem foldl_addAt_length (m : BitVec 64) : ∀ (ps : List Nat) (l : List (BitVec 64)), (ps.foldl (addAt m) l).length = l.length
  | [], _ => rfl
  | p :: ps, l => by rw [List.foldl_cons, foldl_addAt_length m ps, addAt_length]

/-- Between two rounds of adding. -/
def AddI (w : World) (z B8 g g2 r k n : Nat) (m : BitVec 64) (L : List (BitVec 64)) (W : World) : Prop :=
  z ≤ W.heap.size ∧ Below w.heap.size w W ∧ W.heap[w.heap.size + 1]? = some (.cells #[.int .u64 (U m)] 25 (0, 0)) ∧ W.heap[w.heap.size + 1 + 1]? = some (.cells #[.int .i64 0, .int .i64 0, .slice none 0 0] 24 (0, 0)) ∧ W.heap[B8]? = some (.cells #[.pointer (some ⟨g, 0, none⟩)] 51 (0, 0)) ∧
    W.heap[g]? = some (.cells #[.int .i64 (r : Int), .int .i64 (k : Int), .slice (some ⟨g2, 0, none⟩) n n] 61 (0, 0)) ∧ Row W g2 25 L

set_option maxRecDepth 100000 in
set_option maxHeartbeats 4000000 in
theorem Add_any (R C : Int) (A : Option Addr) (c : Nat) (l : List (BitVec 64)) (x m : BitVec 64) (w : World) (hA : At w w.heap.size A l) : Calls Try.prog 14 #[.agg #[.int .i64 R, .int .i64 C, .slice A l.length c], .int .u64 (U x), .int .u64 (U m)] w fun e w' => Below w.heap.size w w' ∧
    ((isRight R C l.length = false ∧ e = .returned (.tuple #[.agg #[.int .i64 0, .int .i64 0, .slice none 0 0], .int .i64 80])) ∨
     (isRight R C l.length = true ∧ ∃ (g : Nat), w.heap.size ≤ g ∧ e = .returned (.tuple #[.agg #[.int .i64 R, .int .i64 C, .slice (some ⟨g, 0, none⟩) l.length l.length], .int .i64 0]) ∧ Row w' g 25 (addF R.toNat C.toNat x m l))) := by
  refine (callsIn_wide (n := 3)).1 ?_
  refine callsIn_of_wp_marks Try.func14 rfl trivial ?_ rfl
  simp only [Try.ntmps14, List.size_toArray, List.length_cons, List.length_nil, Nat.reduceAdd, Nat.reduceSub, Array.replicate_succ, Array.replicate_zero, List.push_toArray, List.append_toArray, List.nil_append, List.cons_append]
  refine wpIn_wide.2 ?_
  go_wp2_with fail
  refine abs_call (fun u => Below w.heap.size w u ∧ u.heap.size = w.heap.size + 3 ∧ u.heap[w.heap.size + 1]? = some (.cells #[.int .u64 (U m)] 25) ∧ u.heap[w.heap.size + 2]? = some (.cells #[.int .i64 0, .int .i64 0, .slice none 0 0] 24)) ⟨(((Below.refl _ w).alloc (Nat.le_refl _) _).alloc (by simp) _).alloc (by simp; omega) _, by simp, old_at (new_at _ _ _ (by simp)), new_at _ _ _ (by simp)⟩ ?_
  rintro W0 ⟨hB0, hsz0, hm0, hr0⟩
  refine (start_any R C A c l W0 ((hA.below hB0).mono hB0.size)).mono ?_
  rintro e w1 ⟨hB1, hR⟩
  have hm1 := (hB1.block (w.heap.size + 1) (by omega)).trans hm0
  have hr1 := (hB1.block (w.heap.size + 2) (by omega)).trans hr0
  have hBw1 := hB0.trans (hB1.mono hB0.size)
  have hs1 := hB1.size
  rw [hsz0] at hs1
  rcases hR with ⟨hR, rfl⟩ | ⟨hR, g, g2, hg, hg2, rfl, hW⟩
  · have HR := Lib.hid hR
    clear hR hB1 hm1 hm0 hr0
    go_wp2_with fail
    refine (told_wrong _).mono ?_
    rintro e w2 ⟨rfl, hB2⟩
    have hr2 := (hB2.block (w.heap.size + 1 + 1) (by simp; omega)).trans (old_at hr1)
    have hBw2 := (hBw1.alloc hBw1.size _).trans (hB2.mono (by simp; omega))
    have c0 := cell_at hr2 0
    have c1 := cell_at hr2 1
    have c2 := cell_at hr2 2
    have f0 := free_at hr2 0
    have f1 := free_at hr2 1
    have f2 := free_at hr2 2
    clear hB2 hr2 hr1
    go_wp2_with fail
    refine ⟨.tuple #[.agg #[.int .i64 0, .int .i64 0, .slice none 0 0], .int .i64 80], ?_, ?_⟩
    · simp [results, Try.results14, go_sem, c0, c1, c2]
    · exact ⟨((hBw2.setCell (by simp; omega) _).setCell (by simp; omega) _).setCell (by simp; omega) _, .inl ⟨HR.out, rfl⟩⟩
  · have hRR := hR
    obtain ⟨r, k, rfl, rfl, hr, hr4, hk, hn⟩ := isRight_out hR
    have HR := Lib.hid hRR
    have HN := Lib.hid hn
    have HK := Lib.hid hk
    obtain ⟨hwk, hrow, hne⟩ := hW
    clear hR hRR hn hk hB1 hm0 hr0
    go_wp2_with fail
    refine (places_any _ ⟨g, rfl⟩ x _).mono ?_
    rintro e w2 ⟨rfl, rfl⟩
    go_wp2_with fail
    have hBW2 : Below w.heap.size w (((w1.alloc (.cells #[.pointer (some ⟨g, 0, none⟩)] 51)).alloc (.cells #[.pointer (some ⟨g, 0, none⟩)] 51)).alloc (.cells #[.int .u64 (U x)] 25)) :=
      ((hBw1.alloc hBw1.size _).alloc (by simp; omega) _).alloc (by simp; omega) _
    have hgl := (Array.getElem?_eq_some_iff.1 hwk).1
    have hg2l := hrow.lt
    obtain ⟨B8, hB8⟩ : ∃ b, b = w1.heap.size := ⟨_, rfl⟩
    rw [← hB8] at hs1 hgl hg2l
    refine abs_code (fun u => Below w.heap.size w u ∧ u.heap.size = B8 + 3 ∧ u.heap[w.heap.size + 1]? = some (.cells #[.int .u64 (U m)] 25) ∧ u.heap[w.heap.size + 1 + 1]? = some (.cells #[.int .i64 0, .int .i64 0, .slice none 0 0] 24) ∧
      u.heap[B8]? = some (.cells #[.pointer (some ⟨g, 0, none⟩)] 51) ∧ u.heap[B8 + 1]? = some (.cells #[.pointer (some ⟨g, 0, none⟩)] 51) ∧ u.heap[B8 + 2]? = some (.cells #[.int .u64 (U x)] 25) ∧
      u.heap[g]? = some (.cells #[.int .i64 (r : Int), .int .i64 (k : Int), .slice (some ⟨g2, 0, none⟩) l.length l.length] 61 (0, 0)) ∧ Row u g2 25 l)
      ⟨hBW2, by rw [hB8]; simp, old_at (old_at (old_at hm1)), old_at (old_at (old_at hr1)), old_at (old_at (new_at _ _ _ hB8)), old_at (new_at _ _ _ (by rw [hB8]; simp)), new_at _ _ _ (by rw [hB8]; simp), old_at (old_at (old_at hwk)), old_at (old_at (old_at hrow))⟩ ?_
    rintro W2 ⟨hBW, hsz2, km, kr, k8, kw, kh, kg, krow⟩
    rw [← hB8]
    clear hBW2 hm1 hr1 hwk hrow hBw1 hB8
    refine (wpIn_wide (n := 3)).1 ?_
    refine wpIn_rangeFunc_ok (F := Fence.wide) (n := 3) rfl (by omega) (gf := 43) (lb := #[.pointer (some ⟨B8 + 1, 0, none⟩), .pointer (some ⟨B8 + 1 + 1, 0, none⟩)]) rfl trivial (enters_of Try.func43 (by kernel_rfl) rfl)
      (encs := fun x : Nat => #[.int .i64 (x : Int)]) (Kp := Keep3 g (B8 + 1) (B8 + 1 + 1)) (St := fun A B => ∃ q, B = A.drewN q) (S := fun xs => xs = placesTo k x r) (N := r) (Pre := fun W => Eyes W g (B8 + 1) (B8 + 1 + 1) r k x) (ok := fun i => i < r * k)
      ?seq ?pre (fun h j => ⟨j.1.trans h.1, j.2.1.trans h.2.1, j.2.2.trans h.2.2⟩) ?kb ?st (fun _ => rfl)
      (fun pre W => AddI w (B8 + 3) B8 g g2 r k l.length m (pre.foldl (addAt m) l) W)
      ?own ?ownst ⟨by omega, hBW, km, kr, k8, kg, krow⟩
      ?a1 ?assign ?body ?done
    case assign =>
      intro l x W K hK
      gi_wp2
      exact hK
    case seq =>
      intro l J hJ hY W h0 hp
      exact (places1_in 2 (by omega) l g (B8 + 1) (B8 + 1 + 1) r k hr4 HK.out x J (fun pre A q h => hJ pre A _ h ⟨q, rfl⟩) hY W hp h0).mono fun e W' ⟨he, hj⟩ => ⟨he, _, rfl, hj⟩
    case pre =>
      intro W hW
      have e1 := (hW.block (B8 + 1) (by omega)).trans kw
      have e2 := (hW.block (B8 + 1 + 1) (by omega)).trans kh
      have e3 := (hW.block g (by omega)).trans kg
      exact ⟨cell_at e1 0, cell_at e2 0, cell_at e3 0, cell_at e3 1⟩
    case kb => exact fun W l o' hl => ⟨World.putObj_heap_other (by omega), World.putObj_heap_other (by omega), World.putObj_heap_other (by omega)⟩
    case st =>
      rintro A B k o ⟨q, rfl⟩ h _
      exact h
    case own =>
      refine OwnFrom.and (fun s A B row hs hg hr => Nat.le_trans hs hg.size) (OwnFrom.and (ownFrom_below (Nat.le_refl _) hBW.size) (OwnFrom.and (Own.from ?_ _) (OwnFrom.and (Own.from ?_ _) (OwnFrom.and (Own.from ?_ _) (OwnFrom.and (Own.from ?_ _) (Own.from ?_ _))))))
      all_goals
        intro pre A B row h hg hr
        exact cells_kept h hg hr
    case ownst =>
      rintro pre A B h ⟨q, rfl⟩
      exact ⟨h.1, dn h.2.1 q, h.2.2⟩
    case body =>
      rintro lr pre i W hi ⟨hz, hB, jm, jr, j8, jg, jrow⟩ _
      have hfl := foldl_addAt_length m pre l
      obtain ⟨L, hL⟩ : ∃ L, pre.foldl (addAt m) l = L := ⟨_, rfl⟩
      rw [hL] at jrow hfl
      have hil : i < l.length := by rw [HN.out]; exact hi
      have HL := Lib.hid hL
      have HF := Lib.hid hfl
      clear hL hfl
      have ci := jrow.cell (j := i) (by rw [HF.out]; exact hil)
      have cm := cell_at jm 0
      have c8 := cell_at j8 0
      have cg := cell_at jg 2
      have q8 : B8 < W.heap.size := by omega
      have qm : w.heap.size + 1 < W.heap.size := by omega
      have qg : g < W.heap.size := by omega
      have qi : g2 < W.heap.size := by omega
      have l8 : ∀ s : Later W.heap.size W, s.W.cell? ⟨B8, 0, none⟩ = some (.pointer (some ⟨g, 0, none⟩)) := fun s => s.cell c8 q8
      have lm : ∀ s : Later W.heap.size W, s.W.cell? ⟨w.heap.size + 1, 0, none⟩ = some (.int .u64 (U m)) := fun s => s.cell cm qm
      have lg : ∀ s : Later W.heap.size W, s.W.cell? ⟨g, 2, none⟩ = some (.slice (some ⟨g2, 0, none⟩) l.length l.length) := fun s => s.cell cg qg
      have li : ∀ s : Later W.heap.size W, s.W.cell? ⟨g2, i, none⟩ = some (.int .u64 (U (nth L i))) := fun s => s.cell ci qi
      clear ci cm c8 cg
      gi_wp2
      refine region_mix_round (C := fun W' => ∃ s : Later W.heap.size W, W' = s.W) 18 (List.replicate 15 false ++ [true, true, false]) (by kernel_rfl) (by kernel_rfl) (by kernel_rfl) (by kernel_rfl) ⟨⟨W.drew, (Below.refl _ W).drew⟩, rfl⟩ ?_
      simp only [List.take_succ_cons, List.take_zero, List.drop_succ_cons, List.drop_zero, List.replicate_succ, List.replicate_zero, List.nil_append, List.cons_append]
      repeat (refine wpM_calm (fun K hK => ?_); go_simp; refine hK _ ?_; clear hK K)
      refine wpM_eff rfl (fun K hK => ?_)
      go_simp
      have hBa : Below W.heap.size W (W.alloc (.cells #[.int .u64 (U (nth L i)), .int .u64 (U m)] 25)).drew := ((Below.refl _ W).alloc (Nat.le_refl _) _).drew
      have hnew : (W.alloc (.cells #[.int .u64 (U (nth L i)), .int .u64 (U m)] 25)).drew.heap[W.heap.size]? = some (.cells #[.int .u64 (U (nth L i)), .int .u64 (U m)] 25 (0, 0)) := new_at W _ _ rfl
      have r3 : Row (W.alloc (.cells #[.int .u64 (U (nth L i)), .int .u64 (U m)] 25)) g2 25 L := old_at jrow
      refine hK _ _ ⟨⟨_, hBa⟩, rfl⟩ ?_
      clear hK K
      refine wpM_eff rfl (fun K hK => ?_)
      go_simp
      refine ⟨trivial, (CallsIn.inRound lr (callsIn_wide.2 (plus_any (nth L i) m W.heap.size 2 _ (cell_at hnew 0) (cell_at hnew 1)))).mono ?_⟩
      rintro e w3 ⟨rfl, rfl⟩
      refine ⟨_, rfl, hK _ _ ⟨⟨_, hBa⟩, rfl⟩ ?_⟩
      clear hK K
      refine wpM_calm (fun K hK => ?_)
      go_simp
      refine hK _ ?_
      clear hK K
      refine wpM_nil ?_
      have ci := r3.cell (j := i) (by rw [HF.out]; exact hil)
      have fi := r3.free i
      clear l8 lm lg li
      have hP := Row.set (Put.refl jrow) i (sat (nth L i) m)
      have hL2 : L.set i (sat (nth L i) m) = addAt m (pre.foldl (addAt m) l) i := by rw [HL.out]; rfl
      rw [hL2] at hP
      have HP := Lib.hid hP
      clear hP hL2
      gi_wp2
      have hP := HP.out
      refine ⟨(((KeepsOthers.setCell W ⟨g2, i, none⟩ _).trans ((KeepsOthers.alloc _ _).trans (KeepsOthers.drew _))).from _), ⟨?_, ?_, ?_⟩, ?_, ?_, ?_, ?_, ?_, ?_, ?_⟩
      · exact (Below.heap_alloc _ _ _ (by simp [World.setCell]; omega)).trans (hP.other (by omega))
      · exact (Below.heap_alloc _ _ _ (by simp [World.setCell]; omega)).trans (hP.other (by omega))
      · exact (Below.heap_alloc _ _ _ (by simp [World.setCell]; omega)).trans (hP.other hne)
      · simp [World.setCell]; omega
      · exact ((hB.trans (hP.below (by omega))).alloc (by simp [World.setCell]; omega) _).drew
      · exact old_at ((hP.other (by omega)).trans jm)
      · exact old_at ((hP.other (by omega)).trans jr)
      · exact old_at ((hP.other (by omega)).trans j8)
      · exact old_at ((hP.other hne).trans jg)
      · exact old_at (hP.get qi)
    case done =>
      rintro D xs W hD rfl ⟨hz, hB, jm, jr, j8, jg, jrow⟩ hK
      have c8 := cell_at j8 0
      have g0 := cell_at jg 0
      have g1 := cell_at jg 1
      have gg := cell_at jg 2
      have d0 := cell_at jr 0
      have d1 := cell_at jr 1
      have d2 := cell_at jr 2
      have f0 := free_at jr 0
      have f1 := free_at jr 1
      have f2 := free_at jr 2
      have HK2 := Lib.hid hK
      clear hK
      have hQ := (((Put.refl jr).set 0 (.int .i64 (r : Int))).set 1 (.int .i64 (k : Int))).set 2 (.slice (some ⟨g2, 0, none⟩) l.length l.length)
      have HQ := Lib.hid hQ
      have hbl : w.heap.size + 1 + 1 < W.heap.size := by omega
      clear hQ
      go_wp2_with fail
      have hQ := HQ.out
      have hK3 := (hQ.other (k := D) (by omega)).trans HK2.out
      refine ⟨by simp, .inl ⟨_, _, rfl, run_takeDeferred hK3, ?_⟩⟩
      have e2 := (World.putObj_heap_other (o := .deferred none) (show w.heap.size + 1 + 1 ≠ D by omega)).trans (hQ.get hbl)
      refine ⟨.tuple #[.agg #[.int .i64 (r : Int), .int .i64 (k : Int), .slice (some ⟨g2, 0, none⟩) l.length l.length], .int .i64 0], ?_, ?_, .inr ⟨HR.out, g2, by omega, rfl, ?_⟩⟩
      · have d0 := cell_at e2 0
        have d1 := cell_at e2 1
        have d2 := cell_at e2 2
        simp [results, Try.results14, go_sem, d0, d1, d2]
      · exact (hB.trans (hQ.below (by omega))).trans (belowK_b (w := w) (Nat.le_refl _) _ D _ _ (by omega) hK3 rfl rfl)
      · exact (World.putObj_heap_other (by omega)).trans ((hQ.other (by omega)).trans jrow)
end Go.Proofs.Ytlehjbfhhikpiaa
