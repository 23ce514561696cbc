/-
  What is made, added, merged, lowered, where the counters are right; counters of items.
-/
import Derived.Test.YtlehjbfhhikpiaaCmsR
import Derived.Test.YtlehjbfhhikpiaaCmsO
import Derived.Test.YtlehjbfhhikpiaaCmsMakes0
import Derived.Test.YtlehjbfhhikpiaaMixL
namespace Go.Proofs.Ytlehjbfhhikpiaa
open Go.RowKit Go.Shelf
attribute [local go_sem] Oper.semAt_some calmOp calmUpon effOp effUpon

/-- So many rows and columns may be, and this is how many counters they have. -/
def Fit (r k q : Nat) : Prop := 1 ≤ r ∧ r ≤ 4 ∧ (k = 4 ∨ k = 8 ∨ k = 16 ∨ k = 32) ∧ q = r * k
theorem Fit.sz {r k q : Nat} (h : Fit r k q) : isSz (r : Int) (k : Int) = true := by
  obtain ⟨h1, h2, h3, _⟩ := h
  unfold isSz
  simp only [Bool.and_eq_true, Bool.or_eq_true, decide_eq_true_eq, beq_iff_eq]
  omega
theorem Fit.q {r k q : Nat} (h : Fit r k q) : r * k = q := h.2.2.2.symm
theorem Fit.right {r k q : Nat} (h : Fit r k q) : isRight (r : Int) (k : Int) q = true := by
  unfold isRight
  rw [h.sz, ← h.q]
  simp
theorem Fit.of {R C : Int} (h : isSz R C = true) : ∃ r k q : Nat, R = (r : Int) ∧ C = (k : Int) ∧ Fit r k q := by
  obtain ⟨h1, h2, h3⟩ := isSz_out h
  obtain ⟨r, rfl⟩ := Int.eq_ofNat_of_zero_le (a := R) (by omega)
  obtain ⟨k, rfl⟩ := Int.eq_ofNat_of_zero_le (a := C) (by omega)
  exact ⟨r, k, r * k, rfl, rfl, by omega, by omega, by omega, rfl⟩
theorem Fit.pos {r k q : Nat} (h : Fit r k q) : 0 < k ∧ k ≤ 32 ∧ 0 < r := by unfold Fit at h; omega
theorem Fit.le {r k q : Nat} (h : Fit r k q) : q ≤ 128 := by rw [← h.q]; exact Nat.le_trans (Nat.mul_le_mul h.2.1 h.pos.2.1) (by omega)
theorem Fit.len {r k q : Nat} (h : Fit r k q) : 0 < q := by rw [← h.q]; exact Nat.mul_pos h.pos.2.2 h.pos.1
theorem zeros_length (n : Nat) : (zeros n).length = n := by simp [zeros]

/-- Right counters of the call's own, and that nothing is wrong. -/
def Made (r k q : Nat) (l : List (BitVec 64)) (w : World) (e : Ending) (w' : World) : Prop :=
  Below w.heap.size w w' ∧ ∃ g c : Nat, e = .returned (.tuple #[.agg #[.int .i64 (r : Int), .int .i64 (k : Int), .slice (some ⟨g, 0, none⟩) q c], .int .i64 0]) ∧ w.heap.size ≤ g ∧ RowP w' g 25 l

theorem Row.rowP {w : World} {b : Nat} {T : TypeId} {l : List (BitVec 64)} (h : Row w b T l) : RowP w b T l := ⟨[], by rw [List.append_nil]; exact h⟩
theorem OwnL.rowP {W : World} {base n c : Nat} {A : Option Addr} {l : List (BitVec 64)} (h : OwnL W base (.slice A n c) l) (h0 : 0 < l.length) : ∃ g, A = some ⟨g, 0, none⟩ ∧ base ≤ g ∧ RowP W g 25 l := by
  rcases h.2 with ⟨_, h1⟩ | ⟨g, cap, cur, h1, hb, hh, hn, _, hc, ht⟩
  · omega
  · injection h1 with e1 _ _
    refine ⟨g, e1, hb, cur.toList.drop l.length, ?_⟩
    rw [hh]
    congr 2
    rw [← ht, Nat.mul_one, List.take_append_drop]

theorem New_made {r k q : Nat} (hf : Fit r k q) (w : World) : Calls Try.prog 12 #[.int .i64 (r : Int), .int .i64 (k : Int)] w (Made r k q (zeros q) w) :=
  (New_any r k w).mono fun e w' ⟨hB, h⟩ => by
    refine ⟨hB, ?_⟩
    rcases h with ⟨hz, _⟩ | ⟨hz, n, g, hn, hg, rfl, hr⟩
    · rw [hf.sz] at hz; cases hz
    · have e : n = q := by
        have e2 : ((r * k : Nat) : Int) = (r : Int) * (k : Int) := by simp
        have := hf.q
        omega
      subst e
      exact ⟨g, n, rfl, hg, hr.rowP⟩
theorem New_none {R C : Int} (hz : isSz R C = false) (w : World) : Calls Try.prog 12 #[.int .i64 R, .int .i64 C] w fun e w' => Below w.heap.size w w' ∧ e = .returned (.tuple #[.agg #[.int .i64 0, .int .i64 0, .slice none 0 0], .int .i64 80]) :=
  (New_any R C w).mono fun e w' ⟨hB, h⟩ => by
    rcases h with ⟨_, rfl⟩ | ⟨hz2, _⟩
    · exact ⟨hB, rfl⟩
    · rw [hz] at hz2; cases hz2
theorem Add_made {r k q : Nat} (hf : Fit r k q) (A : Option Addr) (c : Nat) (l : List (BitVec 64)) (hl : l.length = q) (x m : BitVec 64) (w : World) (hA : At w w.heap.size A l) :
    Calls Try.prog 14 #[.agg #[.int .i64 (r : Int), .int .i64 (k : Int), .slice A q c], .int .u64 (U x), .int .u64 (U m)] w (Made r k q (addF r k x m l) w) := by
  have h := Add_any r k A c l x m w hA
  rw [hl] at h
  refine h.mono fun e w' ⟨hB, h⟩ => ⟨hB, ?_⟩
  rcases h with ⟨hz, _⟩ | ⟨hz, g, hg, rfl, hr⟩
  · rw [hf.right] at hz; cases hz
  · exact ⟨g, q, rfl, hg, hr.rowP⟩
theorem Merge_made {r k q : Nat} (hf : Fit r k q) (A A' : Option Addr) (c c' : Nat) (l l' : List (BitVec 64)) (hl : l.length = q) (hl' : l'.length = q) (w : World) (hA : At w w.heap.size A l) (hA' : At w w.heap.size A' l') :
    Calls Try.prog 24 #[.agg #[.int .i64 (r : Int), .int .i64 (k : Int), .slice A q c], .agg #[.int .i64 (r : Int), .int .i64 (k : Int), .slice A' q c']] w (Made r k q (joinTo k (pairAt k l l') r) w) := by
  have h := Merge_own r k A c l r k A' c' l' w hA hA'
  have e1 : mergeR r k l r k l' = ⟨r, k, joinTo k (pairAt k l l') r, 0⟩ := by
    unfold mergeR mergeOk
    rw [hl, hl', hf.right]
    simp [pickCt]
  have e2 : (joinTo k (pairAt k l l') r).length = q := by rw [joinTo_length, hf.q]
  rw [e1, hl, hl'] at h
  refine h.mono fun e w' ⟨hB, A2, c2, he, ho⟩ => ⟨hB, ?_⟩
  obtain ⟨g, rfl, hg, hr⟩ := ho.rowP (by show 0 < (joinTo k (pairAt k l l') r).length; rw [e2]; exact hf.len)
  exact ⟨g, c2, by rw [he]; show Ending.returned (.tuple #[.agg #[_, _, .slice _ (joinTo k (pairAt k l l') r).length c2], _]) = _; rw [e2], hg, hr⟩

/-- Pairs of numbers lie in memory. -/
def nthI (l : List (BitVec 64 × BitVec 64)) (j : Nat) : BitVec 64 × BitVec 64 := l.getD j (0, 0)
def ItAt (w : World) (B : Nat) (A : Option Addr) (l : List (BitVec 64 × BitVec 64)) : Prop :=
  0 < l.length → ∃ b o, A = some ⟨b, o, none⟩ ∧ b < B ∧ ∀ j, j < l.length → w.cell? ⟨b, o + j * 2, none⟩ = some (.int .u64 (U (nthI l j).1)) ∧ w.cell? ⟨b, o + j * 2 + 1, none⟩ = some (.int .u64 (U (nthI l j).2))
theorem nthI_get {l : List (BitVec 64 × BitVec 64)} {j : Nat} (h : j < l.length) : l[j]? = some (nthI l j) := by
  unfold nthI
  rw [List.getD_eq_getElem?_getD, List.getElem?_eq_getElem h]
  rfl
theorem ItAt.nil {w : World} {B : Nat} {A : Option Addr} : ItAt w B A [] := fun h => absurd h (by simp)
theorem ItAt.below {w w' : World} {B : Nat} {A : Option Addr} {l : List (BitVec 64 × BitVec 64)} (h : ItAt w B A l) (hb : Below B w w') : ItAt w' B A l := fun hl => by
  obtain ⟨b, o, e, hlt, hc⟩ := h hl
  exact ⟨b, o, e, hlt, fun j hj => ⟨(hb.cell (by exact hlt)).trans (hc j hj).1, (hb.cell (by exact hlt)).trans (hc j hj).2⟩⟩
theorem ItAt.mono {w : World} {B B' : Nat} {A : Option Addr} {l : List (BitVec 64 × BitVec 64)} (h : ItAt w B A l) (hB : B ≤ B') : ItAt w B' A l := fun hl => by
  obtain ⟨b, o, e, hlt, hc⟩ := h hl
  exact ⟨b, o, e, by omega, hc⟩
theorem ItAt.later {w w' : World} {A : Option Addr} {l : List (BitVec 64 × BitVec 64)} (h : ItAt w w.heap.size A l) (hb : Below w.heap.size w w') : ItAt w' w'.heap.size A l := (h.below hb).mono hb.size
theorem ItAt.take {w : World} {B : Nat} {A : Option Addr} {l : List (BitVec 64 × BitVec 64)} (h : ItAt w B A l) (n : Nat) : ItAt w B A (l.take n) := fun hl => by
  have hl2 : 0 < l.length := by simp at hl; omega
  obtain ⟨b, o, e, hlt, hc⟩ := h hl2
  refine ⟨b, o, e, hlt, fun j hj => ?_⟩
  have hj2 : j < l.length := by simp at hj; omega
  have hjn : j < n := by simp at hj; omega
  have e2 : nthI (l.take n) j = nthI l j := by
    unfold nthI
    rw [List.getD_eq_getElem?_getD, List.getD_eq_getElem?_getD, List.getElem?_take, if_pos hjn]
  rw [e2]
  exact hc j hj2
theorem ofL_snoc (r k : Nat) (its : List (BitVec 64 × BitVec 64)) (l : List (BitVec 64)) (j : Nat) (h : j < its.length) : ofL r k (its.take (j + 1)) l = addF r k (nthI its j).1 (nthI its j).2 (ofL r k (its.take j) l) := by
  have e : its.take (j + 1) = its.take j ++ [nthI its j] := by
    rw [List.take_add_one, nthI_get h]
    rfl
  rw [e]
  unfold ofL
  rw [List.foldl_append]
  rfl

theorem keep {w w' : World} {b : Nat} {o : Obj} (h : w.heap[b]? = some o) (hB : Below w.heap.size w w') : w'.heap[b]? = some o := (hB.block b (Array.getElem?_eq_some_iff.1 h).1).trans h
theorem At.later {w w' : World} {A : Option Addr} {l : List (BitVec 64)} (h : At w w.heap.size A l) (hb : Below w.heap.size w w') : At w' w'.heap.size A l := (h.below hb).mono hb.size
theorem RowP.later {w w' : World} {b : Nat} {T : TypeId} {l : List (BitVec 64)} (h : RowP w b T l) (hb : Below w.heap.size w w') : RowP w' b T l := h.of (hb.block b h.lt)

set_option maxRecDepth 100000 in
set_option maxHeartbeats 2000000 in
theorem of_bad {R C : Int} (hz : isSz R C = false) (A : Option Addr) (n c : Nat) (w : World) : Calls Try.prog 23 #[.int .i64 R, .int .i64 C, .slice A n c] w fun e w' =>
    e = .returned (.tuple #[.agg #[.int .i64 0, .int .i64 0, .slice none 0 0], .int .i64 80]) ∧ Below w.heap.size w w' := by
  by_cases h0 : 0 < n
  all_goals
    go_enter Try.func23, Try.ntmps23
    go_wp2_with fail
    refine (New_none hz _).mono ?_
    rintro e w1 ⟨hB1, rfl⟩
    have kr := (hB1.block w.heap.size (by simp)).trans (new_at w _ _ rfl)
    have hBw1 : Below w.heap.size w w1 := ((Below.refl _ w).alloc (Nat.le_refl _) _).trans (hB1.mono (by simp))
    have hs1 : w.heap.size + 1 ≤ w1.heap.size := by have := hB1.size; simp at this; omega
    have d0 := old_cell (cell_at kr 0)
    have d1 := old_cell (cell_at kr 1)
    have d2 := old_cell (cell_at kr 2)
    have fr := free_at (old_at (o := .cells #[.int .i64 0, .int .i64 0, .slice none 0 0] 24) kr)
    have f0 := fr 0
    have f1 := fr 1
    have f2 := fr 2
    clear fr hB1
    go_wp2_with fail
    refine wp_loop_rounds 1 ?_
    rw [rounds_succ]
    go_wp2_with fail
    refine bodyPost_ret (v := .tuple #[.agg #[.int .i64 0, .int .i64 0, .slice none 0 0], .int .i64 80]) ?_ rfl ⟨rfl, ?_⟩
    · simp [results, Try.results23, go_sem, d0, d1, d2]
    · exact (((hBw1.alloc hBw1.size _).setCell (by simp) _).setCell (by simp) _).setCell (by simp) _

set_option maxRecDepth 100000 in
set_option maxHeartbeats 4000000 in
theorem of_made {r k q : Nat} (hf : Fit r k q) (A : Option Addr) (n c : Nat) (its : List (BitVec 64 × BitVec 64)) (hn : its.length = n) (hn2 : n ≤ 65536) (w : World) (hA : ItAt w w.heap.size A its) :
    Calls Try.prog 23 #[.int .i64 (r : Int), .int .i64 (k : Int), .slice A n c] w (Made r k q (ofZ r k its) w) := by
  have HN := Lib.hid hn
  have HQ := Lib.hid hf.q
  clear hn
  go_enter Try.func23, Try.ntmps23
  go_wp2_with fail
  refine (New_made hf _).mono ?_
  rintro e w1 ⟨hB1, g1, c1, rfl, hg1, hrow1⟩
  have kr := (hB1.block w.heap.size (by simp)).trans (new_at w _ _ rfl)
  have hBw1 : Below w.heap.size w w1 := ((Below.refl _ w).alloc (Nat.le_refl _) _).trans (hB1.mono (by simp))
  have hs1 : w.heap.size + 1 ≤ w1.heap.size := by have := hB1.size; simp at this; omega
  simp only [World.size_alloc] at hg1
  clear hB1
  go_wp2_with fail
  obtain ⟨bx, hbx⟩ : ∃ b, w1.heap.size = b := ⟨_, rfl⟩
  have kx := new_at w1 (.cells #[.int .i64 (r : Int), .int .i64 (k : Int), .slice (some ⟨g1, 0, none⟩) q c1] 24) bx hbx.symm
  have kr' := old_at (o := .cells #[.int .i64 (r : Int), .int .i64 (k : Int), .slice (some ⟨g1, 0, none⟩) q c1] 24) kr
  have hrow' : RowP (w1.alloc (.cells #[.int .i64 (r : Int), .int .i64 (k : Int), .slice (some ⟨g1, 0, none⟩) q c1] 24)) g1 25 (zeros q) := hrow1.later ((Below.refl _ w1).alloc (Nat.le_refl _) _)
  have hB0 := hBw1.alloc hBw1.size (.cells #[.int .i64 (r : Int), .int .i64 (k : Int), .slice (some ⟨g1, 0, none⟩) q c1] 24)
  rw [hbx] at hs1 ⊢
  have hg1lt := hrow1.lt
  rw [hbx] at hg1lt
  clear hbx kr hrow1 hBw1
  generalize w1.alloc (.cells #[.int .i64 (r : Int), .int .i64 (k : Int), .slice (some ⟨g1, 0, none⟩) q c1] 24) = W1 at *
  have hbxl := (Array.getElem?_eq_some_iff.1 kx).1
  go_loopw [9, 10] (fun ev iv wr => ∃ j : Nat, j ≤ n ∧ ev = .int .i64 0 ∧ iv = .int .i64 j ∧ bx < wr.heap.size ∧ Below w.heap.size w wr ∧ wr.heap[w.heap.size]? = some (.cells #[.int .i64 0, .int .i64 0, .slice none 0 0] 24 (0, 0)) ∧
      ∃ g c : Nat, wr.heap[bx]? = some (.cells #[.int .i64 (r : Int), .int .i64 (k : Int), .slice (some ⟨g, 0, none⟩) q c] 24 (0, 0)) ∧ w.heap.size + 1 ≤ g ∧ g ≠ bx ∧ RowP wr g 25 (ofL r k (its.take j) (zeros q))) (fun _ iv _ => n - (intOf iv).toNat)
  case atStart => exact ⟨0, Nat.zero_le _, rfl, rfl, hbxl, hB0, kr', g1, c1, kx, by omega, by omega, hrow'⟩
  case round =>
    obtain ⟨j, hj, rfl, rfl, hz, hB, jr, g, c2, jx, hg, hgx, jrow⟩ := hrel
    clear kx kr' hrow' hB0 hbxl
    obtain ⟨wo, rfl⟩ : ∃ wo : World, wo = wr := ⟨_, rfl⟩
    by_cases hjn : j < n
    · obtain ⟨b, o, rfl, hb, hc⟩ := hA (by rw [HN.out]; omega)
      obtain ⟨y0, y1⟩ := hc j (by rw [HN.out]; exact hjn)
      have y0 := (hB.cell (p := ⟨b, o + j * 2, none⟩) hb).trans y0
      have y1 := (hB.cell (p := ⟨b, o + j * 2 + 1, none⟩) hb).trans y1
      have hsn := ofL_snoc r k its (zeros q) j (by rw [HN.out]; exact hjn)
      have hlen : (ofL r k (its.take j) (zeros q)).length = q := by rw [ofL_length, zeros_length]
      obtain ⟨L, hL⟩ : ∃ L, ofL r k (its.take j) (zeros q) = L := ⟨_, rfl⟩
      rw [hL] at jrow hsn hlen
      have HS := Lib.hid hsn
      have HLn := Lib.hid hlen
      have hbo : b < wo.heap.size := by have := hB.size; omega
      have l0 : ∀ s : Later wo.heap.size wo, s.W.cell? ⟨bx, 0, none⟩ = some _ := fun s => s.cell (cell_at jx 0) hz
      have l1 : ∀ s : Later wo.heap.size wo, s.W.cell? ⟨bx, 1, none⟩ = some _ := fun s => s.cell (cell_at jx 1) hz
      have l2 : ∀ s : Later wo.heap.size wo, s.W.cell? ⟨bx, 2, none⟩ = some _ := fun s => s.cell (cell_at jx 2) hz
      have l3 : ∀ s : Later wo.heap.size wo, s.W.cell? ⟨b, o + j * 2, none⟩ = some _ := fun s => s.cell y0 hbo
      have l4 : ∀ s : Later wo.heap.size wo, s.W.cell? ⟨b, o + j * 2 + 1, none⟩ = some _ := fun s => s.cell y1 hbo
      clear hc hsn hL hlen y0 y1
      go_wp2_with fail
      refine region_mix_last_plain (C := fun W' => ∃ s : Later wo.heap.size wo, W' = s.W) (List.replicate 11 0 ++ [1, 0, 0, 3, 2, 3]) (by kernel_rfl) (by kernel_rfl) (by kernel_rfl) (by kernel_rfl) (by kernel_rfl) ⟨⟨wo.drew, (Below.refl _ wo).drew⟩, rfl⟩ ?_
      simp only [List.replicate_succ, List.replicate_zero, List.nil_append, List.cons_append]
      repeat (refine wpL_calm (fun K hK => ?_); go_simp; refine hK _ ?_; clear hK K)
      refine wpL_eff rfl (fun K hK => ?_)
      go_simp
      refine ⟨trivial, (callsIn_wide.2 (Add_made hf (some ⟨g, 0, none⟩) c2 L HLn.out (nthI its j).1 (nthI its j).2 wo.drew ((RowP.of (w := wo) rfl jrow).at_ jrow.lt))).mono ?_⟩
      rintro e w3 ⟨hB3, g3, c3, rfl, hg3, hrow3⟩
      have hD3 : Below wo.heap.size wo w3 := (Below.refl wo.heap.size wo).drew.trans hB3
      refine ⟨_, rfl, hK _ _ ⟨⟨_, hD3⟩, rfl⟩ ?_⟩
      clear hK K
      repeat (refine wpL_calm (fun K hK => ?_); go_simp; refine hK _ ?_; clear hK K)
      refine wpL_plain (fun K hK => ?_)
      go_simp
      refine hK _ ?_
      clear hK K
      have hg3' : wo.heap.size ≤ g3 := hg3
      have mx := keep jx hD3
      have mr := keep jr hD3
      have hmx := (Array.getElem?_eq_some_iff.1 mx).1
      have x0 := cell_at mx 0
      have x1 := cell_at mx 1
      have x2 := cell_at mx 2
      have f0 := free_at mx 0
      have f1 := free_at mx 1
      have f2 := free_at mx 2
      have hP := (((Put.refl mx).set 0 (.int .i64 (r : Int))).set 1 (.int .i64 (k : Int))).set 2 (.slice (some ⟨g3, 0, none⟩) q c3)
      clear l0 l1 l2 l3 l4 jx jr jrow hB3
      refine wpL_last rfl (fun K hK => ?_)
      have HP := Lib.hid hP
      clear hP
      go_simp
      refine hK _ _ ?_
      clear hK K x0 x1 x2 f0 f1 f2
      refine wpL_plain (fun K hK => ?_)
      go_simp
      refine hK _ ?_
      clear hK K
      refine wpL_nil ?_
      go_wp2_with fail
      have hP := HP.out
      go_roundw
      case rel =>
        refine ⟨j + 1, by omega, rfl, by go_num, by rw [hP.size]; exact hmx, (hB.trans (hD3.mono hB.size)).trans (hP.below (by omega)), (hP.other (by omega)).trans mr, g3, c3, hP.get hmx, by omega, by omega, ?_⟩
        rw [HS.out]
        exact hrow3.of (hP.other (by omega))
      case measure => simp [intOf]; omega
    · obtain rfl : j = n := by omega
      have x0 := cell_at jx 0
      have x1 := cell_at jx 1
      have x2 := cell_at jx 2
      have d0 := cell_at jr 0
      have d1 := cell_at jr 1
      have d2 := cell_at jr 2
      have f0 := free_at jr 0
      have f1 := free_at jr 1
      have f2 := free_at jr 2
      have hP := (((Put.refl jr).set 0 (.int .i64 (r : Int))).set 1 (.int .i64 (k : Int))).set 2 (.slice (some ⟨g, 0, none⟩) q c2)
      have HP := Lib.hid hP
      clear hP
      go_wp2_with fail
      have hP := HP.out
      refine bodyPost_ret (v := .tuple #[.agg #[.int .i64 (r : Int), .int .i64 (k : Int), .slice (some ⟨g, 0, none⟩) q c2], .int .i64 0]) ?_ rfl ⟨?_, g, c2, rfl, by omega, ?_⟩
      · simp [results, Try.results23, go_sem, d0, d1, d2]
      · exact hB.trans (hP.below (by omega))
      · unfold ofZ
        rw [HQ.out]
        rw [List.take_of_length_le (by rw [HN.out]; exact Nat.le_refl _)] at jrow
        exact jrow.of (hP.other (by omega))

/-- Counts, and whether they are the same or right, of right counters. -/
theorem Count_fit {r k q : Nat} (hf : Fit r k q) (A : Option Addr) (c : Nat) (l : List (BitVec 64)) (hl : l.length = q) (x : BitVec 64) (w : World) (hA : At w w.heap.size A l) :
    Calls Try.prog 21 #[.agg #[.int .i64 (r : Int), .int .i64 (k : Int), .slice A q c], .int .u64 (U x)] w fun e w' => Below w.heap.size w w' ∧ e = .returned (.int .u64 (U (countF r k x l))) := by
  have h := Count_any r k A c l x w hA
  have e : countAt (r : Int) (k : Int) x l = countF r k x l := by
    unfold countAt
    rw [hl, if_pos hf.right]
    rfl
  rw [e, hl] at h
  exact h
theorem Same_fit {r k q : Nat} (hf : Fit r k q) (A A' : Option Addr) (c c' : Nat) (l : List (BitVec 64)) (hl : l.length = q) (w : World) (hA : At w w.heap.size A l) (hA' : At w w.heap.size A' l) :
    Calls Try.prog 27 #[.agg #[.int .i64 (r : Int), .int .i64 (k : Int), .slice A q c], .agg #[.int .i64 (r : Int), .int .i64 (k : Int), .slice A' q c']] w fun e w' => e = .returned (.bool true) ∧ Below w.heap.size w w' := by
  have h := Same_any r k r k A A' c c' l l (by rw [hl]; have := hf.le; omega) w hA hA'
  rw [sameF_self, hl] at h
  exact h
theorem Right_fit {r k q : Nat} (hf : Fit r k q) (A : Option Addr) (c : Nat) (w : World) :
    Calls Try.prog 16 #[.agg #[.int .i64 (r : Int), .int .i64 (k : Int), .slice A q c]] w fun e w' => e = .returned (.bool true) ∧ Below w.heap.size w w' := by
  have h := right_any r k A q c w
  rw [hf.right] at h
  exact h
theorem Lower_made {r k h q p : Nat} (hk : k = 2 * h) (hf : Fit r k q) (hh : Fit r h p) (A : Option Addr) (c : Nat) (l : List (BitVec 64)) (hl : l.length = q) (w : World) (hA : At w w.heap.size A l) :
    Calls Try.prog 26 #[.agg #[.int .i64 (r : Int), .int .i64 (k : Int), .slice A q c]] w fun e w' => Below w.heap.size w w' ∧
      ∃ (A' : Option Addr) (c' : Nat), e = .returned (.tuple #[.agg #[.int .i64 (r : Int), .int .i64 (h : Int), .slice A' p c'], .int .i64 0]) ∧ At w' w'.heap.size A' (joinTo h (lowPair k l) r) := by
  subst hk
  have h0 := Lower_gives r (2 * h : Nat) A c l w hA
  have e4 : (((2 * h : Nat) : Int) == 4) = false := by
    rw [beq_eq_false_iff_ne]
    have := hh.2.2.1
    omega
  have e1 : lowerR r (2 * h : Nat) l = ⟨r, h, joinTo h (lowPair (2 * h) l) r, 0⟩ := by
    unfold lowerR
    rw [hl, hf.right, e4]
    have e2 : ((2 * h : Nat) : Int).toNat = 2 * h := by omega
    have e3 : 2 * h / 2 = h := by omega
    rw [e2, e3]
    simp [pickCt]
  rw [e1, hl] at h0
  refine h0.mono fun e w' ⟨hB, A2, c2, he, ho⟩ => ⟨hB, A2, c2, ?_, ho⟩
  rw [he]
  show Ending.returned (.tuple #[.agg #[_, _, .slice _ (joinTo h (lowPair (2 * h) l) r).length c2], _]) = _
  rw [joinTo_length, hh.q]
theorem Lower_least4 {r q : Nat} (A : Option Addr) (c : Nat) (l : List (BitVec 64)) (hl : l.length = q) (w : World) (hA : At w w.heap.size A l) :
    Calls Try.prog 26 #[.agg #[.int .i64 (r : Int), .int .i64 4, .slice A q c]] w fun e w' => Below w.heap.size w w' ∧ ∃ (A' : Option Addr) (c' : Nat), e = .returned (.tuple #[.agg #[.int .i64 0, .int .i64 0, .slice A' 0 c'], .int .i64 80]) := by
  have h0 := Lower_gives r 4 A c l w hA
  have e1 : lowerR r 4 l = ⟨0, 0, [], 80⟩ := by
    unfold lowerR
    simp [pickCt]
  rw [e1, hl] at h0
  exact h0.mono fun e w' ⟨hB, A2, c2, he, _⟩ => ⟨hB, A2, c2, he⟩
theorem Count_none (A : Option Addr) (c : Nat) (x : BitVec 64) (w : World) :
    Calls Try.prog 21 #[.agg #[.int .i64 0, .int .i64 0, .slice A 0 c], .int .u64 (U x)] w fun e w' => Below w.heap.size w w' ∧ e = .returned (.int .u64 0) := by
  have h := Count_any 0 0 A c [] x w At.nil
  exact h
end Go.Proofs.Ytlehjbfhhikpiaa
