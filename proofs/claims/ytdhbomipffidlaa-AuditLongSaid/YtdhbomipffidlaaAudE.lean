/-
  How far a chain of entries goes: the program's iterator, and Chained.
-/
import Derived.Test.YtdhbomipffidlaaAudD
import Derived.Test.YtdhbomipffidlaaIter4
namespace Go.Proofs.Ytdhbomipffidlaa
open Go.RowKit Go.Shelf
attribute [local go_sem] Oper.semAt_some

/-- The iterator's own steps: all stays but the chain's box. -/
structure StC (bc : Nat) (A B : World) : Prop where
  below : Below bc A B
  others : ∀ k, k < A.heap.size → k ≠ bc → B.heap[k]? = A.heap[k]?
  box : ∃ cs T fr, A.heap[bc]? = some (.cells cs T fr)
/-- What a round leaves: all cells but one block's. -/
def KpC (bn : Nat) (A B : World) : Prop := ∀ (k : Nat) (cs : Array Value) (T : TypeId) (fr : Nat × Nat), k ≠ bn → A.heap[k]? = some (.cells cs T fr) → B.heap[k]? = some (.cells cs T fr)
theorem KpC.cell {bn : Nat} {A B : World} (h : KpC bn A B) {a : Addr} {v : Value} (hv : A.cell? a = some v) (hn : a.block ≠ bn) : B.cell? a = some v := by
  unfold World.cell? at hv ⊢
  split at hv
  · rename_i c T fr he
    rw [h _ _ _ _ hn he]
    exact hv
  · cases hv
theorem FourE.kp {bn b o : Nat} {A B : World} {e : Ent} (h : FourE A b o e) (k : KpC bn A B) (hn : b ≠ bn) : FourE B b o e := ⟨k.cell h.s hn, k.cell h.t hn, k.cell h.x hn, k.cell h.m hn⟩
theorem AtE.kp {bn B0 : Nat} {A B : World} {a : Option Addr} {l : LE} (h : AtE A B0 a l) (k : KpC bn A B) (hn : B0 ≤ bn) : AtE B B0 a l := fun hl => by
  obtain ⟨b, o, e, hlt, hc⟩ := h hl
  exact ⟨b, o, e, hlt, fun j hj => (hc j hj).kp k (by omega)⟩
/-- What the iterator reads: the list's box, the chain's. -/
structure EyeC (bl bc : Nat) (a b p : BitVec 64) (A : Option Addr) (N c B0 : Nat) (l : LE) (W : World) : Prop where
  kl : W.heap[bl]? = some (.cells #[.slice A N c] 25 (0, 0))
  kc : W.heap[bc]? = some (.cells #[.int .u64 (U a), .int .u64 (U b), .int .u64 (U p)] 60 (0, 0))
  at_ : AtE W B0 A l
theorem EyeC.kp {bl bc bn N c B0 : Nat} {a b p : BitVec 64} {A : Option Addr} {l : LE} {W W' : World} (h : EyeC bl bc a b p A N c B0 l W) (k : KpC bn W W') (h1 : bl ≠ bn) (h2 : bc ≠ bn) (h3 : B0 ≤ bn) : EyeC bl bc a b p A N c B0 l W' :=
  ⟨k _ _ _ _ h1 h.kl, k _ _ _ _ h2 h.kc, h.at_.kp k h3⟩
theorem EyeC.below {bl bc N c B0 : Nat} {a b p : BitVec 64} {A : Option Addr} {l : LE} {W W' : World} (h : EyeC bl bc a b p A N c B0 l W) (k : Below W.heap.size W W') (h0 : B0 ≤ bc) : EyeC bl bc a b p A N c B0 l W' :=
  ⟨keep h.kl k, keep h.kc k, h.at_.below (k.mono (by have := (Array.getElem?_eq_some_iff.1 h.kc).1; omega))⟩
/-- The same behind a store into the chain's box. -/
theorem EyeC.put {bl bc N c B0 : Nat} {a b p q : BitVec 64} {A : Option Addr} {l : LE} {W W' : World} (h : EyeC bl bc a b p A N c B0 l W) (k : Put W W' bc (.cells #[.int .u64 (U a), .int .u64 (U b), .int .u64 (U q)] 60 (0, 0))) (h1 : bl ≠ bc) (h0 : B0 ≤ bc) : EyeC bl bc a b q A N c B0 l W' :=
  ⟨(k.other h1).trans h.kl, k.get (Array.getElem?_eq_some_iff.1 h.kc).1, h.at_.below (k.below h0)⟩
theorem StC.refl {bc : Nat} {W : World} (h : ∃ cs T fr, W.heap[bc]? = some (.cells cs T fr)) : StC bc W W := ⟨Below.refl _ _, fun _ _ _ => rfl, h⟩
theorem StC.later {bc : Nat} {W W' : World} (h : ∃ cs T fr, W.heap[bc]? = some (.cells cs T fr)) (k : Below W.heap.size W W') : StC bc W W' := by
  have hlt : bc < W.heap.size := by obtain ⟨cs, T, fr, h⟩ := h; exact (Array.getElem?_eq_some_iff.1 h).1
  exact ⟨k.mono (by omega), fun i hi _ => k.block i hi, h⟩

set_option maxRecDepth 100000 in
set_option maxHeartbeats 4000000 in
theorem links1_st (n : Nat) (hn : 1 ≤ n) (bl bc bn : Nat) (h1 : bn < bc) (h2 : bc < bl) (a b p : BitVec 64) (A : Option Addr) (c N : Nat) (l : LE) (hN : l.length = N) (hN2 : N ≤ 65535) (B0 : Nat) (h0 : B0 ≤ bn) (hx : ∀ j, j < N → (nthE l j).x.size ≤ 60000) :
    SeqSt Fence.wide n Try.prog 40 #[.pointer (some ⟨bl, 0, none⟩), .pointer (some ⟨bc, 0, none⟩)] (fun x : Ent => #[x.val]) (KpC bn) (StC bc) (fun xs => xs.length = chainE a b p l) N (EyeC bl bc a b p A N c B0 l) := by
  intro ly J hJ hY W hj0 hE
  have HN := Lib.hid hN
  clear hN
  refine callsIn_of_wp Try.func40 rfl trivial ?_ rfl
  simp only [Try.ntmps40, List.size_toArray, List.length_cons, List.length_nil, Nat.reduceAdd, Nat.reduceSub, Array.replicate_succ, Array.replicate_zero, List.push_toArray, List.append_toArray, List.nil_append, List.cons_append]
  have e0 := cell_at hE.kl 0
  gi_wp2
  refine wpIn_scope_straight ?_
  gi_wp2
  refine wpIn_label ?_
  gi_wp2
  clear e0
  gi_loopw [9] (fun iv wr => ∃ (j : Nat) (pre : List Ent), iv = .int .i64 j ∧ pre.length = j ∧ j ≤ N ∧ EyeC bl bc a b (prevE p l j) A N c B0 l wr ∧ J pre wr ∧ ∀ i, i < j → linkE a b p l i = true) (fun iv _ => N - (intOf iv).toNat)
  case atStart => exact ⟨0, [], rfl, rfl, Nat.zero_le _, hE, hj0, fun i hi => absurd hi (by omega)⟩
  case round =>
    clear hE hj0
    obtain ⟨j, pre, rfl, hpre, hj, hE, hJj, hall⟩ := hrel
    obtain ⟨wo, rfl⟩ : ∃ wo : World, wo = wr := ⟨_, rfl⟩
    have HAll := Lib.hid hall
    have HPre := Lib.hid hpre
    clear hall hpre
    by_cases hlt : j < N
    · have hxj := hx j hlt
      have hlk : linkE a b p l j = decide ((nthE l j).m = sumE a b (prevE p l j) (nthE l j)) := rfl
      have hnext : prevE p l (j + 1) = (nthE l j).m := rfl
      obtain ⟨b1, o1, rfl, hb1, hc1⟩ := hE.at_ (by rw [HN.out]; omega)
      obtain ⟨y0, y1, y2, y3⟩ := hc1 j (by rw [HN.out]; exact hlt)
      have hc0 := cell_at hE.kc 0
      have hcc1 := cell_at hE.kc 1
      have hcc2 := cell_at hE.kc 2
      clear hc1
      generalize nthE l j = x at *
      generalize prevE p l j = q at *
      have HLk := Lib.hid hlk
      have HNext := Lib.hid hnext
      have HE := Lib.hid hE
      clear hlk hnext hE
      have z0 := fun o o' => old_cell (old_cell hc0 o) o'
      have z1 := fun o o' => old_cell (old_cell hcc1 o) o'
      have z2 := fun o o' => old_cell (old_cell hcc2 o) o'
      gi_wp2
      clear z0 z1 z2 hc0 hcc1 hcc2 y0 y1 y2 y3
      have hA : Below wo.heap.size wo ((wo.alloc (.cells #[.int .u64 (U x.s), .int .u64 (U x.t), .string x.x, .int .u64 (U x.m)] 41)).alloc (.cells #[.int .u64 (U x.s), .int .u64 (U x.t), .string x.x, .int .u64 (U x.m)] 41)) := ((Below.refl _ wo).alloc (Nat.le_refl _) _).alloc (by simp) _
      have k5 : ((wo.alloc (.cells #[.int .u64 (U x.s), .int .u64 (U x.t), .string x.x, .int .u64 (U x.m)] 41)).alloc (.cells #[.int .u64 (U x.s), .int .u64 (U x.t), .string x.x, .int .u64 (U x.m)] 41)).heap[wo.heap.size]? = some (.cells #[.int .u64 (U x.s), .int .u64 (U x.t), .string x.x, .int .u64 (U x.m)] 41 (0, 0)) := old_at (new_at _ _ _ rfl)
      have k6 : ((wo.alloc (.cells #[.int .u64 (U x.s), .int .u64 (U x.t), .string x.x, .int .u64 (U x.m)] 41)).alloc (.cells #[.int .u64 (U x.s), .int .u64 (U x.t), .string x.x, .int .u64 (U x.m)] 41)).heap[wo.heap.size + 1]? = some (.cells #[.int .u64 (U x.s), .int .u64 (U x.t), .string x.x, .int .u64 (U x.m)] 41 (0, 0)) := new_at _ _ _ (by simp)
      generalize ((wo.alloc (.cells #[.int .u64 (U x.s), .int .u64 (U x.t), .string x.x, .int .u64 (U x.m)] 41)).alloc (.cells #[.int .u64 (U x.s), .int .u64 (U x.t), .string x.x, .int .u64 (U x.m)] 41)) = wa at *
      refine ⟨trivial, (callsIn_wide.2 (Sum_any a b q x hxj wa)).mono ?_⟩
      rintro e wb ⟨rfl, hBb⟩
      replace k5 := keep k5 hBb
      replace k6 := keep k6 hBb
      have hAb := hA.trans (hBb.mono hA.size)
      have HAb := Lib.hid hAb
      clear hBb hA wa
      obtain ⟨v, hv⟩ : ∃ v, sumE a b q x = v := ⟨_, rfl⟩
      rw [hv] at HLk ⊢
      clear hv
      obtain ⟨b5, hb5⟩ : ∃ b5, wo.heap.size = b5 := ⟨_, rfl⟩
      rw [hb5] at k5 k6 ⊢
      have f3 := free_at k6 3
      have hP : Put wb (wb.setCell ⟨b5 + 1, 3, none⟩ (.int .u64 (U v))) (b5 + 1) (.cells #[.int .u64 (U x.s), .int .u64 (U x.t), .string x.x, .int .u64 (U v)] 41 (0, 0)) := (Put.refl k6).set 3 (.int .u64 (U v))
      have k5' := (hP.other (k := b5) (by omega)).trans k5
      have k6' := hP.get (Array.getElem?_eq_some_iff.1 k6).1
      have c50 := cell_at k5 0
      have c51 := cell_at k5 1
      have c52 := cell_at k5 2
      have c53 := cell_at k5 3
      have c60 := cell_at k6 0
      have c61 := cell_at k6 1
      have c62 := cell_at k6 2
      have c63 := cell_at k6 3
      have HP := Lib.hid hP
      have hne := fun W => ent_neq x ⟨x.s, x.t, x.x, v⟩ W
      have hq : decide (x = ⟨x.s, x.t, x.x, v⟩) = decide (x.m = v) := by
        obtain ⟨xs, xt, xx, xm⟩ := x
        rw [decide_eq_decide]
        exact ⟨fun h => by injection h, fun h => by rw [show xm = v from h]⟩
      rw [hq] at hne
      clear hP hq
      obtain ⟨r, hr⟩ : ∃ r, decide (x.m = v) = r := ⟨_, rfl⟩
      rw [hr] at hne HLk
      have HR := Lib.hid hr
      have K5 := Lib.hid k5'
      clear hr k5 k6 k5' k6'
      cases r with
      | false =>
        simp only [Bool.not_false] at hne
        have hbad : chainE a b p l = pre.length := by
          unfold chainE
          rw [HN.out, HPre.out]
          exact upTo_eq (by omega) (fun i hi => HAll.out i hi) (fun _ => HLk.out)
        have HB := Lib.hid hbad
        clear hbad
        have hst : StC bc wo (wb.setCell ⟨b5 + 1, 3, none⟩ (.int .u64 (U v))) := StC.later ⟨_, _, _, HE.out.kc⟩ (HAb.out.trans (HP.out.below (by omega)))
        have HJ := Lib.hid (hJ _ _ _ hJj hst)
        clear hst
        gi_wp2
        refine ⟨fun f h => (by cases h), ?_⟩
        gi_wp2
        rw [Exit.noGoto_normal]
        go_end0
        exact ⟨⟨_, rfl⟩, pre, HB.out.symm, HJ.out⟩
      | true =>
        simp only [Bool.not_true] at hne
        have hW1 : Below wo.heap.size wo (wb.setCell ⟨b5 + 1, 3, none⟩ (.int .u64 (U v))) := HAb.out.trans (HP.out.below (by omega))
        have hst : StC bc wo (wb.setCell ⟨b5 + 1, 3, none⟩ (.int .u64 (U v))) := StC.later ⟨_, _, _, HE.out.kc⟩ hW1
        have hbl := (Array.getElem?_eq_some_iff.1 HE.out.kl).1
        obtain ⟨fn, tmps, assign, body, hy, hR⟩ := hY pre x _ (hJ _ _ _ hJj hst) (by rw [HPre.out]; exact hlt)
        unfold Ent.val at hy
        have HE1 := Lib.hid (HE.out.below hW1 (by omega))
        have HR2 := Lib.hid hR
        clear hW1 hst hR
        gi_wp2
        refine HR2.out.mono ?_
        rintro e W3 ⟨rfl, hJ3, hk3⟩
        have hE3 := HE1.out.kp hk3 (by omega) (by omega) h0
        have k5 := hk3 _ _ _ _ (by omega) K5.out
        have HJ3 := Lib.hid hJ3
        clear hk3 hJ3 hy c50 c51 c52 c53 c60 c61 c62 c63
        have c53 := cell_at k5 3
        have cc2 := cell_at hE3.kc 2
        have ff2 := free_at hE3.kc 2
        have hPc : Put W3 (W3.setCell ⟨bc, 2, none⟩ (.int .u64 (U x.m))) bc (.cells #[.int .u64 (U a), .int .u64 (U b), .int .u64 (U x.m)] 60 (0, 0)) := (Put.refl hE3.kc).set 2 (.int .u64 (U x.m))
        have HPc := Lib.hid hPc
        have HE3 := Lib.hid hE3
        clear hPc hE3 k5
        gi_wp2
        go_roundw
        case rel => 
          refine ⟨j + 1, pre ++ [x], by go_num, by rw [List.length_append, List.length_singleton, HPre.out], by omega, ?_, ?_, ?_⟩
          · rw [HNext.out]
            exact HE3.out.put HPc.out (by omega) (by omega)
          · refine hJ _ _ _ HJ3.out ⟨HPc.out.below (Nat.le_refl _), fun k _ hk => HPc.out.other hk, ⟨_, _, _, HE3.out.kc⟩⟩
          · intro i hi
            by_cases hij : i < j
            · exact HAll.out i hij
            · obtain rfl : i = j := by omega
              exact HLk.out
        case measure => simp [intOf]; omega
    · have hbad : chainE a b p l = pre.length := by
        unfold chainE
        rw [HN.out, HPre.out]
        exact upTo_all.2 (fun i hi => HAll.out i (by omega)) |>.trans (by omega)
      have HB := Lib.hid hbad
      clear hbad
      gi_wp2
      rw [Exit.noGoto_normal]
      go_end0
      exact ⟨⟨_, rfl⟩, pre, HB.out.symm, hJj⟩

set_option maxRecDepth 100000 in
theorem links_any (a b p : BitVec 64) (v : Value) (hv : ∃ A n c, v = .slice A n c) (w : World) : Calls Try.prog 34 #[.agg #[.int .u64 (U a), .int .u64 (U b), .int .u64 (U p)], v] w fun e w' => e = .returned (.func (.func 40) #[] #[.pointer (some ⟨w.heap.size + 1, 0, none⟩), .pointer (some ⟨w.heap.size, 0, none⟩)]) ∧ w' = (w.alloc (.cells #[.int .u64 (U a), .int .u64 (U b), .int .u64 (U p)] 60)).alloc (.cells #[v] 25) := by
  obtain ⟨A, n, c, rfl⟩ := hv
  go_enter Try.func34, Try.ntmps34
  go_wp2
  go_ret
  exact ⟨rfl, rfl⟩

/-- Between two rounds of counting: the count's box. -/
def CntI (w : World) (bn : Nat) (n : Nat) (W : World) : Prop := Below w.heap.size w W ∧ W.heap[bn]? = some (.cells #[.int .i64 (n : Int)] 3 (0, 0))

set_option maxRecDepth 100000 in
set_option maxHeartbeats 4000000 in
theorem Chained_any (a b p : BitVec 64) (A : Option Addr) (c : Nat) (l : LE) (N : Nat) (hN : l.length = N) (hN2 : N ≤ 65535) (hx : ∀ j, j < N → (nthE l j).x.size ≤ 60000) (w : World) (hA : AtE w w.heap.size A l) :
    Calls Try.prog 18 #[.agg #[.int .u64 (U a), .int .u64 (U b)], .int .u64 (U p), .slice A N c] w fun e w' => e = .returned (.tuple #[.int .i64 (chainE a b p l : Nat), .bool (decide (chainE a b p l = N))]) ∧ Below w.heap.size w w' := by
  have HN := Lib.hid hN
  have hcl : chainE a b p l ≤ N := by unfold chainE; rw [hN]; exact upTo_le _ _
  have hdec : (((chainE a b p l : Nat) : Int) == (N : Int)) = decide (chainE a b p l = N) := by
    rw [Bool.eq_iff_iff, beq_iff_eq, decide_eq_true_iff]; omega
  obtain ⟨C, hC⟩ : ∃ C, chainE a b p l = C := ⟨_, rfl⟩
  rw [hC] at hcl hdec ⊢
  obtain ⟨D, hD⟩ : ∃ D, decide (C = N) = D := ⟨_, rfl⟩
  rw [hD] at hdec ⊢
  have HC := Lib.hid hC
  clear hN hC hD
  refine (callsIn_wide (n := 3)).1 ?_
  refine callsIn_of_wp_marks Try.func18 rfl trivial ?_ rfl
  simp only [Try.ntmps18, List.size_toArray, List.length_cons, List.length_nil, Nat.reduceAdd, Nat.reduceSub, Array.replicate_succ, Array.replicate_zero, List.push_toArray, List.append_toArray, List.nil_append, List.cons_append]
  refine wpIn_wide.2 ?_
  have HDec := Lib.hid hdec
  clear hdec
  go_wp2_with fail
  refine (links_any a b p _ ⟨_, _, _, rfl⟩ _).mono ?_
  rintro e w1 ⟨rfl, rfl⟩
  go_wp2_with fail
  refine abs_code (fun u => Below w.heap.size w u ∧ u.heap.size = w.heap.size + 4 ∧ u.heap[w.heap.size + 1]? = some (.cells #[.int .i64 0] 3) ∧ u.heap[w.heap.size + 1 + 1]? = some (.cells #[.int .u64 (U a), .int .u64 (U b), .int .u64 (U p)] 60) ∧ u.heap[w.heap.size + 1 + 1 + 1]? = some (.cells #[.slice A N c] 25))
    ⟨((((Below.refl _ w).alloc (Nat.le_refl _) _).alloc (by simp) _).alloc (by simp; omega) _).alloc (by simp; omega) _, by simp, old_at (old_at (new_at _ _ _ (by simp))), old_at (new_at _ _ _ (by simp)), new_at _ _ _ (by simp)⟩ ?_
  rintro u ⟨hB, hsz, kn, kc, kl⟩
  have hAu := hA.below hB
  refine (wpIn_wide (n := 3)).1 ?_
  refine wpIn_rangeFunc_kp (F := Fence.wide) (n := 3) rfl (by omega) (gf := 40) (lb := #[.pointer (some ⟨w.heap.size + 1 + 1 + 1, 0, none⟩), .pointer (some ⟨w.heap.size + 1 + 1, 0, none⟩)]) rfl trivial (enters_of Try.func40 (by kernel_rfl) rfl)
    (links1_st 2 (by omega) (w.heap.size + 1 + 1 + 1) (w.heap.size + 1 + 1) (w.heap.size + 1) (by omega) (by omega) a b p A c N l HN.out hN2 w.heap.size (by omega) hx)
    ?pre (fun h k i cs T fr hi hk => k _ _ _ _ hi (h _ _ _ _ hi hk)) ?kb ?st (fun _ => rfl)
    (fun pre W => CntI w (w.heap.size + 1) pre.length W ∧ w.heap.size + 4 ≤ W.heap.size)
    ?own ?ownst ⟨⟨hB, kn⟩, by omega⟩
    ?a1 ?assign ?body ?done
  case assign =>
    intro ly x W K hK
    gi_wp2
    exact hK
  case pre =>
    intro W hW
    exact ⟨(hW.block _ (by omega)).trans kl, (hW.block _ (by omega)).trans kc, hAu.below (hW.mono (by omega))⟩
  case kb =>
    intro W ly o o' ho hc k cs T fr hk hh
    have hne : k ≠ ly := by
      rintro rfl
      rw [hh] at ho
      injection ho with ho
      subst ho
      cases hc
    exact (World.putObj_heap_other hne).trans hh
  case st =>
    intro A B k o h hk hc
    obtain ⟨cs, T, fr, hb⟩ := h.box
    have hne : k ≠ w.heap.size + 1 + 1 := by
      rintro rfl
      rw [hb] at hk
      injection hk with hk
      subst hk
      cases hc
    exact (h.others k (Array.getElem?_eq_some_iff.1 hk).1 hne).trans hk
  case own =>
    refine OwnFrom.and (OwnFrom.and (ownFrom_below (Nat.le_refl _) hB.size) (Own.from ?_ _)) (fun s A B row hs hg hr => Nat.le_trans hs hg.size)
    intro pre A B row h hg hr
    exact cells_kept h hg hr
  case ownst =>
    rintro pre A B ⟨⟨h1, h2⟩, h3⟩ hst
    exact ⟨⟨h1.trans (hst.below.mono (by omega)), (hst.others _ (by omega) (by omega)).trans h2⟩, Nat.le_trans h3 hst.below.size⟩
  case body =>
    rintro lr pre x W ⟨⟨h1, h2⟩, h3⟩ hlen
    have c0 := cell_at h2 0
    have f0 := free_at h2 0
    have hP : Put W (W.setCell ⟨w.heap.size + 1, 0, none⟩ (.int .i64 ((pre.length : Int) + 1))) (w.heap.size + 1) (.cells #[.int .i64 ((pre.length : Int) + 1)] 3 (0, 0)) := (Put.refl h2).set 0 _
    have HP := Lib.hid hP
    clear hP
    gi_wp2
    have hP := HP.out
    refine ⟨((KeepsOthers.setCell W ⟨w.heap.size + 1, 0, none⟩ _).from _), fun k cs T fr hk hh => (hP.other hk).trans hh, h1.trans (hP.below (by omega)), ?_⟩
    exact hP.get (Array.getElem?_eq_some_iff.1 h2).1
  case done =>
    rintro Dd xs W hDd hS ⟨⟨h1, h2⟩, h3⟩ hK
    have hS : xs.length = chainE a b p l := hS
    rw [hS, HC.out] at h2
    have c0 := cell_at h2 0
    have hdec := HDec.out
    have HK := Lib.hid hK
    clear hK hS
    go_wp2_with fail
    go_quiet (fail)
    go_wp2_with fail
    refine ⟨by simp, .inl ⟨_, _, rfl, run_takeDeferred HK.out, ?_⟩⟩
    refine ⟨_, results_tmp2 rfl _ _ _, rfl, ?_⟩
    exact (dn h1 _).trans (belowK_b (w := w) (Nat.le_refl _) _ Dd _ _ (by omega) HK.out rfl rfl)
end Go.Proofs.Ytdhbomipffidlaa
