/-
  An entry appended: by the reference. Printed by gen_aud.py.
-/
import Derived.Test.YtdhbomipffidlaaAudJ
import Derived.Test.YtdhbomipffidlaaAudH
import Derived.Test.YtdhbomipffidlaaPlan
namespace Go.Proofs.Ytdhbomipffidlaa
open Go.RowKit Go.Shelf
attribute [local go_sem] Oper.semAt_some calmOp calmUpon effOp effUpon

/-- A whole list appended onto none. -/
theorem append_list_e (w : World) (base : Nat) (A : Option Addr) (B c : Nat) (l : LE) (N : Nat) (hN : l.length = N) (hl : N ≤ 65535) (hA : AtE w B A l) (hb : base ≤ w.heap.size) :
    ∃ v' W, (Builtin.append_ #[25, 25] 25 #[.slice none 0 0, .slice A N c]).run Try.prog w = .ok v' W ∧ OwnE W base v' l ∧ Below base w W := by
  obtain ⟨i0, hi, hz0, hz1, hz2⟩ := ent_parts
  cases A with
  | none =>
    have h0 : N = 0 := by rw [← hN]; exact hA.none_len
    subst h0
    have e : l = [] := List.eq_nil_of_length_eq_zero hN
    subst e
    refine ⟨.slice none 0 0, w, ?_, OwnE.nil _ _, Below.refl _ _⟩
    have ht := Try.underlying25
    simp [Builtin.append_, run_underlying ht, sizeOf, typeInfo, hi, Builtin.lenOf, Builtin.firstCells]
  | some a =>
    have holds : ∀ j v, (rowsE l)[j]? = some v → w.cell? (a.add j) = some v := by
      intro j v hv
      have hj : j < l.length * 4 := by have := (List.getElem?_eq_some_iff.1 hv).1; rw [rowsE_length] at this; exact this
      obtain ⟨b1, o1, e, -, hc⟩ := hA (by omega)
      injection e with e
      subst e
      exact cells_of hc j v hv
    obtain ⟨v', W, hr, hown, hg, -, -⟩ := run_append_own_at (P := Try.prog) w base 25 25 41 i0 noE.val 4 40 Try.underlying25 hi hz0 hz1 hz2 rfl (by decide) (.slice none 0 0) 0 [] (OwnE.nil w base)
      a N c (rowsE l) (by rw [rowsE_length, hN]) holds (oneE l) (by simp only [maxLen]; omega) (by omega) hb
    refine ⟨v', W, hr, ?_, (Below.refl base w).grown hg hb (fun k hk => by simp [Value.ownBlock] at hk)⟩
    unfold OwnE
    rw [hN]
    simpa using hown
/-- One entry appended onto a list of the call's own. -/
theorem append_one_e (w : World) (base : Nat) (v : Value) (l : LE) (x : Ent) (b : Nat) (h : OwnE w base v l) (hx : FourE w b 0 x) (hb : base ≤ w.heap.size) (hl : l.length ≤ 65534) :
    ∃ v' W, (Builtin.append_ #[25, 25] 25 #[v, .slice (some ⟨b, 0, none⟩) 1 1]).run Try.prog w = .ok v' W ∧ OwnE W base v' (l ++ [x]) ∧ Below base w W :=
  append_ents w base v l [x] b 0 1 h (fun j hj => by
    obtain rfl : j = 0 := by simpa using hj
    exact hx) hb (by simp; omega)

set_option maxRecDepth 100000 in
set_option maxHeartbeats 8000000 in
theorem refAppend_zero (a b p : BitVec 64) (A : Option Addr) (c : Nat) (l : LE) (N : Nat) (h0 : N = 0) (hN : l.length = N) (hN2 : N ≤ 65535) (hx : ∀ j, j < N → (nthE l j).x.size ≤ 60000) (t : BitVec 64) (x : ByteArray) (hxs : x.size ≤ 60000) (w : World) (hA : AtE w w.heap.size A l) :
    Calls Try.prog 14 #[.agg #[.int .u64 (U a), .int .u64 (U b)], .agg #[.int .u64 (U p), .slice A N c], .int .u64 (U t), .string x] w (GivesL (appL a b p l t x) (appC a b p l t x) w) := by
  have HLast := Lib.hid (fun W h => refLast_any p A c l N hN (by omega) W h)
  have HHead := Lib.hid (fun W h => refHead_any p A c l N hN (by omega) W h)
  have HRight := Lib.hid (fun W h => refRight_any a b p A c l N hN hN2 hx W h)
  have hok : appOk a b p l t x = (rightE a b p l && (decide (x.size ≤ 200) && stepE (lastE p l) ⟨(lastE p l).s + 1#64, t, x, 0#64⟩)) := rfl
  have hst0 : stepE (lastE p l) ⟨(lastE p l).s + 1#64, t, x, 0#64⟩ = (decide ((lastE p l).s.toNat < 18446744073709551615) && decide ((lastE p l).t.toNat ≤ t.toNat)) := by
    unfold stepE
    rw [show decide ((⟨(lastE p l).s + 1#64, t, x, 0#64⟩ : Ent).s = (lastE p l).s + 1#64) = true from decide_eq_true rfl, Bool.true_and]
  have hnew : newE a b p l t x = ⟨(lastE p l).s + 1#64, t, x, sumE a b (lastE p l).m ⟨(lastE p l).s + 1#64, t, x, 0#64⟩⟩ := rfl
  have HSum := Lib.hid (fun W => refSum2_any a b (lastE p l).m ⟨(lastE p l).s + 1#64, t, x, 0#64⟩ hxs W)
  have hadd : IntKind.u64.wrap (U (lastE p l).s + 1) = U ((lastE p l).s + 1#64) := by have h := U_add (lastE p l).s 1#64; rw [U_lit1] at h; exact h
  have hzero : N = 0 → (lastE p l).t.toNat = 0 := fun h => by unfold lastE; rw [if_pos (by omega)]; rfl
  have hpos : 0 < N → lastE p l = nthE l (N - 1) := fun h => by rw [lastE_pos (by omega), hN]
  obtain ⟨Sm, hSm⟩ : ∃ Sm, sumE a b (lastE p l).m ⟨(lastE p l).s + 1#64, t, x, 0#64⟩ = Sm := ⟨_, rfl⟩
  rw [hSm] at hnew HSum
  rw [hst0] at hok
  unfold Ent.val at HSum
  obtain ⟨z, hz⟩ : ∃ z, lastE p l = z := ⟨_, rfl⟩
  rw [hz] at HLast HHead HSum hnew hadd hok hzero hpos
  obtain ⟨n1, hn1⟩ : ∃ n1, z.s + 1#64 = n1 := ⟨_, rfl⟩
  rw [hn1] at HSum hnew hadd
  obtain ⟨R, hR⟩ : ∃ R, rightE a b p l = R := ⟨_, rfl⟩
  rw [hR] at hok HRight
  obtain ⟨M, hM⟩ : ∃ M, decide (z.s.toNat < 18446744073709551615) = M := ⟨_, rfl⟩
  have hMi : (U z.s == 18446744073709551615) = !M := by
    rw [← hM, Bool.eq_iff_iff, beq_iff_eq, Bool.not_eq_true', decide_eq_false_iff_not]
    have := z.s.isLt
    unfold U; omega
  obtain ⟨T, hT⟩ : ∃ T, decide (z.t.toNat ≤ t.toNat) = T := ⟨_, rfl⟩
  have hTi : decide (U t < U z.t) = !T := by
    rw [← hT, Bool.eq_iff_iff, decide_eq_true_iff, Bool.not_eq_true', decide_eq_false_iff_not]; unfold U; omega
  have HT0 := Lib.hid (fun (h : N = 0) => show T = true from by rw [← hT]; exact decide_eq_true (by rw [hzero h]; omega))
  rw [hM, hT] at hok
  have u0 : U 0#64 = 0 := by decide +kernel
  rw [u0] at HSum
  have HAll := Lib.hid (fun (h : appOk a b p l t x = false) => app_none (a := a) (b := b) (p := p) (t := t) (l := l) (x := x) (by rw [h]; exact Bool.false_ne_true))
  have HYes := Lib.hid (fun (h : appOk a b p l t x = true) => show appC a b p l t x = 0 ∧ appL a b p l t x = putE p l (newE a b p l t x) ∧ N ≤ 30 from ⟨appC_ok h, by unfold appL; rw [if_pos h], by have := (app_ok h).1; omega⟩)
  have HOk := Lib.hid hok
  have HNew := Lib.hid hnew
  have HN := Lib.hid hN
  have HAdd := Lib.hid hadd
  have HPos := Lib.hid hpos
  have HMi := Lib.hid hMi
  have HTi := Lib.hid hTi
  clear hSm hz hn1 hR u0 hok hnew hN hadd hx hst0 hM hMi hT hTi hzero hpos
  have H0 := Lib.hid h0
  clear h0
  go_enter Try.func14, Try.ntmps14
  go_wp2_with fail
  have kk := old_at (o := .cells #[.int .u64 0, .slice none 0 0] 27) (old_at (o := .cells #[.int .u64 (U p), .slice A N c] 27) (new_at w (.cells #[.int .u64 (U a), .int .u64 (U b)] 24) _ rfl))
  have kl := old_at (o := .cells #[.int .u64 0, .slice none 0 0] 27) (new_at (w.alloc (.cells #[.int .u64 (U a), .int .u64 (U b)] 24)) (.cells #[.int .u64 (U p), .slice A N c] 27) (w.heap.size + 1) (by simp))
  have kr := new_at ((w.alloc (.cells #[.int .u64 (U a), .int .u64 (U b)] 24)).alloc (.cells #[.int .u64 (U p), .slice A N c] 27)) (.cells #[.int .u64 0, .slice none 0 0] 27) (w.heap.size + 1 + 1) (by simp)
  have hB0 : Below w.heap.size w (((w.alloc (.cells #[.int .u64 (U a), .int .u64 (U b)] 24)).alloc (.cells #[.int .u64 (U p), .slice A N c] 27)).alloc (.cells #[.int .u64 0, .slice none 0 0] 27)) := (((Below.refl _ w).alloc (Nat.le_refl _) _).alloc (by simp) _).alloc (by simp; omega) _
  generalize (((w.alloc (.cells #[.int .u64 (U a), .int .u64 (U b)] 24)).alloc (.cells #[.int .u64 (U p), .slice A N c] 27)).alloc (.cells #[.int .u64 0, .slice none 0 0] 27)) = v0 at *
  obtain ⟨br, hbr⟩ : ∃ br, w.heap.size + 1 + 1 = br := ⟨_, rfl⟩
  have qbr : w.heap.size ≤ br := by omega
  rw [hbr] at kr ⊢
  obtain ⟨bl, hbl⟩ : ∃ bl, w.heap.size + 1 = bl := ⟨_, rfl⟩
  have qbl : bl < br := by omega
  rw [hbl] at kl ⊢
  obtain ⟨bk, hbk⟩ : ∃ bk, w.heap.size = bk := ⟨_, rfl⟩
  have qbk : bk < bl := by omega
  rw [hbk] at kk ⊢
  clear hbr hbl hbk
  with_reducible refine (HRight.out _ ((hA.below hB0).mono hB0.size)).mono ?_
  rintro e v1 ⟨rfl, hC⟩
  replace kk := keep kk hC
  replace kl := keep kl hC
  replace kr := keep kr hC
  replace hB0 := hB0.trans (hC.mono hB0.size)
  clear hC v0
  cases R with
  | false =>
    have HNo := Lib.hid (show appOk a b p l t x = false by rw [HOk.out]; rfl)
    have HE := Lib.hid (HAll.out HNo.out)
    have xr0 := cell_at kr 0
    have xr1 := cell_at kr 1
    have fr0 := free_at kr 0
    have fr1 := free_at kr 1
    have hP : Put v1 ((v1.setCell ⟨br, 0, none⟩ (.int .u64 0)).setCell ⟨br, 1, none⟩ (.slice none 0 0)) br (.cells #[.int .u64 0, .slice none 0 0] 27 (0, 0)) := ((Put.refl kr).set 0 _).set 1 _
    have HP := Lib.hid hP
    clear hP
    go_wp2_with fail
    have hP := HP.out
    have kr3 := hP.get (Array.getElem?_eq_some_iff.1 kr).1
    have d0 := cell_at kr3 0
    have d1 := cell_at kr3 1
    refine bodyPost_ret (v := .tuple #[.agg #[.int .u64 0, .slice none 0 0], .int .i64 160]) ?_ rfl ?_
    · simp [results, Try.results14, go_sem, d0, d1]
    · rw [HE.out.1, HE.out.2]
      exact GivesL.none_ _ _ (hB0.trans (hP.below qbr)) _ rfl
  | true =>
    have xl0 := cell_at kl 0
    have xl1 := cell_at kl 1
    have h0 := H0.out
    have hz : decide (0 < N) = false := decide_eq_false (by omega)
    have hT := HT0.out h0
    subst hT
    clear h0
    by_cases hsz : x.size ≤ 200
    · have hg : decide ((200 : Int) < (x.size : Int)) = false := decide_eq_false (by omega)
      go_wp2_with fail
      clear xl0 xl1 hz
      with_reducible refine (HLast.out _ ((hA.below hB0).mono hB0.size)).mono ?_
      rintro e v2 ⟨rfl, hC⟩
      replace kk := keep kk hC
      replace kl := keep kl hC
      replace kr := keep kr hC
      replace hB0 := hB0.trans (hC.mono hB0.size)
      clear hC v1
      have hmi := HMi.out
      cases M with
      | false =>
        simp only [Bool.not_false] at hmi
        have HNo := Lib.hid (show appOk a b p l t x = false by rw [HOk.out]; simp)
        have HE := Lib.hid (HAll.out HNo.out)
        have xr0 := cell_at kr 0
        have xr1 := cell_at kr 1
        have fr0 := free_at kr 0
        have fr1 := free_at kr 1
        have hP : Put v2 ((v2.setCell ⟨br, 0, none⟩ (.int .u64 0)).setCell ⟨br, 1, none⟩ (.slice none 0 0)) br (.cells #[.int .u64 0, .slice none 0 0] 27 (0, 0)) := ((Put.refl kr).set 0 _).set 1 _
        have HP := Lib.hid hP
        clear hP
        go_wp2_with fail
        have hP := HP.out
        have kr3 := hP.get (Array.getElem?_eq_some_iff.1 kr).1
        have d0 := cell_at kr3 0
        have d1 := cell_at kr3 1
        refine bodyPost_ret (v := .tuple #[.agg #[.int .u64 0, .slice none 0 0], .int .i64 160]) ?_ rfl ?_
        · simp [results, Try.results14, go_sem, d0, d1]
        · rw [HE.out.1, HE.out.2]
          exact GivesL.none_ _ _ (hB0.trans (hP.below qbr)) _ rfl
      | true =>
        simp only [Bool.not_true] at hmi
        have HYs := Lib.hid (HYes.out (show appOk a b p l t x = true by rw [HOk.out, decide_eq_true hsz]; rfl))
        have xl0 := cell_at kl 0
        have xl1 := cell_at kl 1
        go_wp2_with fail
        clear xl0 xl1
        with_reducible refine (HLast.out _ ((hA.below hB0).mono hB0.size)).mono ?_
        rintro e v3 ⟨rfl, hC⟩
        replace kk := keep kk hC
        replace kl := keep kl hC
        replace kr := keep kr hC
        replace hB0 := hB0.trans (hC.mono hB0.size)
        clear hC v2
        have hadd := HAdd.out
        go_wp2_with fail
        clear hadd
        have hA1 : Below v3.heap.size v3 (v3.alloc (.cells #[.int .u64 (U n1), .int .u64 (U t), .string x, .int .u64 0] 41)) := (Below.refl _ v3).alloc (Nat.le_refl _) _
        have kx := new_at v3 (.cells #[.int .u64 (U n1), .int .u64 (U t), .string x, .int .u64 0] 41) _ rfl
        have qbx : br < v3.heap.size := (Array.getElem?_eq_some_iff.1 kr).1
        replace kk := keep kk hA1
        replace kl := keep kl hA1
        replace kr := keep kr hA1
        replace hB0 := hB0.trans (hA1.mono hB0.size)
        generalize v3.alloc (.cells #[.int .u64 (U n1), .int .u64 (U t), .string x, .int .u64 0] 41) = v4 at *
        obtain ⟨bx, hbx⟩ : ∃ bx, v3.heap.size = bx := ⟨_, rfl⟩
        rw [hbx] at kx qbx ⊢
        clear hA1 hbx v3
        have k0 : ∀ s : Later v4.heap.size v4, s.W.cell? ⟨bk, 0, none⟩ = some _ := fun s => s.cell (cell_at kk 0) (Array.getElem?_eq_some_iff.1 kk).1
        have k1 : ∀ s : Later v4.heap.size v4, s.W.cell? ⟨bk, 1, none⟩ = some _ := fun s => s.cell (cell_at kk 1) (Array.getElem?_eq_some_iff.1 kk).1
        have l0 : ∀ s : Later v4.heap.size v4, s.W.cell? ⟨bl, 0, none⟩ = some _ := fun s => s.cell (cell_at kl 0) (Array.getElem?_eq_some_iff.1 kl).1
        have l1 : ∀ s : Later v4.heap.size v4, s.W.cell? ⟨bl, 1, none⟩ = some _ := fun s => s.cell (cell_at kl 1) (Array.getElem?_eq_some_iff.1 kl).1
        have m0 : ∀ s : Later v4.heap.size v4, s.W.cell? ⟨bx, 0, none⟩ = some _ := fun s => s.cell (cell_at kx 0) (Array.getElem?_eq_some_iff.1 kx).1
        have m1 : ∀ s : Later v4.heap.size v4, s.W.cell? ⟨bx, 1, none⟩ = some _ := fun s => s.cell (cell_at kx 1) (Array.getElem?_eq_some_iff.1 kx).1
        have m2 : ∀ s : Later v4.heap.size v4, s.W.cell? ⟨bx, 2, none⟩ = some _ := fun s => s.cell (cell_at kx 2) (Array.getElem?_eq_some_iff.1 kx).1
        have m3 : ∀ s : Later v4.heap.size v4, s.W.cell? ⟨bx, 3, none⟩ = some _ := fun s => s.cell (cell_at kx 3) (Array.getElem?_eq_some_iff.1 kx).1
        refine region_mix_last_plain (C := fun W' => ∃ s : Later v4.heap.size v4, W' = s.W) [0, 0, 1, 0, 1, 3, 2] (by kernel_rfl) (by kernel_rfl) (by kernel_rfl) (by kernel_rfl) (by kernel_rfl) ⟨⟨v4.drew, (Below.refl _ v4).drew⟩, rfl⟩ ?_
        iterate 2 (refine wpL_calm (fun K hK => ?_); go_simp; refine hK _ ?_; clear hK K)
        refine wpL_eff rfl (fun K hK => ?_)
        go_simp
        have hb4 : Below v4.heap.size v4 v4.drew := (Below.refl _ v4).drew
        refine ⟨trivial, (callsIn_wide.2 (HHead.out v4.drew ((hA.below (hB0.trans (hb4.mono hB0.size))).mono (hB0.trans (hb4.mono hB0.size)).size))).mono ?_⟩
        rintro e v5 ⟨rfl, hC⟩
        have hb5 : Below v4.heap.size v4 v5 := hb4.trans hC
        refine ⟨_, rfl, hK _ _ ⟨⟨_, hb5⟩, rfl⟩ ?_⟩
        clear hK K hC hb4
        refine wpL_calm (fun K hK => ?_); go_simp; refine hK _ ?_; clear hK K
        refine wpL_eff rfl (fun K hK => ?_)
        go_simp
        refine ⟨trivial, (callsIn_wide.2 (HSum.out v5)).mono ?_⟩
        rintro e v6 ⟨rfl, hC⟩
        have hb6 : Below v4.heap.size v4 v6 := hb5.trans (hC.mono hb5.size)
        refine ⟨_, rfl, hK _ _ ⟨⟨_, hb6⟩, rfl⟩ ?_⟩
        clear hK K hC hb5 k0 k1 l0 l1 m0 m1 m2 m3
        refine wpL_plain (fun K hK => ?_); go_simp; refine hK _ ?_; clear hK K
        replace kk := keep kk hb6
        replace kl := keep kl hb6
        replace kr := keep kr hb6
        replace kx := keep kx hb6
        replace hB0 := hB0.trans (hb6.mono hB0.size)
        clear hb6
        have xx3 := cell_at kx 3
        have fx3 := free_at kx 3
        refine wpL_last rfl (fun K hK => ?_)
        go_simp
        refine hK _ _ ?_
        clear hK K xx3 fx3
        refine wpL_nil ?_
        have hP : Put v6 (v6.setCell ⟨bx, 3, none⟩ (.int .u64 (U Sm))) bx (.cells #[.int .u64 (U n1), .int .u64 (U t), .string x, .int .u64 (U Sm)] 41) := (Put.refl kx).set 3 _
        have hsx := (Array.getElem?_eq_some_iff.1 kx).1
        replace hB0 := hB0.trans (hP.below (by omega))
        replace kk := (hP.other (by omega)).trans kk
        replace kl := (hP.other (by omega)).trans kl
        replace kr := (hP.other (by omega)).trans kr
        replace kx := hP.get hsx
        generalize v6.setCell ⟨bx, 3, none⟩ (.int .u64 (U Sm)) = v7 at *
        clear hP hsx v6
        have xl0 := cell_at kl 0
        have yl0 := fun o => old_cell xl0 o
        go_wp2_with fail
        clear xl0 yl0
        have hA1 : Below v7.heap.size v7 (v7.alloc (.cells #[.int .u64 (U p), .slice none 0 0] 27)) := (Below.refl _ v7).alloc (Nat.le_refl _) _
        have ko := new_at v7 (.cells #[.int .u64 (U p), .slice none 0 0] 27) _ rfl
        have qbo : bx < v7.heap.size := (Array.getElem?_eq_some_iff.1 kx).1
        replace kk := keep kk hA1
        replace kl := keep kl hA1
        replace kr := keep kr hA1
        replace kx := keep kx hA1
        replace hB0 := hB0.trans (hA1.mono hB0.size)
        generalize v7.alloc (.cells #[.int .u64 (U p), .slice none 0 0] 27) = v8 at *
        obtain ⟨bo, hbo⟩ : ∃ bo, v7.heap.size = bo := ⟨_, rfl⟩
        rw [hbo] at ko qbo ⊢
        clear hA1 hbo v7
        have l1 : ∀ s : Later v8.heap.size v8, s.W.cell? ⟨bl, 1, none⟩ = some _ := fun s => s.cell (cell_at kl 1) (Array.getElem?_eq_some_iff.1 kl).1
        have o1 : ∀ s : Later v8.heap.size v8, s.W.cell? ⟨bo, 1, none⟩ = some _ := fun s => s.cell (cell_at ko 1) (Array.getElem?_eq_some_iff.1 ko).1
        have m0 : ∀ s : Later v8.heap.size v8, s.W.cell? ⟨bx, 0, none⟩ = some _ := fun s => s.cell (cell_at kx 0) (Array.getElem?_eq_some_iff.1 kx).1
        have m1 : ∀ s : Later v8.heap.size v8, s.W.cell? ⟨bx, 1, none⟩ = some _ := fun s => s.cell (cell_at kx 1) (Array.getElem?_eq_some_iff.1 kx).1
        have m2 : ∀ s : Later v8.heap.size v8, s.W.cell? ⟨bx, 2, none⟩ = some _ := fun s => s.cell (cell_at kx 2) (Array.getElem?_eq_some_iff.1 kx).1
        have m3 : ∀ s : Later v8.heap.size v8, s.W.cell? ⟨bx, 3, none⟩ = some _ := fun s => s.cell (cell_at kx 3) (Array.getElem?_eq_some_iff.1 kx).1
        have hA8 := hA.below hB0
        refine region_plan_plain (C := fun W' => ∃ s : Later v8.heap.size v8, W' = s.W) [3, 0, 3, 0, 1, 0, 1, 1, 3, 2] (.calm 0 (.calm 1 (.calm 2 (.calm 3 (.calm 5 (.fork 4 (.one 6 (.one 7 (.one 8 (.one 9 .done)))) 6 (.one 4 (.one 7 (.one 8 (.one 9 .done)))))))))) (by kernel_rfl) (by kernel_rfl) (by kernel_rfl) (by kernel_rfl) (by kernel_rfl) ⟨⟨v8.drew, (Below.refl _ v8).drew⟩, rfl⟩ ?_
        refine wpP_plain rfl rfl (fun K hK => ?_); go_simp; refine hK _ ?_; clear hK K
        refine wpP_calm rfl rfl (fun K hK => ?_); go_simp; refine hK _ ?_; clear hK K
        refine wpP_plain rfl rfl (fun K hK => ?_); go_simp; refine hK _ ?_; clear hK K
        refine wpP_calm rfl rfl (fun K hK => ?_); go_simp; refine hK _ ?_; clear hK K
        refine wpP_calm rfl rfl (fun K hK => ?_); go_simp; refine hK _ ?_; clear hK K
        clear l1 o1 m0 m1 m2 m3
        refine wpP_fork ?_ ?_
        · obtain ⟨vA, WA, happ1, hown1, hB1⟩ := append_list_e v8.drew v8.heap.size A w.heap.size c l N HN.out hN2 (hA8.below (Below.refl _ v8).drew) (Nat.le_refl _)
          refine wpP_eff rfl rfl rfl (fun K hK => ?_)
          refine effOpE_append_run (.tmp 62) (.tmp 64) _ rfl rfl rfl happ1 ?_
          have hBx : Below v8.heap.size v8 WA := (Below.refl _ v8).drew.trans hB1
          refine hK _ _ ⟨⟨_, hBx⟩, rfl⟩ ?_
          clear hK K happ1 hB1
          refine wpP_eff rfl rfl rfl (fun K hK => ?_)
          go_simp
          have hBy : Below v8.heap.size v8 (WA.alloc (.cells #[.int .u64 (U n1), .int .u64 (U t), .string x, .int .u64 (U Sm)] 41)) := hBx.alloc hBx.size _
          have hownA : OwnE (WA.alloc (.cells #[.int .u64 (U n1), .int .u64 (U t), .string x, .int .u64 (U Sm)] 41)) v8.heap.size vA l := hown1.of (fun k _ hk => Below.heap_alloc _ _ _ hk)
          have knew := new_at WA (.cells #[.int .u64 (U n1), .int .u64 (U t), .string x, .int .u64 (U Sm)] 41) _ rfl
          refine hK _ _ ⟨⟨_, hBy⟩, rfl⟩ ?_
          clear hK K hBx hown1
          generalize hWB : WA.alloc (.cells #[.int .u64 (U n1), .int .u64 (U t), .string x, .int .u64 (U Sm)] 41) = WB at *
          clear hWB
          have hfour : FourE WB WA.heap.size 0 ⟨n1, t, x, Sm⟩ := ⟨cell_at knew 0, cell_at knew 1, cell_at knew 2, cell_at knew 3⟩
          obtain ⟨vC, WC, happ2, hown2, hB2⟩ := append_one_e WB v8.heap.size vA l ⟨n1, t, x, Sm⟩ WA.heap.size hownA hfour hBy.size (by rw [HN.out]; have := HYs.out.2.2; omega)
          refine wpP_eff rfl rfl rfl (fun K hK => ?_)
          refine effOpE_append_run (.tmp 65) (.tmp 67) _ rfl rfl rfl happ2 ?_
          have hll : (l ++ [(⟨n1, t, x, Sm⟩ : Ent)]).length = N + 1 := by rw [List.length_append, HN.out]; rfl
          obtain ⟨A5, c5, hv, hlc, hlie⟩ := hown2.lie
          rw [hll] at hv hlc
          subst hv
          have hBz : Below v8.heap.size v8 WC := hBy.trans hB2
          refine hK _ _ ⟨⟨_, hBz⟩, rfl⟩ ?_
          clear hK K happ2 hB2 hown2 hownA hfour
          have HLl := Lib.hid hll
          clear hll
          refine wpP_one (wpP_plain rfl rfl (fun K hK => ?_)); go_simp; refine hK _ ?_; clear hK K
          have ko1 := keep ko hBz
          have kr1 := keep kr hBz
          have hB1w := hB0.trans (hBz.mono hB0.size)
          have lb := (Array.getElem?_eq_some_iff.1 ko).1
          have hs8 := hBz.size
          obtain ⟨g, o, cs, hA5, hg5, hh5, hc5⟩ := hlie (by rw [HLl.out]; omega)
          subst hA5
          have xo1 := cell_at ko1 1
          have fo1 := free_at ko1 1
          refine wpP_last rfl rfl rfl (fun K hK => ?_)
          go_simp
          refine hK _ _ ?_
          clear hK K xo1 fo1
          refine wpP_done ?_
          have hP : Put WC (WC.setCell ⟨bo, 1, none⟩ (.slice (some ⟨g, o, none⟩) (N + 1) c5)) bo (.cells #[.int .u64 (U p), .slice (some ⟨g, o, none⟩) (N + 1) c5] 27 (0, 0)) := (Put.refl ko1).set 1 _
          have ko2 := hP.get (Array.getElem?_eq_some_iff.1 ko1).1
          have kr2 := (hP.other (k := br) (by omega)).trans kr1
          have hB2w := hB1w.trans (hP.below (by omega))
          have hh52 := (hP.other (k := g) (by omega)).trans hh5
          have HFin : Hid (∀ j, j < N + 1 → FourE (WC.setCell ⟨bo, 1, none⟩ (.slice (some ⟨g, o, none⟩) (N + 1) c5)) g (o + j * 4) (nthE (l ++ [(⟨n1, t, x, Sm⟩ : Ent)]) j)) := Lib.hid (fun j hj => (hc5 j (by rw [HLl.out]; exact hj)).put hP (by omega))
          generalize WC.setCell ⟨bo, 1, none⟩ (.slice (some ⟨g, o, none⟩) (N + 1) c5) = v9 at *
          clear hP hc5 hh5 ko1 kr1 hB1w hlie
          have hz0 := cell_at ko2 0
          have hz1 := cell_at ko2 1
          have hr0 := cell_at kr2 0
          have hr1 := cell_at kr2 1
          have fr0 := free_at kr2 0
          have fr1 := free_at kr2 1
          by_cases h30 : N < 30
          · have hg30 : decide ((30 : Int) < (N : Int) + 1) = false := decide_eq_false (by omega)
            have hP : Put v9 ((v9.setCell ⟨br, 0, none⟩ (.int .u64 (U p))).setCell ⟨br, 1, none⟩ (.slice (some ⟨g, o, none⟩) (N + 1) c5)) br (.cells #[.int .u64 (U p), .slice (some ⟨g, o, none⟩) (N + 1) c5] 27 (0, 0)) := ((Put.refl kr2).set 0 _).set 1 _
            have HP := Lib.hid hP
            clear hP
            go_wp2_with fail
            have hP := HP.out
            have kr3 := hP.get (Array.getElem?_eq_some_iff.1 kr2).1
            have d0 := cell_at kr3 0
            have d1 := cell_at kr3 1
            refine bodyPost_ret (v := .tuple #[.agg #[.int .u64 (U p), .slice (some ⟨g, o, none⟩) (N + 1) c5], .int .i64 0]) ?_ rfl ?_
            · simp [results, Try.results14, go_sem, d0, d1]
            · rw [HYs.out.1, HYs.out.2.1, HNew.out, putE_few _ _ _ (by rw [HN.out]; exact h30)]
              refine ⟨hB2w.trans (hP.below qbr), some ⟨g, o, none⟩, c5, by show _ = Ending.returned (.tuple #[.agg #[.int .u64 (U p), .slice _ (l ++ [(⟨n1, t, x, Sm⟩ : Ent)]).length c5], _]); rw [HLl.out], by show (l ++ [(⟨n1, t, x, Sm⟩ : Ent)]).length ≤ c5; rw [HLl.out]; exact hlc, fun _ => ⟨g, o, cs, rfl, by have := hB0.size; omega, (hP.other (by omega)).trans hh52, fun j hj => (HFin.out j (by rw [HLl.out] at hj; exact hj)).put hP (by omega)⟩⟩
          · have h30e : N = 30 := by have := HYs.out.2.2; omega
            have hg30 : decide ((30 : Int) < (N : Int) + 1) = true := decide_eq_true (by omega)
            obtain ⟨q0, q1, q2, q3⟩ := HFin.out 0 (by omega)
            rw [Nat.zero_mul, Nat.add_zero] at q0 q1 q2 q3
            have fo0 := free_at ko2 0
            have fo1 := free_at ko2 1
            have hcap : ¬ (c5 = 1) := by omega
            have hcap1 : (1 : Int) ≤ (N : Int) + 1 := by omega
            have hcapN : (N : Int) + 1 ≤ (c5 : Int) := by omega
            have hF0 : Hid (nthE (l ++ [(⟨n1, t, x, Sm⟩ : Ent)]) 0 = nthE l 0) := Lib.hid (nthE_left _ _ _ (by rw [HN.out]; omega))
            obtain ⟨f0, hf0⟩ : ∃ f0, (nthE (l ++ [(⟨n1, t, x, Sm⟩ : Ent)]) 0).m = f0 := ⟨_, rfl⟩
            rw [hf0] at q3
            have HF0 := Lib.hid hf0
            have HN30 := Lib.hid h30e
            have hP1 : Put v9 ((v9.setCell ⟨bo, 0, none⟩ (.int .u64 (U f0))).setCell ⟨bo, 1, none⟩ (.slice (some ⟨g, o + 4, none⟩) 30 (c5 - 1))) bo (.cells #[.int .u64 (U f0), .slice (some ⟨g, o + 4, none⟩) 30 (c5 - 1)] 27 (0, 0)) := ((Put.refl ko2).set 0 _).set 1 _
            have HP1 := Lib.hid hP1
            clear hP1 hf0 q0 q1 q2
            go_wp2_with fail
            have hP1 := HP1.out
            have kr3 := (hP1.other (k := br) (by omega)).trans kr2
            have hP2 : Put _ ((((v9.setCell ⟨bo, 0, none⟩ (.int .u64 (U f0))).setCell ⟨bo, 1, none⟩ (.slice (some ⟨g, o + 4, none⟩) 30 (c5 - 1))).setCell ⟨br, 0, none⟩ (.int .u64 (U f0))).setCell ⟨br, 1, none⟩ (.slice (some ⟨g, o + 4, none⟩) 30 (c5 - 1))) br (.cells #[.int .u64 (U f0), .slice (some ⟨g, o + 4, none⟩) 30 (c5 - 1)] 27 (0, 0)) := ((Put.refl kr3).set 0 _).set 1 _
            have kr4 := hP2.get (Array.getElem?_eq_some_iff.1 kr3).1
            have d0 := cell_at kr4 0
            have d1 := cell_at kr4 1
            refine bodyPost_ret (v := .tuple #[.agg #[.int .u64 (U f0), .slice (some ⟨g, o + 4, none⟩) 30 (c5 - 1)], .int .i64 0]) ?_ rfl ?_
            · simp [results, Try.results14, go_sem, d0, d1]
            · have hl30 : (l.drop 1 ++ [(⟨n1, t, x, Sm⟩ : Ent)]).length = 30 := by
                rw [List.length_append, List.length_drop, HN.out, HN30.out]; rfl
              rw [HYs.out.1, HYs.out.2.1, HNew.out, putE_full _ _ _ (by rw [HN.out]; exact HN30.out)]
              refine ⟨(hB2w.trans (hP1.below (by omega))).trans (hP2.below qbr), some ⟨g, o + 4, none⟩, c5 - 1, ?_, ?_, fun _ => ⟨g, o + 4, cs, rfl, by have := hB0.size; omega, (hP2.other (by omega)).trans ((hP1.other (by omega)).trans hh52), fun j hj => ?_⟩⟩
              · show _ = Ending.returned (.tuple #[.agg #[.int .u64 (U (nthE l 0).m), .slice _ (l.drop 1 ++ [(⟨n1, t, x, Sm⟩ : Ent)]).length (c5 - 1)], _])
                rw [hl30, ← HF0.out, hF0.out]
              · show (l.drop 1 ++ [(⟨n1, t, x, Sm⟩ : Ent)]).length ≤ c5 - 1
                rw [hl30]
                have := HN30.out
                omega
              · have hj2 : j < 30 := by rw [← hl30]; exact hj
                have e : nthE (l.drop 1 ++ [(⟨n1, t, x, Sm⟩ : Ent)]) j = nthE (l ++ [(⟨n1, t, x, Sm⟩ : Ent)]) (1 + j) := by
                  rw [← nthE_drop, List.drop_append_of_le_length (by rw [HN.out, HN30.out]; omega)]
                have h9 := ((HFin.out (1 + j) (by rw [HN30.out]; omega)).put hP1 (by omega)).put hP2 (by omega)
                rw [show o + 4 + j * 4 = o + (1 + j) * 4 by omega]
                show FourE _ _ _ (nthE (l.drop 1 ++ [(⟨n1, t, x, Sm⟩ : Ent)]) j)
                rw [e]
                exact h9
        · refine wpP_eff rfl rfl rfl (fun K hK => ?_)
          go_simp
          have hBx : Below v8.heap.size v8 (v8.alloc (.cells #[.int .u64 (U n1), .int .u64 (U t), .string x, .int .u64 (U Sm)] 41)).drew := ((Below.refl _ v8).alloc (Nat.le_refl _) _).drew
          have knew : (v8.alloc (.cells #[.int .u64 (U n1), .int .u64 (U t), .string x, .int .u64 (U Sm)] 41)).drew.heap[v8.heap.size]? = some (.cells #[.int .u64 (U n1), .int .u64 (U t), .string x, .int .u64 (U Sm)] 41 (0, 0)) := new_at v8 _ _ rfl
          refine hK _ _ ⟨⟨_, hBx⟩, rfl⟩ ?_
          clear hK K
          have hA9 := hA8.below (hBx.mono hB0.size)
          generalize hWA : (v8.alloc (.cells #[.int .u64 (U n1), .int .u64 (U t), .string x, .int .u64 (U Sm)] 41)).drew = WA at *
          have hsA : v8.heap.size + 1 = WA.heap.size := by rw [← hWA]; simp
          clear hWA
          obtain ⟨vA, WB, happ1, hown1, hB1⟩ := append_list_e WA (v8.heap.size + 1) A w.heap.size c l N HN.out hN2 hA9 (Nat.le_of_eq hsA)
          refine wpP_eff rfl rfl rfl (fun K hK => ?_)
          refine effOpE_append_run (.tmp 62) (.tmp 64) _ rfl rfl rfl happ1 ?_
          have hBy : Below v8.heap.size v8 WB := hBx.trans (hB1.mono (by omega))
          refine hK _ _ ⟨⟨_, hBy⟩, rfl⟩ ?_
          clear hK K happ1
          have knew2 := (hB1.block v8.heap.size (by omega)).trans knew
          have hownA := hown1.mono (Nat.le_succ v8.heap.size)
          have hfour : FourE WB v8.heap.size 0 ⟨n1, t, x, Sm⟩ := ⟨cell_at knew2 0, cell_at knew2 1, cell_at knew2 2, cell_at knew2 3⟩
          obtain ⟨vC, WC, happ2, hown2, hB2⟩ := append_one_e WB v8.heap.size vA l ⟨n1, t, x, Sm⟩ v8.heap.size hownA hfour hBy.size (by rw [HN.out]; have := HYs.out.2.2; omega)
          clear hown1 hB1 hBx knew knew2 hsA
          refine wpP_eff rfl rfl rfl (fun K hK => ?_)
          refine effOpE_append_run (.tmp 65) (.tmp 67) _ rfl rfl rfl happ2 ?_
          have hll : (l ++ [(⟨n1, t, x, Sm⟩ : Ent)]).length = N + 1 := by rw [List.length_append, HN.out]; rfl
          obtain ⟨A5, c5, hv, hlc, hlie⟩ := hown2.lie
          rw [hll] at hv hlc
          subst hv
          have hBz : Below v8.heap.size v8 WC := hBy.trans hB2
          refine hK _ _ ⟨⟨_, hBz⟩, rfl⟩ ?_
          clear hK K happ2 hB2 hown2 hownA hfour
          have HLl := Lib.hid hll
          clear hll
          refine wpP_one (wpP_plain rfl rfl (fun K hK => ?_)); go_simp; refine hK _ ?_; clear hK K
          have ko1 := keep ko hBz
          have kr1 := keep kr hBz
          have hB1w := hB0.trans (hBz.mono hB0.size)
          have lb := (Array.getElem?_eq_some_iff.1 ko).1
          have hs8 := hBz.size
          obtain ⟨g, o, cs, hA5, hg5, hh5, hc5⟩ := hlie (by rw [HLl.out]; omega)
          subst hA5
          have xo1 := cell_at ko1 1
          have fo1 := free_at ko1 1
          refine wpP_last rfl rfl rfl (fun K hK => ?_)
          go_simp
          refine hK _ _ ?_
          clear hK K xo1 fo1
          refine wpP_done ?_
          have hP : Put WC (WC.setCell ⟨bo, 1, none⟩ (.slice (some ⟨g, o, none⟩) (N + 1) c5)) bo (.cells #[.int .u64 (U p), .slice (some ⟨g, o, none⟩) (N + 1) c5] 27 (0, 0)) := (Put.refl ko1).set 1 _
          have ko2 := hP.get (Array.getElem?_eq_some_iff.1 ko1).1
          have kr2 := (hP.other (k := br) (by omega)).trans kr1
          have hB2w := hB1w.trans (hP.below (by omega))
          have hh52 := (hP.other (k := g) (by omega)).trans hh5
          have HFin : Hid (∀ j, j < N + 1 → FourE (WC.setCell ⟨bo, 1, none⟩ (.slice (some ⟨g, o, none⟩) (N + 1) c5)) g (o + j * 4) (nthE (l ++ [(⟨n1, t, x, Sm⟩ : Ent)]) j)) := Lib.hid (fun j hj => (hc5 j (by rw [HLl.out]; exact hj)).put hP (by omega))
          generalize WC.setCell ⟨bo, 1, none⟩ (.slice (some ⟨g, o, none⟩) (N + 1) c5) = v9 at *
          clear hP hc5 hh5 ko1 kr1 hB1w hlie
          have hz0 := cell_at ko2 0
          have hz1 := cell_at ko2 1
          have hr0 := cell_at kr2 0
          have hr1 := cell_at kr2 1
          have fr0 := free_at kr2 0
          have fr1 := free_at kr2 1
          by_cases h30 : N < 30
          · have hg30 : decide ((30 : Int) < (N : Int) + 1) = false := decide_eq_false (by omega)
            have hP : Put v9 ((v9.setCell ⟨br, 0, none⟩ (.int .u64 (U p))).setCell ⟨br, 1, none⟩ (.slice (some ⟨g, o, none⟩) (N + 1) c5)) br (.cells #[.int .u64 (U p), .slice (some ⟨g, o, none⟩) (N + 1) c5] 27 (0, 0)) := ((Put.refl kr2).set 0 _).set 1 _
            have HP := Lib.hid hP
            clear hP
            go_wp2_with fail
            have hP := HP.out
            have kr3 := hP.get (Array.getElem?_eq_some_iff.1 kr2).1
            have d0 := cell_at kr3 0
            have d1 := cell_at kr3 1
            refine bodyPost_ret (v := .tuple #[.agg #[.int .u64 (U p), .slice (some ⟨g, o, none⟩) (N + 1) c5], .int .i64 0]) ?_ rfl ?_
            · simp [results, Try.results14, go_sem, d0, d1]
            · rw [HYs.out.1, HYs.out.2.1, HNew.out, putE_few _ _ _ (by rw [HN.out]; exact h30)]
              refine ⟨hB2w.trans (hP.below qbr), some ⟨g, o, none⟩, c5, by show _ = Ending.returned (.tuple #[.agg #[.int .u64 (U p), .slice _ (l ++ [(⟨n1, t, x, Sm⟩ : Ent)]).length c5], _]); rw [HLl.out], by show (l ++ [(⟨n1, t, x, Sm⟩ : Ent)]).length ≤ c5; rw [HLl.out]; exact hlc, fun _ => ⟨g, o, cs, rfl, by have := hB0.size; omega, (hP.other (by omega)).trans hh52, fun j hj => (HFin.out j (by rw [HLl.out] at hj; exact hj)).put hP (by omega)⟩⟩
          · have h30e : N = 30 := by have := HYs.out.2.2; omega
            have hg30 : decide ((30 : Int) < (N : Int) + 1) = true := decide_eq_true (by omega)
            obtain ⟨q0, q1, q2, q3⟩ := HFin.out 0 (by omega)
            rw [Nat.zero_mul, Nat.add_zero] at q0 q1 q2 q3
            have fo0 := free_at ko2 0
            have fo1 := free_at ko2 1
            have hcap : ¬ (c5 = 1) := by omega
            have hcap1 : (1 : Int) ≤ (N : Int) + 1 := by omega
            have hcapN : (N : Int) + 1 ≤ (c5 : Int) := by omega
            have hF0 : Hid (nthE (l ++ [(⟨n1, t, x, Sm⟩ : Ent)]) 0 = nthE l 0) := Lib.hid (nthE_left _ _ _ (by rw [HN.out]; omega))
            obtain ⟨f0, hf0⟩ : ∃ f0, (nthE (l ++ [(⟨n1, t, x, Sm⟩ : Ent)]) 0).m = f0 := ⟨_, rfl⟩
            rw [hf0] at q3
            have HF0 := Lib.hid hf0
            have HN30 := Lib.hid h30e
            have hP1 : Put v9 ((v9.setCell ⟨bo, 0, none⟩ (.int .u64 (U f0))).setCell ⟨bo, 1, none⟩ (.slice (some ⟨g, o + 4, none⟩) 30 (c5 - 1))) bo (.cells #[.int .u64 (U f0), .slice (some ⟨g, o + 4, none⟩) 30 (c5 - 1)] 27 (0, 0)) := ((Put.refl ko2).set 0 _).set 1 _
            have HP1 := Lib.hid hP1
            clear hP1 hf0 q0 q1 q2
            go_wp2_with fail
            have hP1 := HP1.out
            have kr3 := (hP1.other (k := br) (by omega)).trans kr2
            have hP2 : Put _ ((((v9.setCell ⟨bo, 0, none⟩ (.int .u64 (U f0))).setCell ⟨bo, 1, none⟩ (.slice (some ⟨g, o + 4, none⟩) 30 (c5 - 1))).setCell ⟨br, 0, none⟩ (.int .u64 (U f0))).setCell ⟨br, 1, none⟩ (.slice (some ⟨g, o + 4, none⟩) 30 (c5 - 1))) br (.cells #[.int .u64 (U f0), .slice (some ⟨g, o + 4, none⟩) 30 (c5 - 1)] 27 (0, 0)) := ((Put.refl kr3).set 0 _).set 1 _
            have kr4 := hP2.get (Array.getElem?_eq_some_iff.1 kr3).1
            have d0 := cell_at kr4 0
            have d1 := cell_at kr4 1
            refine bodyPost_ret (v := .tuple #[.agg #[.int .u64 (U f0), .slice (some ⟨g, o + 4, none⟩) 30 (c5 - 1)], .int .i64 0]) ?_ rfl ?_
            · simp [results, Try.results14, go_sem, d0, d1]
            · have hl30 : (l.drop 1 ++ [(⟨n1, t, x, Sm⟩ : Ent)]).length = 30 := by
                rw [List.length_append, List.length_drop, HN.out, HN30.out]; rfl
              rw [HYs.out.1, HYs.out.2.1, HNew.out, putE_full _ _ _ (by rw [HN.out]; exact HN30.out)]
              refine ⟨(hB2w.trans (hP1.below (by omega))).trans (hP2.below qbr), some ⟨g, o + 4, none⟩, c5 - 1, ?_, ?_, fun _ => ⟨g, o + 4, cs, rfl, by have := hB0.size; omega, (hP2.other (by omega)).trans ((hP1.other (by omega)).trans hh52), fun j hj => ?_⟩⟩
              · show _ = Ending.returned (.tuple #[.agg #[.int .u64 (U (nthE l 0).m), .slice _ (l.drop 1 ++ [(⟨n1, t, x, Sm⟩ : Ent)]).length (c5 - 1)], _])
                rw [hl30, ← HF0.out, hF0.out]
              · show (l.drop 1 ++ [(⟨n1, t, x, Sm⟩ : Ent)]).length ≤ c5 - 1
                rw [hl30]
                have := HN30.out
                omega
              · have hj2 : j < 30 := by rw [← hl30]; exact hj
                have e : nthE (l.drop 1 ++ [(⟨n1, t, x, Sm⟩ : Ent)]) j = nthE (l ++ [(⟨n1, t, x, Sm⟩ : Ent)]) (1 + j) := by
                  rw [← nthE_drop, List.drop_append_of_le_length (by rw [HN.out, HN30.out]; omega)]
                have h9 := ((HFin.out (1 + j) (by rw [HN30.out]; omega)).put hP1 (by omega)).put hP2 (by omega)
                rw [show o + 4 + j * 4 = o + (1 + j) * 4 by omega]
                show FourE _ _ _ (nthE (l.drop 1 ++ [(⟨n1, t, x, Sm⟩ : Ent)]) j)
                rw [e]
                exact h9
    · have hg : decide ((200 : Int) < (x.size : Int)) = true := decide_eq_true (by omega)
      have HNo := Lib.hid (show appOk a b p l t x = false by rw [HOk.out, decide_eq_false hsz]; rfl)
      have HE := Lib.hid (HAll.out HNo.out)
      have xr0 := cell_at kr 0
      have xr1 := cell_at kr 1
      have fr0 := free_at kr 0
      have fr1 := free_at kr 1
      have hP : Put v1 ((v1.setCell ⟨br, 0, none⟩ (.int .u64 0)).setCell ⟨br, 1, none⟩ (.slice none 0 0)) br (.cells #[.int .u64 0, .slice none 0 0] 27 (0, 0)) := ((Put.refl kr).set 0 _).set 1 _
      have HP := Lib.hid hP
      clear hP
      go_wp2_with fail
      have hP := HP.out
      have kr3 := hP.get (Array.getElem?_eq_some_iff.1 kr).1
      have d0 := cell_at kr3 0
      have d1 := cell_at kr3 1
      refine bodyPost_ret (v := .tuple #[.agg #[.int .u64 0, .slice none 0 0], .int .i64 160]) ?_ rfl ?_
      · simp [results, Try.results14, go_sem, d0, d1]
      · rw [HE.out.1, HE.out.2]
        exact GivesL.none_ _ _ (hB0.trans (hP.below qbr)) _ rfl

set_option maxRecDepth 100000 in
set_option maxHeartbeats 8000000 in
theorem refAppend_pos (a b p : BitVec 64) (b1 o1 : Nat) (c : Nat) (l : LE) (N : Nat) (h0 : 0 < N) (hN : l.length = N) (hN2 : N ≤ 65535) (hx : ∀ j, j < N → (nthE l j).x.size ≤ 60000) (t : BitVec 64) (x : ByteArray) (hxs : x.size ≤ 60000) (w : World) (hA : AtE w w.heap.size (some ⟨b1, o1, none⟩) l) :
    Calls Try.prog 14 #[.agg #[.int .u64 (U a), .int .u64 (U b)], .agg #[.int .u64 (U p), .slice (some ⟨b1, o1, none⟩) N c], .int .u64 (U t), .string x] w (GivesL (appL a b p l t x) (appC a b p l t x) w) := by
  have HLast := Lib.hid (fun W h => refLast_any p (some ⟨b1, o1, none⟩) c l N hN (by omega) W h)
  have HHead := Lib.hid (fun W h => refHead_any p (some ⟨b1, o1, none⟩) c l N hN (by omega) W h)
  have HRight := Lib.hid (fun W h => refRight_any a b p (some ⟨b1, o1, none⟩) c l N hN hN2 hx W h)
  have hok : appOk a b p l t x = (rightE a b p l && (decide (x.size ≤ 200) && stepE (lastE p l) ⟨(lastE p l).s + 1#64, t, x, 0#64⟩)) := rfl
  have hst0 : stepE (lastE p l) ⟨(lastE p l).s + 1#64, t, x, 0#64⟩ = (decide ((lastE p l).s.toNat < 18446744073709551615) && decide ((lastE p l).t.toNat ≤ t.toNat)) := by
    unfold stepE
    rw [show decide ((⟨(lastE p l).s + 1#64, t, x, 0#64⟩ : Ent).s = (lastE p l).s + 1#64) = true from decide_eq_true rfl, Bool.true_and]
  have hnew : newE a b p l t x = ⟨(lastE p l).s + 1#64, t, x, sumE a b (lastE p l).m ⟨(lastE p l).s + 1#64, t, x, 0#64⟩⟩ := rfl
  have HSum := Lib.hid (fun W => refSum2_any a b (lastE p l).m ⟨(lastE p l).s + 1#64, t, x, 0#64⟩ hxs W)
  have hadd : IntKind.u64.wrap (U (lastE p l).s + 1) = U ((lastE p l).s + 1#64) := by have h := U_add (lastE p l).s 1#64; rw [U_lit1] at h; exact h
  have hzero : N = 0 → (lastE p l).t.toNat = 0 := fun h => by unfold lastE; rw [if_pos (by omega)]; rfl
  have hpos : 0 < N → lastE p l = nthE l (N - 1) := fun h => by rw [lastE_pos (by omega), hN]
  obtain ⟨Sm, hSm⟩ : ∃ Sm, sumE a b (lastE p l).m ⟨(lastE p l).s + 1#64, t, x, 0#64⟩ = Sm := ⟨_, rfl⟩
  rw [hSm] at hnew HSum
  rw [hst0] at hok
  unfold Ent.val at HSum
  obtain ⟨z, hz⟩ : ∃ z, lastE p l = z := ⟨_, rfl⟩
  rw [hz] at HLast HHead HSum hnew hadd hok hzero hpos
  obtain ⟨n1, hn1⟩ : ∃ n1, z.s + 1#64 = n1 := ⟨_, rfl⟩
  rw [hn1] at HSum hnew hadd
  obtain ⟨R, hR⟩ : ∃ R, rightE a b p l = R := ⟨_, rfl⟩
  rw [hR] at hok HRight
  obtain ⟨M, hM⟩ : ∃ M, decide (z.s.toNat < 18446744073709551615) = M := ⟨_, rfl⟩
  have hMi : (U z.s == 18446744073709551615) = !M := by
    rw [← hM, Bool.eq_iff_iff, beq_iff_eq, Bool.not_eq_true', decide_eq_false_iff_not]
    have := z.s.isLt
    unfold U; omega
  obtain ⟨T, hT⟩ : ∃ T, decide (z.t.toNat ≤ t.toNat) = T := ⟨_, rfl⟩
  have hTi : decide (U t < U z.t) = !T := by
    rw [← hT, Bool.eq_iff_iff, decide_eq_true_iff, Bool.not_eq_true', decide_eq_false_iff_not]; unfold U; omega
  have HT0 := Lib.hid (fun (h : N = 0) => show T = true from by rw [← hT]; exact decide_eq_true (by rw [hzero h]; omega))
  rw [hM, hT] at hok
  have u0 : U 0#64 = 0 := by decide +kernel
  rw [u0] at HSum
  have HAll := Lib.hid (fun (h : appOk a b p l t x = false) => app_none (a := a) (b := b) (p := p) (t := t) (l := l) (x := x) (by rw [h]; exact Bool.false_ne_true))
  have HYes := Lib.hid (fun (h : appOk a b p l t x = true) => show appC a b p l t x = 0 ∧ appL a b p l t x = putE p l (newE a b p l t x) ∧ N ≤ 30 from ⟨appC_ok h, by unfold appL; rw [if_pos h], by have := (app_ok h).1; omega⟩)
  have HOk := Lib.hid hok
  have HNew := Lib.hid hnew
  have HN := Lib.hid hN
  have HAdd := Lib.hid hadd
  have HPos := Lib.hid hpos
  have HMi := Lib.hid hMi
  have HTi := Lib.hid hTi
  clear hSm hz hn1 hR u0 hok hnew hN hadd hx hst0 hM hMi hT hTi hzero hpos
  have H0 := Lib.hid h0
  clear h0
  go_enter Try.func14, Try.ntmps14
  go_wp2_with fail
  have kk := old_at (o := .cells #[.int .u64 0, .slice none 0 0] 27) (old_at (o := .cells #[.int .u64 (U p), .slice (some ⟨b1, o1, none⟩) N c] 27) (new_at w (.cells #[.int .u64 (U a), .int .u64 (U b)] 24) _ rfl))
  have kl := old_at (o := .cells #[.int .u64 0, .slice none 0 0] 27) (new_at (w.alloc (.cells #[.int .u64 (U a), .int .u64 (U b)] 24)) (.cells #[.int .u64 (U p), .slice (some ⟨b1, o1, none⟩) N c] 27) (w.heap.size + 1) (by simp))
  have kr := new_at ((w.alloc (.cells #[.int .u64 (U a), .int .u64 (U b)] 24)).alloc (.cells #[.int .u64 (U p), .slice (some ⟨b1, o1, none⟩) N c] 27)) (.cells #[.int .u64 0, .slice none 0 0] 27) (w.heap.size + 1 + 1) (by simp)
  have hB0 : Below w.heap.size w (((w.alloc (.cells #[.int .u64 (U a), .int .u64 (U b)] 24)).alloc (.cells #[.int .u64 (U p), .slice (some ⟨b1, o1, none⟩) N c] 27)).alloc (.cells #[.int .u64 0, .slice none 0 0] 27)) := (((Below.refl _ w).alloc (Nat.le_refl _) _).alloc (by simp) _).alloc (by simp; omega) _
  generalize (((w.alloc (.cells #[.int .u64 (U a), .int .u64 (U b)] 24)).alloc (.cells #[.int .u64 (U p), .slice (some ⟨b1, o1, none⟩) N c] 27)).alloc (.cells #[.int .u64 0, .slice none 0 0] 27)) = v0 at *
  obtain ⟨br, hbr⟩ : ∃ br, w.heap.size + 1 + 1 = br := ⟨_, rfl⟩
  have qbr : w.heap.size ≤ br := by omega
  rw [hbr] at kr ⊢
  obtain ⟨bl, hbl⟩ : ∃ bl, w.heap.size + 1 = bl := ⟨_, rfl⟩
  have qbl : bl < br := by omega
  rw [hbl] at kl ⊢
  obtain ⟨bk, hbk⟩ : ∃ bk, w.heap.size = bk := ⟨_, rfl⟩
  have qbk : bk < bl := by omega
  rw [hbk] at kk ⊢
  clear hbr hbl hbk
  with_reducible refine (HRight.out _ ((hA.below hB0).mono hB0.size)).mono ?_
  rintro e v1 ⟨rfl, hC⟩
  replace kk := keep kk hC
  replace kl := keep kl hC
  replace kr := keep kr hC
  replace hB0 := hB0.trans (hC.mono hB0.size)
  clear hC v0
  cases R with
  | false =>
    have HNo := Lib.hid (show appOk a b p l t x = false by rw [HOk.out]; rfl)
    have HE := Lib.hid (HAll.out HNo.out)
    have xr0 := cell_at kr 0
    have xr1 := cell_at kr 1
    have fr0 := free_at kr 0
    have fr1 := free_at kr 1
    have hP : Put v1 ((v1.setCell ⟨br, 0, none⟩ (.int .u64 0)).setCell ⟨br, 1, none⟩ (.slice none 0 0)) br (.cells #[.int .u64 0, .slice none 0 0] 27 (0, 0)) := ((Put.refl kr).set 0 _).set 1 _
    have HP := Lib.hid hP
    clear hP
    go_wp2_with fail
    have hP := HP.out
    have kr3 := hP.get (Array.getElem?_eq_some_iff.1 kr).1
    have d0 := cell_at kr3 0
    have d1 := cell_at kr3 1
    refine bodyPost_ret (v := .tuple #[.agg #[.int .u64 0, .slice none 0 0], .int .i64 160]) ?_ rfl ?_
    · simp [results, Try.results14, go_sem, d0, d1]
    · rw [HE.out.1, HE.out.2]
      exact GivesL.none_ _ _ (hB0.trans (hP.below qbr)) _ rfl
  | true =>
    have xl0 := cell_at kl 0
    have xl1 := cell_at kl 1
    have h0 := H0.out
    have hz : decide (0 < N) = true := decide_eq_true h0
    obtain ⟨b2, o2, hA1, hb1, hc1⟩ := hA (by rw [HN.out]; omega)
    injection hA1 with hA1
    injection hA1 with e1 e2 e3
    subst e1
    subst e2
    obtain ⟨n', hn'⟩ : ∃ n', n' + 1 = N := ⟨N - 1, by omega⟩
    have yt := ((hc1 n' (by rw [HN.out]; omega)).below hB0 hb1).t
    have hzz := HPos.out (by omega)
    rw [show N - 1 = n' by omega] at hzz
    rw [← hzz] at yt
    have hw1 : IntKind.i64.wrap ((N : Int) - 1) = (n' : Int) := by rw [IntKind.wrap_i64]; omega
    have hw2 : (N : Int) - 1 = (n' : Int) := by omega
    have hn0 : (0 : Int) ≤ (n' : Int) := by omega
    have hnN : (n' : Int) < (N : Int) := by omega
    have hti := HTi.out
    clear hzz hc1 hb1 hn' e3 h0
    cases T with
    | false =>
      simp only [Bool.not_false] at hti
      have HNo := Lib.hid (show appOk a b p l t x = false by rw [HOk.out]; simp)
      have HE := Lib.hid (HAll.out HNo.out)
      have xr0 := cell_at kr 0
      have xr1 := cell_at kr 1
      have fr0 := free_at kr 0
      have fr1 := free_at kr 1
      have hP : Put v1 ((v1.setCell ⟨br, 0, none⟩ (.int .u64 0)).setCell ⟨br, 1, none⟩ (.slice none 0 0)) br (.cells #[.int .u64 0, .slice none 0 0] 27 (0, 0)) := ((Put.refl kr).set 0 _).set 1 _
      have HP := Lib.hid hP
      clear hP
      go_wp2_with fail
      have hP := HP.out
      have kr3 := hP.get (Array.getElem?_eq_some_iff.1 kr).1
      have d0 := cell_at kr3 0
      have d1 := cell_at kr3 1
      refine bodyPost_ret (v := .tuple #[.agg #[.int .u64 0, .slice none 0 0], .int .i64 160]) ?_ rfl ?_
      · simp [results, Try.results14, go_sem, d0, d1]
      · rw [HE.out.1, HE.out.2]
        exact GivesL.none_ _ _ (hB0.trans (hP.below qbr)) _ rfl
    | true =>
      simp only [Bool.not_true] at hti
      by_cases hsz : x.size ≤ 200
      · have hg : decide ((200 : Int) < (x.size : Int)) = false := decide_eq_false (by omega)
        go_wp2_with fail
        clear xl0 xl1 hz yt hw1 hw2 hti hn0 hnN
        with_reducible refine (HLast.out _ ((hA.below hB0).mono hB0.size)).mono ?_
        rintro e v2 ⟨rfl, hC⟩
        replace kk := keep kk hC
        replace kl := keep kl hC
        replace kr := keep kr hC
        replace hB0 := hB0.trans (hC.mono hB0.size)
        clear hC v1
        have hmi := HMi.out
        cases M with
        | false =>
          simp only [Bool.not_false] at hmi
          have HNo := Lib.hid (show appOk a b p l t x = false by rw [HOk.out]; simp)
          have HE := Lib.hid (HAll.out HNo.out)
          have xr0 := cell_at kr 0
          have xr1 := cell_at kr 1
          have fr0 := free_at kr 0
          have fr1 := free_at kr 1
          have hP : Put v2 ((v2.setCell ⟨br, 0, none⟩ (.int .u64 0)).setCell ⟨br, 1, none⟩ (.slice none 0 0)) br (.cells #[.int .u64 0, .slice none 0 0] 27 (0, 0)) := ((Put.refl kr).set 0 _).set 1 _
          have HP := Lib.hid hP
          clear hP
          go_wp2_with fail
          have hP := HP.out
          have kr3 := hP.get (Array.getElem?_eq_some_iff.1 kr).1
          have d0 := cell_at kr3 0
          have d1 := cell_at kr3 1
          refine bodyPost_ret (v := .tuple #[.agg #[.int .u64 0, .slice none 0 0], .int .i64 160]) ?_ rfl ?_
          · simp [results, Try.results14, go_sem, d0, d1]
          · rw [HE.out.1, HE.out.2]
            exact GivesL.none_ _ _ (hB0.trans (hP.below qbr)) _ rfl
        | true =>
          simp only [Bool.not_true] at hmi
          have HYs := Lib.hid (HYes.out (show appOk a b p l t x = true by rw [HOk.out, decide_eq_true hsz]; rfl))
          have xl0 := cell_at kl 0
          have xl1 := cell_at kl 1
          go_wp2_with fail
          clear xl0 xl1
          with_reducible refine (HLast.out _ ((hA.below hB0).mono hB0.size)).mono ?_
          rintro e v3 ⟨rfl, hC⟩
          replace kk := keep kk hC
          replace kl := keep kl hC
          replace kr := keep kr hC
          replace hB0 := hB0.trans (hC.mono hB0.size)
          clear hC v2
          have hadd := HAdd.out
          go_wp2_with fail
          clear hadd
          have hA1 : Below v3.heap.size v3 (v3.alloc (.cells #[.int .u64 (U n1), .int .u64 (U t), .string x, .int .u64 0] 41)) := (Below.refl _ v3).alloc (Nat.le_refl _) _
          have kx := new_at v3 (.cells #[.int .u64 (U n1), .int .u64 (U t), .string x, .int .u64 0] 41) _ rfl
          have qbx : br < v3.heap.size := (Array.getElem?_eq_some_iff.1 kr).1
          replace kk := keep kk hA1
          replace kl := keep kl hA1
          replace kr := keep kr hA1
          replace hB0 := hB0.trans (hA1.mono hB0.size)
          generalize v3.alloc (.cells #[.int .u64 (U n1), .int .u64 (U t), .string x, .int .u64 0] 41) = v4 at *
          obtain ⟨bx, hbx⟩ : ∃ bx, v3.heap.size = bx := ⟨_, rfl⟩
          rw [hbx] at kx qbx ⊢
          clear hA1 hbx v3
          have k0 : ∀ s : Later v4.heap.size v4, s.W.cell? ⟨bk, 0, none⟩ = some _ := fun s => s.cell (cell_at kk 0) (Array.getElem?_eq_some_iff.1 kk).1
          have k1 : ∀ s : Later v4.heap.size v4, s.W.cell? ⟨bk, 1, none⟩ = some _ := fun s => s.cell (cell_at kk 1) (Array.getElem?_eq_some_iff.1 kk).1
          have l0 : ∀ s : Later v4.heap.size v4, s.W.cell? ⟨bl, 0, none⟩ = some _ := fun s => s.cell (cell_at kl 0) (Array.getElem?_eq_some_iff.1 kl).1
          have l1 : ∀ s : Later v4.heap.size v4, s.W.cell? ⟨bl, 1, none⟩ = some _ := fun s => s.cell (cell_at kl 1) (Array.getElem?_eq_some_iff.1 kl).1
          have m0 : ∀ s : Later v4.heap.size v4, s.W.cell? ⟨bx, 0, none⟩ = some _ := fun s => s.cell (cell_at kx 0) (Array.getElem?_eq_some_iff.1 kx).1
          have m1 : ∀ s : Later v4.heap.size v4, s.W.cell? ⟨bx, 1, none⟩ = some _ := fun s => s.cell (cell_at kx 1) (Array.getElem?_eq_some_iff.1 kx).1
          have m2 : ∀ s : Later v4.heap.size v4, s.W.cell? ⟨bx, 2, none⟩ = some _ := fun s => s.cell (cell_at kx 2) (Array.getElem?_eq_some_iff.1 kx).1
          have m3 : ∀ s : Later v4.heap.size v4, s.W.cell? ⟨bx, 3, none⟩ = some _ := fun s => s.cell (cell_at kx 3) (Array.getElem?_eq_some_iff.1 kx).1
          refine region_mix_last_plain (C := fun W' => ∃ s : Later v4.heap.size v4, W' = s.W) [0, 0, 1, 0, 1, 3, 2] (by kernel_rfl) (by kernel_rfl) (by kernel_rfl) (by kernel_rfl) (by kernel_rfl) ⟨⟨v4.drew, (Below.refl _ v4).drew⟩, rfl⟩ ?_
          iterate 2 (refine wpL_calm (fun K hK => ?_); go_simp; refine hK _ ?_; clear hK K)
          refine wpL_eff rfl (fun K hK => ?_)
          go_simp
          have hb4 : Below v4.heap.size v4 v4.drew := (Below.refl _ v4).drew
          refine ⟨trivial, (callsIn_wide.2 (HHead.out v4.drew ((hA.below (hB0.trans (hb4.mono hB0.size))).mono (hB0.trans (hb4.mono hB0.size)).size))).mono ?_⟩
          rintro e v5 ⟨rfl, hC⟩
          have hb5 : Below v4.heap.size v4 v5 := hb4.trans hC
          refine ⟨_, rfl, hK _ _ ⟨⟨_, hb5⟩, rfl⟩ ?_⟩
          clear hK K hC hb4
          refine wpL_calm (fun K hK => ?_); go_simp; refine hK _ ?_; clear hK K
          refine wpL_eff rfl (fun K hK => ?_)
          go_simp
          refine ⟨trivial, (callsIn_wide.2 (HSum.out v5)).mono ?_⟩
          rintro e v6 ⟨rfl, hC⟩
          have hb6 : Below v4.heap.size v4 v6 := hb5.trans (hC.mono hb5.size)
          refine ⟨_, rfl, hK _ _ ⟨⟨_, hb6⟩, rfl⟩ ?_⟩
          clear hK K hC hb5 k0 k1 l0 l1 m0 m1 m2 m3
          refine wpL_plain (fun K hK => ?_); go_simp; refine hK _ ?_; clear hK K
          replace kk := keep kk hb6
          replace kl := keep kl hb6
          replace kr := keep kr hb6
          replace kx := keep kx hb6
          replace hB0 := hB0.trans (hb6.mono hB0.size)
          clear hb6
          have xx3 := cell_at kx 3
          have fx3 := free_at kx 3
          refine wpL_last rfl (fun K hK => ?_)
          go_simp
          refine hK _ _ ?_
          clear hK K xx3 fx3
          refine wpL_nil ?_
          have hP : Put v6 (v6.setCell ⟨bx, 3, none⟩ (.int .u64 (U Sm))) bx (.cells #[.int .u64 (U n1), .int .u64 (U t), .string x, .int .u64 (U Sm)] 41) := (Put.refl kx).set 3 _
          have hsx := (Array.getElem?_eq_some_iff.1 kx).1
          replace hB0 := hB0.trans (hP.below (by omega))
          replace kk := (hP.other (by omega)).trans kk
          replace kl := (hP.other (by omega)).trans kl
          replace kr := (hP.other (by omega)).trans kr
          replace kx := hP.get hsx
          generalize v6.setCell ⟨bx, 3, none⟩ (.int .u64 (U Sm)) = v7 at *
          clear hP hsx v6
          have xl0 := cell_at kl 0
          have yl0 := fun o => old_cell xl0 o
          go_wp2_with fail
          clear xl0 yl0
          have hA1 : Below v7.heap.size v7 (v7.alloc (.cells #[.int .u64 (U p), .slice none 0 0] 27)) := (Below.refl _ v7).alloc (Nat.le_refl _) _
          have ko := new_at v7 (.cells #[.int .u64 (U p), .slice none 0 0] 27) _ rfl
          have qbo : bx < v7.heap.size := (Array.getElem?_eq_some_iff.1 kx).1
          replace kk := keep kk hA1
          replace kl := keep kl hA1
          replace kr := keep kr hA1
          replace kx := keep kx hA1
          replace hB0 := hB0.trans (hA1.mono hB0.size)
          generalize v7.alloc (.cells #[.int .u64 (U p), .slice none 0 0] 27) = v8 at *
          obtain ⟨bo, hbo⟩ : ∃ bo, v7.heap.size = bo := ⟨_, rfl⟩
          rw [hbo] at ko qbo ⊢
          clear hA1 hbo v7
          have l1 : ∀ s : Later v8.heap.size v8, s.W.cell? ⟨bl, 1, none⟩ = some _ := fun s => s.cell (cell_at kl 1) (Array.getElem?_eq_some_iff.1 kl).1
          have o1 : ∀ s : Later v8.heap.size v8, s.W.cell? ⟨bo, 1, none⟩ = some _ := fun s => s.cell (cell_at ko 1) (Array.getElem?_eq_some_iff.1 ko).1
          have m0 : ∀ s : Later v8.heap.size v8, s.W.cell? ⟨bx, 0, none⟩ = some _ := fun s => s.cell (cell_at kx 0) (Array.getElem?_eq_some_iff.1 kx).1
          have m1 : ∀ s : Later v8.heap.size v8, s.W.cell? ⟨bx, 1, none⟩ = some _ := fun s => s.cell (cell_at kx 1) (Array.getElem?_eq_some_iff.1 kx).1
          have m2 : ∀ s : Later v8.heap.size v8, s.W.cell? ⟨bx, 2, none⟩ = some _ := fun s => s.cell (cell_at kx 2) (Array.getElem?_eq_some_iff.1 kx).1
          have m3 : ∀ s : Later v8.heap.size v8, s.W.cell? ⟨bx, 3, none⟩ = some _ := fun s => s.cell (cell_at kx 3) (Array.getElem?_eq_some_iff.1 kx).1
          have hA8 := hA.below hB0
          refine region_plan_plain (C := fun W' => ∃ s : Later v8.heap.size v8, W' = s.W) [3, 0, 3, 0, 1, 0, 1, 1, 3, 2] (.calm 0 (.calm 1 (.calm 2 (.calm 3 (.calm 5 (.fork 4 (.one 6 (.one 7 (.one 8 (.one 9 .done)))) 6 (.one 4 (.one 7 (.one 8 (.one 9 .done)))))))))) (by kernel_rfl) (by kernel_rfl) (by kernel_rfl) (by kernel_rfl) (by kernel_rfl) ⟨⟨v8.drew, (Below.refl _ v8).drew⟩, rfl⟩ ?_
          refine wpP_plain rfl rfl (fun K hK => ?_); go_simp; refine hK _ ?_; clear hK K
          refine wpP_calm rfl rfl (fun K hK => ?_); go_simp; refine hK _ ?_; clear hK K
          refine wpP_plain rfl rfl (fun K hK => ?_); go_simp; refine hK _ ?_; clear hK K
          refine wpP_calm rfl rfl (fun K hK => ?_); go_simp; refine hK _ ?_; clear hK K
          refine wpP_calm rfl rfl (fun K hK => ?_); go_simp; refine hK _ ?_; clear hK K
          clear l1 o1 m0 m1 m2 m3
          refine wpP_fork ?_ ?_
          · obtain ⟨vA, WA, happ1, hown1, hB1⟩ := append_list_e v8.drew v8.heap.size (some ⟨b1, o1, none⟩) w.heap.size c l N HN.out hN2 (hA8.below (Below.refl _ v8).drew) (Nat.le_refl _)
            refine wpP_eff rfl rfl rfl (fun K hK => ?_)
            refine effOpE_append_run (.tmp 62) (.tmp 64) _ rfl rfl rfl happ1 ?_
            have hBx : Below v8.heap.size v8 WA := (Below.refl _ v8).drew.trans hB1
            refine hK _ _ ⟨⟨_, hBx⟩, rfl⟩ ?_
            clear hK K happ1 hB1
            refine wpP_eff rfl rfl rfl (fun K hK => ?_)
            go_simp
            have hBy : Below v8.heap.size v8 (WA.alloc (.cells #[.int .u64 (U n1), .int .u64 (U t), .string x, .int .u64 (U Sm)] 41)) := hBx.alloc hBx.size _
            have hownA : OwnE (WA.alloc (.cells #[.int .u64 (U n1), .int .u64 (U t), .string x, .int .u64 (U Sm)] 41)) v8.heap.size vA l := hown1.of (fun k _ hk => Below.heap_alloc _ _ _ hk)
            have knew := new_at WA (.cells #[.int .u64 (U n1), .int .u64 (U t), .string x, .int .u64 (U Sm)] 41) _ rfl
            refine hK _ _ ⟨⟨_, hBy⟩, rfl⟩ ?_
            clear hK K hBx hown1
            generalize hWB : WA.alloc (.cells #[.int .u64 (U n1), .int .u64 (U t), .string x, .int .u64 (U Sm)] 41) = WB at *
            clear hWB
            have hfour : FourE WB WA.heap.size 0 ⟨n1, t, x, Sm⟩ := ⟨cell_at knew 0, cell_at knew 1, cell_at knew 2, cell_at knew 3⟩
            obtain ⟨vC, WC, happ2, hown2, hB2⟩ := append_one_e WB v8.heap.size vA l ⟨n1, t, x, Sm⟩ WA.heap.size hownA hfour hBy.size (by rw [HN.out]; have := HYs.out.2.2; omega)
            refine wpP_eff rfl rfl rfl (fun K hK => ?_)
            refine effOpE_append_run (.tmp 65) (.tmp 67) _ rfl rfl rfl happ2 ?_
            have hll : (l ++ [(⟨n1, t, x, Sm⟩ : Ent)]).length = N + 1 := by rw [List.length_append, HN.out]; rfl
            obtain ⟨A5, c5, hv, hlc, hlie⟩ := hown2.lie
            rw [hll] at hv hlc
            subst hv
            have hBz : Below v8.heap.size v8 WC := hBy.trans hB2
            refine hK _ _ ⟨⟨_, hBz⟩, rfl⟩ ?_
            clear hK K happ2 hB2 hown2 hownA hfour
            have HLl := Lib.hid hll
            clear hll
            refine wpP_one (wpP_plain rfl rfl (fun K hK => ?_)); go_simp; refine hK _ ?_; clear hK K
            have ko1 := keep ko hBz
            have kr1 := keep kr hBz
            have hB1w := hB0.trans (hBz.mono hB0.size)
            have lb := (Array.getElem?_eq_some_iff.1 ko).1
            have hs8 := hBz.size
            obtain ⟨g, o, cs, hA5, hg5, hh5, hc5⟩ := hlie (by rw [HLl.out]; omega)
            subst hA5
            have xo1 := cell_at ko1 1
            have fo1 := free_at ko1 1
            refine wpP_last rfl rfl rfl (fun K hK => ?_)
            go_simp
            refine hK _ _ ?_
            clear hK K xo1 fo1
            refine wpP_done ?_
            have hP : Put WC (WC.setCell ⟨bo, 1, none⟩ (.slice (some ⟨g, o, none⟩) (N + 1) c5)) bo (.cells #[.int .u64 (U p), .slice (some ⟨g, o, none⟩) (N + 1) c5] 27 (0, 0)) := (Put.refl ko1).set 1 _
            have ko2 := hP.get (Array.getElem?_eq_some_iff.1 ko1).1
            have kr2 := (hP.other (k := br) (by omega)).trans kr1
            have hB2w := hB1w.trans (hP.below (by omega))
            have hh52 := (hP.other (k := g) (by omega)).trans hh5
            have HFin : Hid (∀ j, j < N + 1 → FourE (WC.setCell ⟨bo, 1, none⟩ (.slice (some ⟨g, o, none⟩) (N + 1) c5)) g (o + j * 4) (nthE (l ++ [(⟨n1, t, x, Sm⟩ : Ent)]) j)) := Lib.hid (fun j hj => (hc5 j (by rw [HLl.out]; exact hj)).put hP (by omega))
            generalize WC.setCell ⟨bo, 1, none⟩ (.slice (some ⟨g, o, none⟩) (N + 1) c5) = v9 at *
            clear hP hc5 hh5 ko1 kr1 hB1w hlie
            have hz0 := cell_at ko2 0
            have hz1 := cell_at ko2 1
            have hr0 := cell_at kr2 0
            have hr1 := cell_at kr2 1
            have fr0 := free_at kr2 0
            have fr1 := free_at kr2 1
            by_cases h30 : N < 30
            · have hg30 : decide ((30 : Int) < (N : Int) + 1) = false := decide_eq_false (by omega)
              have hP : Put v9 ((v9.setCell ⟨br, 0, none⟩ (.int .u64 (U p))).setCell ⟨br, 1, none⟩ (.slice (some ⟨g, o, none⟩) (N + 1) c5)) br (.cells #[.int .u64 (U p), .slice (some ⟨g, o, none⟩) (N + 1) c5] 27 (0, 0)) := ((Put.refl kr2).set 0 _).set 1 _
              have HP := Lib.hid hP
              clear hP
              go_wp2_with fail
              have hP := HP.out
              have kr3 := hP.get (Array.getElem?_eq_some_iff.1 kr2).1
              have d0 := cell_at kr3 0
              have d1 := cell_at kr3 1
              refine bodyPost_ret (v := .tuple #[.agg #[.int .u64 (U p), .slice (some ⟨g, o, none⟩) (N + 1) c5], .int .i64 0]) ?_ rfl ?_
              · simp [results, Try.results14, go_sem, d0, d1]
              · rw [HYs.out.1, HYs.out.2.1, HNew.out, putE_few _ _ _ (by rw [HN.out]; exact h30)]
                refine ⟨hB2w.trans (hP.below qbr), some ⟨g, o, none⟩, c5, by show _ = Ending.returned (.tuple #[.agg #[.int .u64 (U p), .slice _ (l ++ [(⟨n1, t, x, Sm⟩ : Ent)]).length c5], _]); rw [HLl.out], by show (l ++ [(⟨n1, t, x, Sm⟩ : Ent)]).length ≤ c5; rw [HLl.out]; exact hlc, fun _ => ⟨g, o, cs, rfl, by have := hB0.size; omega, (hP.other (by omega)).trans hh52, fun j hj => (HFin.out j (by rw [HLl.out] at hj; exact hj)).put hP (by omega)⟩⟩
            · have h30e : N = 30 := by have := HYs.out.2.2; omega
              have hg30 : decide ((30 : Int) < (N : Int) + 1) = true := decide_eq_true (by omega)
              obtain ⟨q0, q1, q2, q3⟩ := HFin.out 0 (by omega)
              rw [Nat.zero_mul, Nat.add_zero] at q0 q1 q2 q3
              have fo0 := free_at ko2 0
              have fo1 := free_at ko2 1
              have hcap : ¬ (c5 = 1) := by omega
              have hcap1 : (1 : Int) ≤ (N : Int) + 1 := by omega
              have hcapN : (N : Int) + 1 ≤ (c5 : Int) := by omega
              have hF0 : Hid (nthE (l ++ [(⟨n1, t, x, Sm⟩ : Ent)]) 0 = nthE l 0) := Lib.hid (nthE_left _ _ _ (by rw [HN.out]; omega))
              obtain ⟨f0, hf0⟩ : ∃ f0, (nthE (l ++ [(⟨n1, t, x, Sm⟩ : Ent)]) 0).m = f0 := ⟨_, rfl⟩
              rw [hf0] at q3
              have HF0 := Lib.hid hf0
              have HN30 := Lib.hid h30e
              have hP1 : Put v9 ((v9.setCell ⟨bo, 0, none⟩ (.int .u64 (U f0))).setCell ⟨bo, 1, none⟩ (.slice (some ⟨g, o + 4, none⟩) 30 (c5 - 1))) bo (.cells #[.int .u64 (U f0), .slice (some ⟨g, o + 4, none⟩) 30 (c5 - 1)] 27 (0, 0)) := ((Put.refl ko2).set 0 _).set 1 _
              have HP1 := Lib.hid hP1
              clear hP1 hf0 q0 q1 q2
              go_wp2_with fail
              have hP1 := HP1.out
              have kr3 := (hP1.other (k := br) (by omega)).trans kr2
              have hP2 : Put _ ((((v9.setCell ⟨bo, 0, none⟩ (.int .u64 (U f0))).setCell ⟨bo, 1, none⟩ (.slice (some ⟨g, o + 4, none⟩) 30 (c5 - 1))).setCell ⟨br, 0, none⟩ (.int .u64 (U f0))).setCell ⟨br, 1, none⟩ (.slice (some ⟨g, o + 4, none⟩) 30 (c5 - 1))) br (.cells #[.int .u64 (U f0), .slice (some ⟨g, o + 4, none⟩) 30 (c5 - 1)] 27 (0, 0)) := ((Put.refl kr3).set 0 _).set 1 _
              have kr4 := hP2.get (Array.getElem?_eq_some_iff.1 kr3).1
              have d0 := cell_at kr4 0
              have d1 := cell_at kr4 1
              refine bodyPost_ret (v := .tuple #[.agg #[.int .u64 (U f0), .slice (some ⟨g, o + 4, none⟩) 30 (c5 - 1)], .int .i64 0]) ?_ rfl ?_
              · simp [results, Try.results14, go_sem, d0, d1]
              · have hl30 : (l.drop 1 ++ [(⟨n1, t, x, Sm⟩ : Ent)]).length = 30 := by
                  rw [List.length_append, List.length_drop, HN.out, HN30.out]; rfl
                rw [HYs.out.1, HYs.out.2.1, HNew.out, putE_full _ _ _ (by rw [HN.out]; exact HN30.out)]
                refine ⟨(hB2w.trans (hP1.below (by omega))).trans (hP2.below qbr), some ⟨g, o + 4, none⟩, c5 - 1, ?_, ?_, fun _ => ⟨g, o + 4, cs, rfl, by have := hB0.size; omega, (hP2.other (by omega)).trans ((hP1.other (by omega)).trans hh52), fun j hj => ?_⟩⟩
                · show _ = Ending.returned (.tuple #[.agg #[.int .u64 (U (nthE l 0).m), .slice _ (l.drop 1 ++ [(⟨n1, t, x, Sm⟩ : Ent)]).length (c5 - 1)], _])
                  rw [hl30, ← HF0.out, hF0.out]
                · show (l.drop 1 ++ [(⟨n1, t, x, Sm⟩ : Ent)]).length ≤ c5 - 1
                  rw [hl30]
                  have := HN30.out
                  omega
                · have hj2 : j < 30 := by rw [← hl30]; exact hj
                  have e : nthE (l.drop 1 ++ [(⟨n1, t, x, Sm⟩ : Ent)]) j = nthE (l ++ [(⟨n1, t, x, Sm⟩ : Ent)]) (1 + j) := by
                    rw [← nthE_drop, List.drop_append_of_le_length (by rw [HN.out, HN30.out]; omega)]
                  have h9 := ((HFin.out (1 + j) (by rw [HN30.out]; omega)).put hP1 (by omega)).put hP2 (by omega)
                  rw [show o + 4 + j * 4 = o + (1 + j) * 4 by omega]
                  show FourE _ _ _ (nthE (l.drop 1 ++ [(⟨n1, t, x, Sm⟩ : Ent)]) j)
                  rw [e]
                  exact h9
          · refine wpP_eff rfl rfl rfl (fun K hK => ?_)
            go_simp
            have hBx : Below v8.heap.size v8 (v8.alloc (.cells #[.int .u64 (U n1), .int .u64 (U t), .string x, .int .u64 (U Sm)] 41)).drew := ((Below.refl _ v8).alloc (Nat.le_refl _) _).drew
            have knew : (v8.alloc (.cells #[.int .u64 (U n1), .int .u64 (U t), .string x, .int .u64 (U Sm)] 41)).drew.heap[v8.heap.size]? = some (.cells #[.int .u64 (U n1), .int .u64 (U t), .string x, .int .u64 (U Sm)] 41 (0, 0)) := new_at v8 _ _ rfl
            refine hK _ _ ⟨⟨_, hBx⟩, rfl⟩ ?_
            clear hK K
            have hA9 := hA8.below (hBx.mono hB0.size)
            generalize hWA : (v8.alloc (.cells #[.int .u64 (U n1), .int .u64 (U t), .string x, .int .u64 (U Sm)] 41)).drew = WA at *
            have hsA : v8.heap.size + 1 = WA.heap.size := by rw [← hWA]; simp
            clear hWA
            obtain ⟨vA, WB, happ1, hown1, hB1⟩ := append_list_e WA (v8.heap.size + 1) (some ⟨b1, o1, none⟩) w.heap.size c l N HN.out hN2 hA9 (Nat.le_of_eq hsA)
            refine wpP_eff rfl rfl rfl (fun K hK => ?_)
            refine effOpE_append_run (.tmp 62) (.tmp 64) _ rfl rfl rfl happ1 ?_
            have hBy : Below v8.heap.size v8 WB := hBx.trans (hB1.mono (by omega))
            refine hK _ _ ⟨⟨_, hBy⟩, rfl⟩ ?_
            clear hK K happ1
            have knew2 := (hB1.block v8.heap.size (by omega)).trans knew
            have hownA := hown1.mono (Nat.le_succ v8.heap.size)
            have hfour : FourE WB v8.heap.size 0 ⟨n1, t, x, Sm⟩ := ⟨cell_at knew2 0, cell_at knew2 1, cell_at knew2 2, cell_at knew2 3⟩
            obtain ⟨vC, WC, happ2, hown2, hB2⟩ := append_one_e WB v8.heap.size vA l ⟨n1, t, x, Sm⟩ v8.heap.size hownA hfour hBy.size (by rw [HN.out]; have := HYs.out.2.2; omega)
            clear hown1 hB1 hBx knew knew2 hsA
            refine wpP_eff rfl rfl rfl (fun K hK => ?_)
            refine effOpE_append_run (.tmp 65) (.tmp 67) _ rfl rfl rfl happ2 ?_
            have hll : (l ++ [(⟨n1, t, x, Sm⟩ : Ent)]).length = N + 1 := by rw [List.length_append, HN.out]; rfl
            obtain ⟨A5, c5, hv, hlc, hlie⟩ := hown2.lie
            rw [hll] at hv hlc
            subst hv
            have hBz : Below v8.heap.size v8 WC := hBy.trans hB2
            refine hK _ _ ⟨⟨_, hBz⟩, rfl⟩ ?_
            clear hK K happ2 hB2 hown2 hownA hfour
            have HLl := Lib.hid hll
            clear hll
            refine wpP_one (wpP_plain rfl rfl (fun K hK => ?_)); go_simp; refine hK _ ?_; clear hK K
            have ko1 := keep ko hBz
            have kr1 := keep kr hBz
            have hB1w := hB0.trans (hBz.mono hB0.size)
            have lb := (Array.getElem?_eq_some_iff.1 ko).1
            have hs8 := hBz.size
            obtain ⟨g, o, cs, hA5, hg5, hh5, hc5⟩ := hlie (by rw [HLl.out]; omega)
            subst hA5
            have xo1 := cell_at ko1 1
            have fo1 := free_at ko1 1
            refine wpP_last rfl rfl rfl (fun K hK => ?_)
            go_simp
            refine hK _ _ ?_
            clear hK K xo1 fo1
            refine wpP_done ?_
            have hP : Put WC (WC.setCell ⟨bo, 1, none⟩ (.slice (some ⟨g, o, none⟩) (N + 1) c5)) bo (.cells #[.int .u64 (U p), .slice (some ⟨g, o, none⟩) (N + 1) c5] 27 (0, 0)) := (Put.refl ko1).set 1 _
            have ko2 := hP.get (Array.getElem?_eq_some_iff.1 ko1).1
            have kr2 := (hP.other (k := br) (by omega)).trans kr1
            have hB2w := hB1w.trans (hP.below (by omega))
            have hh52 := (hP.other (k := g) (by omega)).trans hh5
            have HFin : Hid (∀ j, j < N + 1 → FourE (WC.setCell ⟨bo, 1, none⟩ (.slice (some ⟨g, o, none⟩) (N + 1) c5)) g (o + j * 4) (nthE (l ++ [(⟨n1, t, x, Sm⟩ : Ent)]) j)) := Lib.hid (fun j hj => (hc5 j (by rw [HLl.out]; exact hj)).put hP (by omega))
            generalize WC.setCell ⟨bo, 1, none⟩ (.slice (some ⟨g, o, none⟩) (N + 1) c5) = v9 at *
            clear hP hc5 hh5 ko1 kr1 hB1w hlie
            have hz0 := cell_at ko2 0
            have hz1 := cell_at ko2 1
            have hr0 := cell_at kr2 0
            have hr1 := cell_at kr2 1
            have fr0 := free_at kr2 0
            have fr1 := free_at kr2 1
            by_cases h30 : N < 30
            · have hg30 : decide ((30 : Int) < (N : Int) + 1) = false := decide_eq_false (by omega)
              have hP : Put v9 ((v9.setCell ⟨br, 0, none⟩ (.int .u64 (U p))).setCell ⟨br, 1, none⟩ (.slice (some ⟨g, o, none⟩) (N + 1) c5)) br (.cells #[.int .u64 (U p), .slice (some ⟨g, o, none⟩) (N + 1) c5] 27 (0, 0)) := ((Put.refl kr2).set 0 _).set 1 _
              have HP := Lib.hid hP
              clear hP
              go_wp2_with fail
              have hP := HP.out
              have kr3 := hP.get (Array.getElem?_eq_some_iff.1 kr2).1
              have d0 := cell_at kr3 0
              have d1 := cell_at kr3 1
              refine bodyPost_ret (v := .tuple #[.agg #[.int .u64 (U p), .slice (some ⟨g, o, none⟩) (N + 1) c5], .int .i64 0]) ?_ rfl ?_
              · simp [results, Try.results14, go_sem, d0, d1]
              · rw [HYs.out.1, HYs.out.2.1, HNew.out, putE_few _ _ _ (by rw [HN.out]; exact h30)]
                refine ⟨hB2w.trans (hP.below qbr), some ⟨g, o, none⟩, c5, by show _ = Ending.returned (.tuple #[.agg #[.int .u64 (U p), .slice _ (l ++ [(⟨n1, t, x, Sm⟩ : Ent)]).length c5], _]); rw [HLl.out], by show (l ++ [(⟨n1, t, x, Sm⟩ : Ent)]).length ≤ c5; rw [HLl.out]; exact hlc, fun _ => ⟨g, o, cs, rfl, by have := hB0.size; omega, (hP.other (by omega)).trans hh52, fun j hj => (HFin.out j (by rw [HLl.out] at hj; exact hj)).put hP (by omega)⟩⟩
            · have h30e : N = 30 := by have := HYs.out.2.2; omega
              have hg30 : decide ((30 : Int) < (N : Int) + 1) = true := decide_eq_true (by omega)
              obtain ⟨q0, q1, q2, q3⟩ := HFin.out 0 (by omega)
              rw [Nat.zero_mul, Nat.add_zero] at q0 q1 q2 q3
              have fo0 := free_at ko2 0
              have fo1 := free_at ko2 1
              have hcap : ¬ (c5 = 1) := by omega
              have hcap1 : (1 : Int) ≤ (N : Int) + 1 := by omega
              have hcapN : (N : Int) + 1 ≤ (c5 : Int) := by omega
              have hF0 : Hid (nthE (l ++ [(⟨n1, t, x, Sm⟩ : Ent)]) 0 = nthE l 0) := Lib.hid (nthE_left _ _ _ (by rw [HN.out]; omega))
              obtain ⟨f0, hf0⟩ : ∃ f0, (nthE (l ++ [(⟨n1, t, x, Sm⟩ : Ent)]) 0).m = f0 := ⟨_, rfl⟩
              rw [hf0] at q3
              have HF0 := Lib.hid hf0
              have HN30 := Lib.hid h30e
              have hP1 : Put v9 ((v9.setCell ⟨bo, 0, none⟩ (.int .u64 (U f0))).setCell ⟨bo, 1, none⟩ (.slice (some ⟨g, o + 4, none⟩) 30 (c5 - 1))) bo (.cells #[.int .u64 (U f0), .slice (some ⟨g, o + 4, none⟩) 30 (c5 - 1)] 27 (0, 0)) := ((Put.refl ko2).set 0 _).set 1 _
              have HP1 := Lib.hid hP1
              clear hP1 hf0 q0 q1 q2
              go_wp2_with fail
              have hP1 := HP1.out
              have kr3 := (hP1.other (k := br) (by omega)).trans kr2
              have hP2 : Put _ ((((v9.setCell ⟨bo, 0, none⟩ (.int .u64 (U f0))).setCell ⟨bo, 1, none⟩ (.slice (some ⟨g, o + 4, none⟩) 30 (c5 - 1))).setCell ⟨br, 0, none⟩ (.int .u64 (U f0))).setCell ⟨br, 1, none⟩ (.slice (some ⟨g, o + 4, none⟩) 30 (c5 - 1))) br (.cells #[.int .u64 (U f0), .slice (some ⟨g, o + 4, none⟩) 30 (c5 - 1)] 27 (0, 0)) := ((Put.refl kr3).set 0 _).set 1 _
              have kr4 := hP2.get (Array.getElem?_eq_some_iff.1 kr3).1
              have d0 := cell_at kr4 0
              have d1 := cell_at kr4 1
              refine bodyPost_ret (v := .tuple #[.agg #[.int .u64 (U f0), .slice (some ⟨g, o + 4, none⟩) 30 (c5 - 1)], .int .i64 0]) ?_ rfl ?_
              · simp [results, Try.results14, go_sem, d0, d1]
              · have hl30 : (l.drop 1 ++ [(⟨n1, t, x, Sm⟩ : Ent)]).length = 30 := by
                  rw [List.length_append, List.length_drop, HN.out, HN30.out]; rfl
                rw [HYs.out.1, HYs.out.2.1, HNew.out, putE_full _ _ _ (by rw [HN.out]; exact HN30.out)]
                refine ⟨(hB2w.trans (hP1.below (by omega))).trans (hP2.below qbr), some ⟨g, o + 4, none⟩, c5 - 1, ?_, ?_, fun _ => ⟨g, o + 4, cs, rfl, by have := hB0.size; omega, (hP2.other (by omega)).trans ((hP1.other (by omega)).trans hh52), fun j hj => ?_⟩⟩
                · show _ = Ending.returned (.tuple #[.agg #[.int .u64 (U (nthE l 0).m), .slice _ (l.drop 1 ++ [(⟨n1, t, x, Sm⟩ : Ent)]).length (c5 - 1)], _])
                  rw [hl30, ← HF0.out, hF0.out]
                · show (l.drop 1 ++ [(⟨n1, t, x, Sm⟩ : Ent)]).length ≤ c5 - 1
                  rw [hl30]
                  have := HN30.out
                  omega
                · have hj2 : j < 30 := by rw [← hl30]; exact hj
                  have e : nthE (l.drop 1 ++ [(⟨n1, t, x, Sm⟩ : Ent)]) j = nthE (l ++ [(⟨n1, t, x, Sm⟩ : Ent)]) (1 + j) := by
                    rw [← nthE_drop, List.drop_append_of_le_length (by rw [HN.out, HN30.out]; omega)]
                  have h9 := ((HFin.out (1 + j) (by rw [HN30.out]; omega)).put hP1 (by omega)).put hP2 (by omega)
                  rw [show o + 4 + j * 4 = o + (1 + j) * 4 by omega]
                  show FourE _ _ _ (nthE (l.drop 1 ++ [(⟨n1, t, x, Sm⟩ : Ent)]) j)
                  rw [e]
                  exact h9
      · have hg : decide ((200 : Int) < (x.size : Int)) = true := decide_eq_true (by omega)
        have HNo := Lib.hid (show appOk a b p l t x = false by rw [HOk.out, decide_eq_false hsz]; rfl)
        have HE := Lib.hid (HAll.out HNo.out)
        have xr0 := cell_at kr 0
        have xr1 := cell_at kr 1
        have fr0 := free_at kr 0
        have fr1 := free_at kr 1
        have hP : Put v1 ((v1.setCell ⟨br, 0, none⟩ (.int .u64 0)).setCell ⟨br, 1, none⟩ (.slice none 0 0)) br (.cells #[.int .u64 0, .slice none 0 0] 27 (0, 0)) := ((Put.refl kr).set 0 _).set 1 _
        have HP := Lib.hid hP
        clear hP
        go_wp2_with fail
        have hP := HP.out
        have kr3 := hP.get (Array.getElem?_eq_some_iff.1 kr).1
        have d0 := cell_at kr3 0
        have d1 := cell_at kr3 1
        refine bodyPost_ret (v := .tuple #[.agg #[.int .u64 0, .slice none 0 0], .int .i64 160]) ?_ rfl ?_
        · simp [results, Try.results14, go_sem, d0, d1]
        · rw [HE.out.1, HE.out.2]
          exact GivesL.none_ _ _ (hB0.trans (hP.below qbr)) _ rfl

theorem refAppend_any (a b p : BitVec 64) (A : Option Addr) (c : Nat) (l : LE) (N : Nat) (hN : l.length = N) (hN2 : N ≤ 65535) (hx : ∀ j, j < N → (nthE l j).x.size ≤ 60000) (t : BitVec 64) (x : ByteArray) (hxs : x.size ≤ 60000) (w : World) (hA : AtE w w.heap.size A l) :
    Calls Try.prog 14 #[.agg #[.int .u64 (U a), .int .u64 (U b)], .agg #[.int .u64 (U p), .slice A N c], .int .u64 (U t), .string x] w (GivesL (appL a b p l t x) (appC a b p l t x) w) := by
  by_cases h0 : N = 0
  · exact refAppend_zero a b p A c l N h0 hN hN2 hx t x hxs w hA
  · obtain ⟨b1, o1, rfl, -, -⟩ := hA (by omega)
    exact refAppend_pos a b p b1 o1 c l N (by omega) hN hN2 hx t x hxs w hA
end Go.Proofs.Ytdhbomipffidlaa
