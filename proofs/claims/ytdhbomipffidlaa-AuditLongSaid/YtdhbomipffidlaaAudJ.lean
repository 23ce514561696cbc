/-
  An entry appended: by package audit. Printed by gen_aud.py.
-/
import Derived.Test.YtdhbomipffidlaaAudI
namespace Go.Proofs.Ytdhbomipffidlaa
open Go.RowKit Go.Shelf
attribute [local go_sem] Oper.semAt_some calmOp calmUpon effOp effUpon

/-- A log told, with a list of the call's own. -/
def GivesL (t : Lg) (k : Int) (w : World) (e : Ending) (w' : World) : Prop :=
  Below w.heap.size w w' ∧ ∃ A c, e = .returned (.tuple #[.agg #[.int .u64 (U t.p), .slice A t.l.length c], .int .i64 k]) ∧ t.l.length ≤ c ∧ LieE w' w.heap.size A t.l
theorem FourE.put {w w' : World} {b o k : Nat} {ob : Obj} {e : Ent} (h : FourE w b o e) (hP : Put w w' k ob) (hk : b ≠ k) : FourE w' b o e :=
  ⟨(World.cell?_of_block (a := ⟨b, _, none⟩) (hP.other hk)).trans h.s, (World.cell?_of_block (a := ⟨b, _, none⟩) (hP.other hk)).trans h.t, (World.cell?_of_block (a := ⟨b, _, none⟩) (hP.other hk)).trans h.x, (World.cell?_of_block (a := ⟨b, _, none⟩) (hP.other hk)).trans h.m⟩
/-- A world that is as w was, but for one cell of a block. -/
structure Slot (w : World) (bo : Nat) where
  W : World
  others : ∀ k, k ≠ bo → W.heap[k]? = w.heap[k]?
  one : W.cell? ⟨bo, 1, none⟩ = w.cell? ⟨bo, 1, none⟩
instance slot_nonempty (w : World) (bo : Nat) : Nonempty (Slot w bo) := ⟨⟨w, fun _ _ => rfl, rfl⟩⟩
theorem GivesL.none_ (w w' : World) (h : Below w.heap.size w w') (e : Ending) (he : e = .returned (.tuple #[.agg #[.int .u64 0, .slice none 0 0], .int .i64 160])) : GivesL ⟨0#64, []⟩ 160 w e w' := ⟨h, none, 0, he, Nat.le_refl _, LieE.nil⟩
theorem AtE.none_len {w : World} {B : Nat} {l : LE} (h : AtE w B none l) : l.length = 0 := by
  by_cases h0 : l.length = 0
  · exact h0
  · obtain ⟨b, o, e, -⟩ := h (by omega)
    cases e

set_option maxRecDepth 100000 in
set_option maxHeartbeats 8000000 in
theorem Append_any (a b p : BitVec 64) (A : Option Addr) (c : Nat) (l : LE) (N : Nat) (hN : l.length = N) (hN2 : N ≤ 65535) (hNc : N ≤ c) (hx : ∀ j, j < N → (nthE l j).x.size ≤ 60000) (t : BitVec 64) (x : ByteArray) (hxs : x.size ≤ 60000) (w : World) (hA : AtE w w.heap.size A l) :
    Calls Try.prog 12 #[.agg #[.int .u64 (U a), .int .u64 (U b)], .agg #[.int .u64 (U p), .slice A N c], .int .u64 (U t), .string x] w (GivesL (appL a b p l t x) (appC a b p l t x) w) := by
  have HLast := Lib.hid (fun W h => last_any p A c l N hN (by omega) W h)
  have HRight := Lib.hid (fun W h => Right_any a b p A c l N hN hN2 hx W h)
  have hok : appOk a b p l t x = (rightE a b p l && (decide (x.size ≤ 200) && stepE (lastE p l) ⟨(lastE p l).s + 1#64, t, x, 0#64⟩)) := rfl
  have hnew : newE a b p l t x = ⟨(lastE p l).s + 1#64, t, x, sumE a b (lastE p l).m ⟨(lastE p l).s + 1#64, t, x, 0#64⟩⟩ := rfl
  have HSt := Lib.hid (fun W => isStep_any (lastE p l) ⟨(lastE p l).s + 1#64, t, x, 0#64⟩ W)
  have HSum := Lib.hid (fun W => Sum_any a b (lastE p l).m ⟨(lastE p l).s + 1#64, t, x, 0#64⟩ hxs W)
  have hadd : IntKind.u64.wrap (U (lastE p l).s + 1) = U ((lastE p l).s + 1#64) := by have h := U_add (lastE p l).s 1#64; rw [U_lit1] at h; exact h
  obtain ⟨Sm, hSm⟩ : ∃ Sm, sumE a b (lastE p l).m ⟨(lastE p l).s + 1#64, t, x, 0#64⟩ = Sm := ⟨_, rfl⟩
  obtain ⟨St, hSt⟩ : ∃ St, stepE (lastE p l) ⟨(lastE p l).s + 1#64, t, x, 0#64⟩ = St := ⟨_, rfl⟩
  rw [hSm] at hnew HSum
  rw [hSt] at hok HSt
  unfold Ent.val at HLast HSt HSum
  obtain ⟨z, hz⟩ : ∃ z, lastE p l = z := ⟨_, rfl⟩
  rw [hz] at HLast HSt HSum hnew hadd
  obtain ⟨n1, hn1⟩ : ∃ n1, z.s + 1#64 = n1 := ⟨_, rfl⟩
  rw [hn1] at HSt HSum hnew hadd
  obtain ⟨R, hR⟩ : ∃ R, rightE a b p l = R := ⟨_, rfl⟩
  rw [hR] at hok HRight
  have u0 : U 0#64 = 0 := by decide +kernel
  rw [u0] at HSt HSum
  have HAll := Lib.hid (fun (h : appOk a b p l t x = false) => app_none (a := a) (b := b) (p := p) (t := t) (l := l) (x := x) (by rw [h]; exact Bool.false_ne_true))
  have HYes := Lib.hid (fun (h : appOk a b p l t x = true) => show appC a b p l t x = 0 ∧ appL a b p l t x = putE p l (newE a b p l t x) ∧ N ≤ 30 from ⟨appC_ok h, by unfold appL; rw [if_pos h], by have := (app_ok h).1; omega⟩)
  have HOk := Lib.hid hok
  have HNew := Lib.hid hnew
  have HN := Lib.hid hN
  have HAdd := Lib.hid hadd
  clear hSm hSt hz hn1 hR u0 hok hnew hN hadd hx
  go_enter Try.func12, Try.ntmps12
  go_wp2_with fail
  have kk := old_at (o := .cells #[.int .u64 0, .slice none 0 0] 27) (old_at (o := .cells #[.int .u64 (U p), .slice A N c] 27) (new_at w (.cells #[.int .u64 (U a), .int .u64 (U b)] 24) _ rfl))
  have kl := old_at (o := .cells #[.int .u64 0, .slice none 0 0] 27) (new_at (w.alloc (.cells #[.int .u64 (U a), .int .u64 (U b)] 24)) (.cells #[.int .u64 (U p), .slice A N c] 27) (w.heap.size + 1) (by simp))
  have kr := new_at ((w.alloc (.cells #[.int .u64 (U a), .int .u64 (U b)] 24)).alloc (.cells #[.int .u64 (U p), .slice A N c] 27)) (.cells #[.int .u64 0, .slice none 0 0] 27) (w.heap.size + 1 + 1) (by simp)
  have hB0 : Below w.heap.size w (((w.alloc (.cells #[.int .u64 (U a), .int .u64 (U b)] 24)).alloc (.cells #[.int .u64 (U p), .slice A N c] 27)).alloc (.cells #[.int .u64 0, .slice none 0 0] 27)) := (((Below.refl _ w).alloc (Nat.le_refl _) _).alloc (by simp) _).alloc (by simp; omega) _
  have hAu := hA.later hB0
  generalize (((w.alloc (.cells #[.int .u64 (U a), .int .u64 (U b)] 24)).alloc (.cells #[.int .u64 (U p), .slice A N c] 27)).alloc (.cells #[.int .u64 0, .slice none 0 0] 27)) = v0 at *
  obtain ⟨br, hbr⟩ : ∃ br, w.heap.size + 1 + 1 = br := ⟨_, rfl⟩
  have qbr : w.heap.size ≤ br := by omega
  rw [hbr] at kr ⊢
  obtain ⟨bl, hbl⟩ : ∃ bl, w.heap.size + 1 = bl := ⟨_, rfl⟩
  have qbl : bl < br := by omega
  rw [hbl] at kl ⊢
  obtain ⟨bk, hbk⟩ : ∃ bk, w.heap.size = bk := ⟨_, rfl⟩
  have qbk : bk < bl := by omega
  rw [hbk] at kk ⊢
  clear hbr hbl hbk
  refine wp_scope_jumps 0 (fun a' w' => Below w.heap.size w w' ∧ Hid (w'.heap[br]? = some (.cells #[.int .u64 0, .slice none 0 0] 27 (0, 0))) ∧ Hid (appOk a b p l t x = false) ∧ ∃ (u0 u1 u2 u3 u4 u5 u6 u7 u9 u10 u11 u12 u13 u14 u15 u16 u17 u18 u19 u20 u21 u22 u23 u24 u25 u26 u27 u28 u29 u30 u31 u32 u33 u34 u35 u36 u37 u38 u39 u40 u41 u42 u43 u44 u45 u46 u47 u48 u49 u50 u51 u52 u53 u54 u55 u56 u57 u58 u59 u60 u61 u62 u63 u64 u65 u66 u67 u68 u69 u70 u71 u72 u73 u74 u75 : Value), a' = { tmps := #[u0, u1, u2, u3, u4, u5, u6, u7, .pointer (some ⟨br, 0, none⟩), u9, u10, u11, u12, u13, u14, u15, u16, u17, u18, u19, u20, u21, u22, u23, u24, u25, u26, u27, u28, u29, u30, u31, u32, u33, u34, u35, u36, u37, u38, u39, u40, u41, u42, u43, u44, u45, u46, u47, u48, u49, u50, u51, u52, u53, u54, u55, u56, u57, u58, u59, u60, u61, u62, u63, u64, u65, u66, u67, u68, u69, u70, u71, u72, u73, u74, u75], defers := [] }) (fun _ _ => 0) rfl ?_ ?_
  · have xl0 := old_cell (cell_at kl 0)
    have xl1 := old_cell (cell_at kl 1)
    go_wp2_with fail
    clear xl0 xl1
    have hA1 : Below v0.heap.size v0 (v0.alloc (.cells #[.int .u64 0, .slice none 0 0] 27)) := (Below.refl _ v0).alloc (Nat.le_refl _) _
    have ko := new_at v0 (.cells #[.int .u64 0, .slice none 0 0] 27) _ rfl
    have qbo : br < v0.heap.size := (Array.getElem?_eq_some_iff.1 kr).1
    replace kk := keep kk hA1
    replace kl := keep kl hA1
    replace kr := keep kr hA1
    replace hAu := hAu.later hA1
    replace hB0 := hB0.trans (hA1.mono hB0.size)
    generalize v0.alloc (.cells #[.int .u64 0, .slice none 0 0] 27) = v1 at *
    obtain ⟨bo, hbo⟩ : ∃ bo, v0.heap.size = bo := ⟨_, rfl⟩
    rw [hbo] at ko qbo ⊢
    clear hA1 hbo v0
    with_reducible refine (HLast.out _ hAu).mono ?_
    rintro e v2 ⟨rfl, hC⟩
    replace kk := keep kk hC
    replace kl := keep kl hC
    replace kr := keep kr hC
    replace ko := keep ko hC
    replace hAu := hAu.later hC
    replace hB0 := hB0.trans (hC.mono hB0.size)
    clear hC v1
    have hadd := HAdd.out
    have xk0 := fun o o' => old_cell (old_cell (cell_at kk 0) o) o'
    have xk1 := fun o o' => old_cell (old_cell (cell_at kk 1) o) o'
    have xl0 := fun o o' => old_cell (old_cell (cell_at kl 0) o) o'
    have xl1 := fun o o' => old_cell (old_cell (cell_at kl 1) o) o'
    go_wp2_with fail
    clear xk0 xk1 xl0 xl1 hadd
    have hA1 : Below v2.heap.size v2 ((v2.alloc (.cells #[.int .u64 (U z.s), .int .u64 (U z.t), .string z.x, .int .u64 (U z.m)] 41)).alloc (.cells #[.int .u64 (U n1), .int .u64 (U t), .string x, .int .u64 0] 41)) := ((Below.refl _ v2).alloc (Nat.le_refl _) _).alloc (by simp) _
    have kw := old_at (o := .cells #[.int .u64 (U n1), .int .u64 (U t), .string x, .int .u64 0] 41) (new_at v2 (.cells #[.int .u64 (U z.s), .int .u64 (U z.t), .string z.x, .int .u64 (U z.m)] 41) _ rfl)
    have kx := new_at (v2.alloc (.cells #[.int .u64 (U z.s), .int .u64 (U z.t), .string z.x, .int .u64 (U z.m)] 41)) (.cells #[.int .u64 (U n1), .int .u64 (U t), .string x, .int .u64 0] 41) (v2.heap.size + 1) (by simp)
    have qbw : bo < v2.heap.size := (Array.getElem?_eq_some_iff.1 ko).1
    replace kk := keep kk hA1
    replace kl := keep kl hA1
    replace kr := keep kr hA1
    replace ko := keep ko hA1
    replace hAu := hAu.later hA1
    replace hB0 := hB0.trans (hA1.mono hB0.size)
    generalize (v2.alloc (.cells #[.int .u64 (U z.s), .int .u64 (U z.t), .string z.x, .int .u64 (U z.m)] 41)).alloc (.cells #[.int .u64 (U n1), .int .u64 (U t), .string x, .int .u64 0] 41) = v3 at *
    obtain ⟨bx, hbx⟩ : ∃ bx, v2.heap.size + 1 = bx := ⟨_, rfl⟩
    rw [hbx] at kx ⊢
    obtain ⟨bw, hbw⟩ : ∃ bw, v2.heap.size = bw := ⟨_, rfl⟩
    have qbx : bw < bx := by omega
    rw [hbw] at kw qbw ⊢
    clear hA1 hbx hbw v2
    with_reducible refine (HRight.out _ hAu).mono ?_
    rintro e v4 ⟨rfl, hC⟩
    replace kk := keep kk hC
    replace kl := keep kl hC
    replace kr := keep kr hC
    replace ko := keep ko hC
    replace kw := keep kw hC
    replace kx := keep kx hC
    replace hAu := hAu.later hC
    replace hB0 := hB0.trans (hC.mono hB0.size)
    clear hC v3
    cases R with
    | false =>
      have HNo := Lib.hid (show appOk a b p l t x = false by rw [HOk.out]; rfl)
      go_wp2_with fail
      go_step3
      exact ⟨rfl, hB0, Lib.hid kr, HNo, _, _, _, _, _, _, _, _, _, _, _, _, _, _, _, _, _, _, _, _, _, _, _, _, _, _, _, _, _, _, _, _, _, _, _, _, _, _, _, _, _, _, _, _, _, _, _, _, _, _, _, _, _, _, _, _, _, _, _, _, _, _, _, _, _, _, _, _, _, _, _, _, _, _, _, rfl⟩
    | true =>
      by_cases hsz : x.size ≤ 200
      · have hg : decide ((200 : Int) < (x.size : Int)) = false := decide_eq_false (by omega)
        have xw0 := cell_at kw 0
        have xw1 := cell_at kw 1
        have xw2 := cell_at kw 2
        have xw3 := cell_at kw 3
        have xx0 := cell_at kx 0
        have xx1 := cell_at kx 1
        have xx2 := cell_at kx 2
        have xx3 := cell_at kx 3
        go_wp2_with fail
        clear xw0 xw1 xw2 xw3 xx0 xx1 xx2 xx3
        with_reducible refine (HSt.out _).mono ?_
        rintro e v5 ⟨rfl, hC⟩
        replace kk := keep kk hC
        replace kl := keep kl hC
        replace kr := keep kr hC
        replace ko := keep ko hC
        replace kw := keep kw hC
        replace kx := keep kx hC
        replace hAu := hAu.later hC
        replace hB0 := hB0.trans (hC.mono hB0.size)
        clear hC v4
        cases St with
        | false =>
          have HNo := Lib.hid (show appOk a b p l t x = false by rw [HOk.out, decide_eq_true hsz]; rfl)
          go_wp2_with fail
          go_step3
          exact ⟨rfl, hB0, Lib.hid kr, HNo, _, _, _, _, _, _, _, _, _, _, _, _, _, _, _, _, _, _, _, _, _, _, _, _, _, _, _, _, _, _, _, _, _, _, _, _, _, _, _, _, _, _, _, _, _, _, _, _, _, _, _, _, _, _, _, _, _, _, _, _, _, _, _, _, _, _, _, _, _, _, _, _, _, _, _, rfl⟩
        | true =>
          have HYs := Lib.hid (HYes.out (show appOk a b p l t x = true by rw [HOk.out, decide_eq_true hsz]; rfl))
          have xk0 := cell_at kk 0
          have xk1 := cell_at kk 1
          have xw3 := cell_at kw 3
          have xx0 := cell_at kx 0
          have xx1 := cell_at kx 1
          have xx2 := cell_at kx 2
          have xx3 := cell_at kx 3
          go_wp2_with fail
          clear xk0 xk1 xw3 xx0 xx1 xx2 xx3
          with_reducible refine (HSum.out _).mono ?_
          rintro e v6 ⟨rfl, hC⟩
          replace kk := keep kk hC
          replace kl := keep kl hC
          replace kr := keep kr hC
          replace ko := keep ko hC
          replace kw := keep kw hC
          replace kx := keep kx hC
          replace hAu := hAu.later hC
          replace hB0 := hB0.trans (hC.mono hB0.size)
          clear hC v5
          have xx3 := cell_at kx 3
          have fx3 := free_at kx 3
          have hP : Put v6 (v6.setCell ⟨bx, 3, none⟩ (.int .u64 (U Sm))) bx (.cells #[.int .u64 (U n1), .int .u64 (U t), .string x, .int .u64 (U Sm)] 41) := (Put.refl kx).set 3 _
          have HP := Lib.hid hP
          clear hP
          go_wp2_with fail
          have hP := HP.out
          have hsx := (Array.getElem?_eq_some_iff.1 kx).1
          replace hB0 := hB0.trans (hP.below (by omega))
          replace kk := (hP.other (by omega)).trans kk
          replace kl := (hP.other (by omega)).trans kl
          replace kr := (hP.other (by omega)).trans kr
          replace ko := (hP.other (by omega)).trans ko
          replace kx := hP.get hsx
          generalize v6.setCell ⟨bx, 3, none⟩ (.int .u64 (U Sm)) = v7 at *
          have hA7 := hA.below hB0
          have l0 : ∀ s : Later v7.heap.size v7, s.W.cell? ⟨bl, 0, none⟩ = some _ := fun s => s.cell (cell_at kl 0) (Array.getElem?_eq_some_iff.1 kl).1
          have l1 : ∀ s : Later v7.heap.size v7, s.W.cell? ⟨bl, 1, none⟩ = some _ := fun s => s.cell (cell_at kl 1) (Array.getElem?_eq_some_iff.1 kl).1
          have m0 : ∀ s : Later v7.heap.size v7, s.W.cell? ⟨bx, 0, none⟩ = some _ := fun s => s.cell (cell_at kx 0) (Array.getElem?_eq_some_iff.1 kx).1
          have m1 : ∀ s : Later v7.heap.size v7, s.W.cell? ⟨bx, 1, none⟩ = some _ := fun s => s.cell (cell_at kx 1) (Array.getElem?_eq_some_iff.1 kx).1
          have m2 : ∀ s : Later v7.heap.size v7, s.W.cell? ⟨bx, 2, none⟩ = some _ := fun s => s.cell (cell_at kx 2) (Array.getElem?_eq_some_iff.1 kx).1
          have m3 : ∀ s : Later v7.heap.size v7, s.W.cell? ⟨bx, 3, none⟩ = some _ := fun s => s.cell (cell_at kx 3) (Array.getElem?_eq_some_iff.1 kx).1
          clear hP HP hAu xx3 fx3 kw hsx v6
          refine region_mix_plain (C := fun W' => ∃ s : Later v7.heap.size v7, W' = s.W) 15 [false, false, false, false, false, false, false, false, false, false, false, false, true, true, false] (by kernel_rfl) (by kernel_rfl) (by kernel_rfl) (by kernel_rfl) ⟨⟨v7.drew, (Below.refl _ v7).drew⟩, rfl⟩ ?_
          simp only [List.take_succ_cons, List.take_zero, List.drop_succ_cons, List.drop_zero]
          iterate 12 (refine wpM_calm (fun K hK => ?_); go_simp; refine hK _ ?_; clear hK K)
          clear l0 l1 m0 m1 m2 m3
          refine wpM_eff rfl (fun K hK => ?_)
          go_simp
          have hBa : Below v7.heap.size v7 (v7.alloc (.cells #[.int .u64 (U n1), .int .u64 (U t), .string x, .int .u64 (U Sm)] 41)).drew := ((Below.refl _ v7).alloc (Nat.le_refl _) _).drew
          have knew : (v7.alloc (.cells #[.int .u64 (U n1), .int .u64 (U t), .string x, .int .u64 (U Sm)] 41)).drew.heap[v7.heap.size]? = some (.cells #[.int .u64 (U n1), .int .u64 (U t), .string x, .int .u64 (U Sm)] 41 (0, 0)) := new_at v7 _ _ rfl
          refine hK _ _ ⟨⟨_, hBa⟩, rfl⟩ ?_
          clear hK K
          have hAa := (hA7.below (hBa.mono hB0.size))
          generalize (v7.alloc (.cells #[.int .u64 (U n1), .int .u64 (U t), .string x, .int .u64 (U Sm)] 41)).drew = Wa at *
          have hfour : FourE Wa v7.heap.size 0 ⟨n1, t, x, Sm⟩ := ⟨cell_at knew 0, cell_at knew 1, cell_at knew 2, cell_at knew 3⟩
          obtain ⟨vA, W1, happ, hown1, hB1⟩ := append_copy Wa A w.heap.size l N HN.out hN2 hAa (fun h => by subst h; rw [← HN.out]; exact hAa.none_len) ⟨n1, t, x, Sm⟩ v7.heap.size hfour
          refine wpM_eff rfl (fun K hK => ?_)
          refine effOpE_append_run (.tmp 52) (.tmp 54) _ rfl rfl rfl happ ?_
          have hll : (l ++ [(⟨n1, t, x, Sm⟩ : Ent)]).length = N + 1 := by rw [List.length_append, HN.out]; rfl
          obtain ⟨A5, c5, hv, hlc, hlie⟩ := hown1.lie
          rw [hll] at hv hlc
          subst hv
          have HLl := Lib.hid hll
          clear hll
          have hBa1 : Below v7.heap.size v7 W1 := hBa.trans (hB1.mono hBa.size)
          refine hK _ _ ⟨⟨_, hBa1⟩, rfl⟩ ?_
          clear hK K happ
          refine wpM_calm (fun K hK => ?_); go_simp; refine hK _ ?_; clear hK K
          refine wpM_nil ?_
          have ko1 := keep ko hBa1
          have kr1 := keep kr hBa1
          have hB1w := hB0.trans (hBa1.mono hB0.size)
          have HLie := Lib.hid (hlie.mono hBa.size)
          have ls0 := hBa1.size
          have lb := (Array.getElem?_eq_some_iff.1 ko).1
          clear kk kl kx ko kr hB0 hBa hBa1 hB1 knew hfour hAa hA7 hown1 hlie
          clear Wa
          have xo0 := cell_at ko1 0
          have xo1 := cell_at ko1 1
          have fo0 := free_at ko1 0
          have fo1 := free_at ko1 1
          have hP : Put W1 ((W1.setCell ⟨bo, 0, none⟩ (.int .u64 (U p))).setCell ⟨bo, 1, none⟩ (.slice A5 (N + 1) c5)) bo (.cells #[.int .u64 (U p), .slice A5 (N + 1) c5] 27 (0, 0)) := ((Put.refl ko1).set 0 _).set 1 _
          have HP := Lib.hid hP
          clear hP
          gi_wp2
          have hP := HP.out
          have ko2 := hP.get (Array.getElem?_eq_some_iff.1 ko1).1
          have kr2 := (hP.other (k := br) (by omega)).trans kr1
          have hB2w := hB1w.trans (hP.below (by omega))
          obtain ⟨g, o, cs, hA5, hg5, hh5, hc5⟩ := HLie.out (by rw [HLl.out]; omega)
          subst hA5
          have hh52 := (hP.other (k := g) (by omega)).trans hh5
          have hc52 : ∀ j, j < (l ++ [(⟨n1, t, x, Sm⟩ : Ent)]).length → FourE ((W1.setCell ⟨bo, 0, none⟩ (.int .u64 (U p))).setCell ⟨bo, 1, none⟩ (.slice (some ⟨g, o, none⟩) (N + 1) c5)) g (o + j * 4) (nthE (l ++ [(⟨n1, t, x, Sm⟩ : Ent)]) j) := fun j hj => by
            exact (hc5 j hj).put hP (by omega)
          have lb2 : bo < v7.heap.size := lb
          clear hP HP hc5 hh5 xo0 xo1 fo0 fo1 ko1 kr1 hB1w HLie ls0
          generalize ((W1.setCell ⟨bo, 0, none⟩ (.int .u64 (U p))).setCell ⟨bo, 1, none⟩ (.slice (some ⟨g, o, none⟩) (N + 1) c5)) = v8 at *
          clear W1
          have hz0 := cell_at ko2 0
          have hz1 := cell_at ko2 1
          have hr0 := cell_at kr2 0
          have hr1 := cell_at kr2 1
          have fr0 := free_at kr2 0
          have fr1 := free_at kr2 1
          have HFin : Hid (∀ j, j < N + 1 → FourE v8 g (o + j * 4) (nthE (l ++ [(⟨n1, t, x, Sm⟩ : Ent)]) j)) := Lib.hid (fun j hj => hc52 j (by rw [HLl.out]; exact hj))
          clear hc52
          by_cases h30 : N < 30
          · have hg30 : decide ((30 : Int) < (N : Int) + 1) = false := decide_eq_false (by omega)
            have hP : Put v8 ((v8.setCell ⟨br, 0, none⟩ (.int .u64 (U p))).setCell ⟨br, 1, none⟩ (.slice (some ⟨g, o, none⟩) (N + 1) c5)) br (.cells #[.int .u64 (U p), .slice (some ⟨g, o, none⟩) (N + 1) c5] 27 (0, 0)) := ((Put.refl kr2).set 0 _).set 1 _
            have HP := Lib.hid hP
            clear hP
            go_wp2_with fail
            have hP := HP.out
            have kr3 := hP.get (Array.getElem?_eq_some_iff.1 kr2).1
            have d0 := cell_at kr3 0
            have d1 := cell_at kr3 1
            refine (show bodyPost _ _ _ Exit.ret _ _ from ?_)
            refine bodyPost_ret (v := .tuple #[.agg #[.int .u64 (U p), .slice (some ⟨g, o, none⟩) (N + 1) c5], .int .i64 0]) ?_ rfl ?_
            · simp [results, Try.results12, go_sem, d0, d1]
            · rw [HYs.out.1, HYs.out.2.1, HNew.out, putE_few _ _ _ (by rw [HN.out]; exact h30)]
              refine ⟨hB2w.trans (hP.below qbr), some ⟨g, o, none⟩, c5, by show _ = Ending.returned (.tuple #[.agg #[.int .u64 (U p), .slice _ (l ++ [(⟨n1, t, x, Sm⟩ : Ent)]).length c5], _]); rw [HLl.out], by show (l ++ [(⟨n1, t, x, Sm⟩ : Ent)]).length ≤ c5; rw [HLl.out]; exact hlc, fun _ => ⟨g, o, cs, rfl, by omega, (hP.other (by omega)).trans hh52, fun j hj => (HFin.out j (by rw [HLl.out] at hj; exact hj)).put hP (by omega)⟩⟩
          · have h30e : N = 30 := by have := HYs.out.2.2; omega
            have hg30 : decide ((30 : Int) < (N : Int) + 1) = true := decide_eq_true (by omega)
            obtain ⟨q0, q1, q2, q3⟩ := HFin.out 0 (by omega)
            rw [Nat.zero_mul, Nat.add_zero] at q0 q1 q2 q3
            have fo0 := free_at ko2 0
            have fo1 := free_at ko2 1
            go_wp2_with fail
            have l1 : ∀ s : Slot v8 bo, s.W.cell? ⟨bo, 1, none⟩ = some _ := fun s => s.one.trans (cell_at ko2 1)
            have l3 : ∀ s : Slot v8 bo, s.W.cell? ⟨g, o + 3, none⟩ = some _ := fun s => (World.cell?_of_block (a := ⟨g, o + 3, none⟩) (s.others g (by omega))).trans q3
            have hcap : ¬ (c5 = 1) := by omega
            have hcap1 : (1 : Int) ≤ (N : Int) + 1 := by omega
            have hcapN : (N : Int) + 1 ≤ (c5 : Int) := by omega
            refine region_mix_last_plain (C := fun W' => ∃ s : Slot v8 bo, W' = s.W) [3, 0, 3, 3, 0, 3, 0, 3, 3, 1, 3, 2] (by kernel_rfl) (by kernel_rfl) (by kernel_rfl) (by kernel_rfl) (by kernel_rfl) ⟨⟨v8.drew, fun _ _ => rfl, rfl⟩, rfl⟩ ?_
            refine wpL_plain (fun K hK => ?_); go_simp; refine hK _ ?_; clear hK K
            refine wpL_calm (fun K hK => ?_); go_simp; refine hK _ ?_; clear hK K
            refine wpL_plain (fun K hK => ?_); go_simp; refine hK _ ?_; clear hK K
            refine wpL_plain (fun K hK => ?_); go_simp; refine hK _ ?_; clear hK K
            refine wpL_calm (fun K hK => ?_); go_simp; refine hK _ ?_; clear hK K
            refine wpL_plain (fun K hK => ?_); go_simp; refine hK _ ?_; clear hK K
            refine wpL_calm (fun K hK => ?_); go_simp; refine hK _ ?_; clear hK K
            refine wpL_plain (fun K hK => ?_); go_simp; refine hK _ ?_; clear hK K
            refine wpL_plain (fun K hK => ?_); go_simp; refine hK _ ?_; clear hK K
            have xd0 : v8.drew.cell? ⟨bo, 0, none⟩ = some _ := cell_at (w := v8.drew) ko2 0
            have fd0 : v8.drew.frozen? ⟨bo, 0, none⟩ = false := free_at (w := v8.drew) ko2 0
            refine wpL_eff rfl (fun K hK => ?_)
            go_simp
            have hP1 : Put v8 (v8.setCell ⟨bo, 0, none⟩ (.int .u64 (U (nthE (l ++ [(⟨n1, t, x, Sm⟩ : Ent)]) 0).m))).drew bo (.cells #[.int .u64 (U (nthE (l ++ [(⟨n1, t, x, Sm⟩ : Ent)]) 0).m), .slice (some ⟨g, o, none⟩) (N + 1) c5] 27 (0, 0)) := ((Put.refl ko2).set 0 _).drew
            have ko3 := hP1.get (Array.getElem?_eq_some_iff.1 ko2).1
            refine hK _ _ ⟨⟨_, fun k hk => hP1.other hk, (cell_at ko3 1).trans (cell_at ko2 1).symm⟩, rfl⟩ ?_
            clear hK K l1 l3 xd0 fd0 hz0 hz1 fo0 fo1
            generalize (v8.setCell ⟨bo, 0, none⟩ (.int .u64 (U (nthE (l ++ [(⟨n1, t, x, Sm⟩ : Ent)]) 0).m))).drew = v9 at *
            refine wpL_plain (fun K hK => ?_); go_simp; refine hK _ ?_; clear hK K
            have xd1 := cell_at ko3 1
            have fd1 := free_at ko3 1
            refine wpL_last rfl (fun K hK => ?_)
            go_simp
            refine hK _ _ ?_
            clear hK K xd1 fd1
            refine wpL_nil ?_
            have hP2 : Put v9 (v9.setCell ⟨bo, 1, none⟩ (.slice (some ⟨g, o + 4, none⟩) 30 (c5 - 1))) bo (.cells #[.int .u64 (U (nthE (l ++ [(⟨n1, t, x, Sm⟩ : Ent)]) 0).m), .slice (some ⟨g, o + 4, none⟩) 30 (c5 - 1)] 27 (0, 0)) := (Put.refl ko3).set 1 _
            have hP3 := hP1.trans hP2
            have ko4 := hP3.get (Array.getElem?_eq_some_iff.1 ko2).1
            have kr4 := (hP3.other (k := br) (by omega)).trans kr2
            have hB4w := hB2w.trans (hP3.below (by omega))
            have hh54 := (hP3.other (k := g) (by omega)).trans hh52
            have HFin4 := Lib.hid (fun j hj => (HFin.out j hj).put hP3 (by omega))
            clear hP1 hP2 hP3 ko3 hr0 hr1 fr0 fr1
            generalize v9.setCell ⟨bo, 1, none⟩ (.slice (some ⟨g, o + 4, none⟩) 30 (c5 - 1)) = v10 at *
            have hz0 := cell_at ko4 0
            have hz1 := cell_at ko4 1
            have hr0 := cell_at kr4 0
            have hr1 := cell_at kr4 1
            have fr0 := free_at kr4 0
            have fr1 := free_at kr4 1
            have hF0 : Hid (nthE (l ++ [(⟨n1, t, x, Sm⟩ : Ent)]) 0 = nthE l 0) := Lib.hid (nthE_left _ _ _ (by rw [HN.out]; omega))
            obtain ⟨f0, hf0⟩ : ∃ f0, (nthE (l ++ [(⟨n1, t, x, Sm⟩ : Ent)]) 0).m = f0 := ⟨_, rfl⟩
            rw [hf0] at hz0 ⊢
            have HF0 := Lib.hid hf0
            have HN30 := Lib.hid h30e
            have hP : Put v10 ((v10.setCell ⟨br, 0, none⟩ (.int .u64 (U f0))).setCell ⟨br, 1, none⟩ (.slice (some ⟨g, o + 4, none⟩) 30 (c5 - 1))) br (.cells #[.int .u64 (U f0), .slice (some ⟨g, o + 4, none⟩) 30 (c5 - 1)] 27 (0, 0)) := ((Put.refl kr4).set 0 _).set 1 _
            have HP := Lib.hid hP
            clear hP hf0 q0 q1 q2 q3 h30e
            go_wp2_with fail
            have hP := HP.out
            have kr5 := hP.get (Array.getElem?_eq_some_iff.1 kr4).1
            have d0 := cell_at kr5 0
            have d1 := cell_at kr5 1
            refine (show bodyPost _ _ _ Exit.ret _ _ from ?_)
            refine bodyPost_ret (v := .tuple #[.agg #[.int .u64 (U f0), .slice (some ⟨g, o + 4, none⟩) 30 (c5 - 1)], .int .i64 0]) ?_ rfl ?_
            · simp [results, Try.results12, go_sem, d0, d1]
            · have hl30 : (l.drop 1 ++ [(⟨n1, t, x, Sm⟩ : Ent)]).length = 30 := by
                rw [List.length_append, List.length_drop, HN.out, HN30.out]; rfl
              rw [HYs.out.1, HYs.out.2.1, HNew.out, putE_full _ _ _ (by rw [HN.out]; exact HN30.out)]
              refine ⟨hB4w.trans (hP.below qbr), some ⟨g, o + 4, none⟩, c5 - 1, ?_, ?_, fun _ => ⟨g, o + 4, cs, rfl, by omega, (hP.other (by omega)).trans hh54, fun j hj => ?_⟩⟩
              · show _ = Ending.returned (.tuple #[.agg #[.int .u64 (U (nthE l 0).m), .slice _ (l.drop 1 ++ [(⟨n1, t, x, Sm⟩ : Ent)]).length (c5 - 1)], _])
                rw [hl30, ← HF0.out, hF0.out]
              · show (l.drop 1 ++ [(⟨n1, t, x, Sm⟩ : Ent)]).length ≤ c5 - 1
                rw [hl30]
                have := HN30.out
                omega
              · have hj2 : j < 30 := by rw [← hl30]; exact hj
                have e : nthE (l.drop 1 ++ [(⟨n1, t, x, Sm⟩ : Ent)]) j = nthE (l ++ [(⟨n1, t, x, Sm⟩ : Ent)]) (1 + j) := by
                  rw [← nthE_drop, List.drop_append_of_le_length (by rw [HN.out, HN30.out]; omega)]
                have h9 := (HFin4.out (1 + j) (by rw [HN30.out]; omega)).put hP (by omega)
                rw [show o + 4 + j * 4 = o + (1 + j) * 4 by omega]
                show FourE _ _ _ (nthE (l.drop 1 ++ [(⟨n1, t, x, Sm⟩ : Ent)]) j)
                rw [e]
                exact h9
      · have hg : decide ((200 : Int) < (x.size : Int)) = true := decide_eq_true (by omega)
        have HNo := Lib.hid (show appOk a b p l t x = false by rw [HOk.out, decide_eq_false hsz]; rfl)
        go_wp2_with fail
        go_step3
        exact ⟨rfl, hB0, Lib.hid kr, HNo, _, _, _, _, _, _, _, _, _, _, _, _, _, _, _, _, _, _, _, _, _, _, _, _, _, _, _, _, _, _, _, _, _, _, _, _, _, _, _, _, _, _, _, _, _, _, _, _, _, _, _, _, _, _, _, _, _, _, _, _, _, _, _, _, _, _, _, _, _, _, _, _, _, _, _, rfl⟩
  · rintro a1 w1 ⟨hB, hr, hno, u0, u1, u2, u3, u4, u5, u6, u7, u9, u10, u11, u12, u13, u14, u15, u16, u17, u18, u19, u20, u21, u22, u23, u24, u25, u26, u27, u28, u29, u30, u31, u32, u33, u34, u35, u36, u37, u38, u39, u40, u41, u42, u43, u44, u45, u46, u47, u48, u49, u50, u51, u52, u53, u54, u55, u56, u57, u58, u59, u60, u61, u62, u63, u64, u65, u66, u67, u68, u69, u70, u71, u72, u73, u74, u75, rfl⟩
    have hE := HAll.out hno.out
    have HE := Lib.hid hE
    go_wp2_with fail
    with_reducible refine (told_wrong _).mono ?_
    rintro e w2 ⟨rfl, hC⟩
    have kr2 := keep hr.out hC
    have d0 := cell_at kr2 0
    have d1 := cell_at kr2 1
    have f0 := free_at kr2 0
    have f1 := free_at kr2 1
    have hP : Put w2 ((w2.setCell ⟨br, 0, none⟩ (.int .u64 0)).setCell ⟨br, 1, none⟩ (.slice none 0 0)) br (.cells #[.int .u64 0, .slice none 0 0] 27 (0, 0)) := ((Put.refl kr2).set 0 _).set 1 _
    have HP := Lib.hid hP
    have HB := Lib.hid (hB.trans (hC.mono hB.size))
    clear hP hC hE hB kk kl kr hB0 hAu
    go_wp2_with fail
    have hP := HP.out
    have kr3 := hP.get (Array.getElem?_eq_some_iff.1 kr2).1
    have d0 := cell_at kr3 0
    have d1 := cell_at kr3 1
    refine (show bodyPost _ _ _ Exit.ret _ _ from ?_)
    refine bodyPost_ret (v := .tuple #[.agg #[.int .u64 0, .slice none 0 0], .int .i64 160]) ?_ rfl ?_
    · simp [results, Try.results12, go_sem, d0, d1]
    · rw [HE.out.1, HE.out.2]
      exact GivesL.none_ _ _ (HB.out.trans (hP.below qbr)) _ rfl
end Go.Proofs.Ytdhbomipffidlaa
