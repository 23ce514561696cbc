/-
  What AUDIT's statements show first. Printed by gen_audl.py.
-/
import Derived.Test.YtdhbomipffidlaaAudQ
namespace Go.Proofs.Ytdhbomipffidlaa
open Go.RowKit Go.Shelf
attribute [local go_sem] Oper.semAt_some calmOp calmUpon effOp effUpon

/-- A log told, whose length is known. -/
def GivesN (p : BitVec 64) (l : LE) (N : Nat) (k : Int) (w : World) (e : Ending) (w' : World) : Prop :=
  Below w.heap.size w w' ∧ ∃ A c, e = .returned (.tuple #[.agg #[.int .u64 (U p), .slice A N c], .int .i64 k]) ∧ N ≤ c ∧ LieE w' w.heap.size A l
theorem GivesL.n {t : Lg} {k k' : Int} {w w' : World} {e : Ending} {p : BitVec 64} {l : LE} {N : Nat} (h : GivesL t k w e w') (ht : t = ⟨p, l⟩) (hk : k = k') (hN : l.length = N) : GivesN p l N k' w e w' := by
  subst ht
  subst hk
  subst hN
  exact h
/-- What is appended, of which the length is known. -/
theorem Append_n {a b p p' : BitVec 64} {l l' : LE} {N M : Nat} {k : Int} {t : BitVec 64} {x : ByteArray} (A : Option Addr) (c : Nat) (ht : appL a b p l t x = ⟨p', l'⟩) (hk : appC a b p l t x = k) (hM : l'.length = M) (hN : l.length = N) (hN2 : N ≤ 65535) (hNc : N ≤ c) (hx : ∀ j, j < N → (nthE l j).x.size ≤ 60000) (hxs : x.size ≤ 60000) (w : World) (hA : AtE w w.heap.size A l) :
    Calls Try.prog 12 #[.agg #[.int .u64 (U a), .int .u64 (U b)], .agg #[.int .u64 (U p), .slice A N c], .int .u64 (U t), .string x] w (GivesN p' l' M k w) :=
  (Append_any a b p A c l N hN hN2 hNc hx t x hxs w hA).mono fun _ _ h => h.n ht hk hM
theorem refAppend_n {a b p p' : BitVec 64} {l l' : LE} {N M : Nat} {k : Int} {t : BitVec 64} {x : ByteArray} (A : Option Addr) (c : Nat) (ht : appL a b p l t x = ⟨p', l'⟩) (hk : appC a b p l t x = k) (hM : l'.length = M) (hN : l.length = N) (hN2 : N ≤ 65535) (hx : ∀ j, j < N → (nthE l j).x.size ≤ 60000) (hxs : x.size ≤ 60000) (w : World) (hA : AtE w w.heap.size A l) :
    Calls Try.prog 14 #[.agg #[.int .u64 (U a), .int .u64 (U b)], .agg #[.int .u64 (U p), .slice A N c], .int .u64 (U t), .string x] w (GivesN p' l' M k w) :=
  (refAppend_any a b p A c l N hN hN2 hx t x hxs w hA).mono fun _ _ h => h.n ht hk hM
theorem good_nil (a b : BitVec 64) : Good a b 0#64 [] := ⟨fun i hi => absurd hi (by simp), fun i hi => absurd hi (by simp), rfl⟩
/-- The two entries that are shown. -/
theorem shown_law (a b : BitVec 64) (x y z : ByteArray) (hx : x.size ≤ 200) (hy : y.size ≤ 200) : ∃ e1 e2 : Ent, e2.s = 2#64 ∧ e1.x = x ∧ e2.x = y ∧ appL a b 0#64 [] 5#64 x = ⟨0#64, [e1]⟩ ∧ appC a b 0#64 [] 5#64 x = 0 ∧ appL a b 0#64 [e1] 5#64 y = ⟨0#64, [e1, e2]⟩ ∧ appC a b 0#64 [e1] 5#64 y = 0 ∧
    appL a b 0#64 [e1, e2] 4#64 z = ⟨0#64, []⟩ ∧ appC a b 0#64 [e1, e2] 4#64 z = 160 ∧ rightE a b 0#64 [e1, e2] = true := by
  have h1 : appOk a b 0#64 [] 5#64 x = true := appOk_mk (by simp) (good_nil a b) hx rfl
  obtain ⟨-, -, -, -, g1⟩ := app_ok h1
  obtain ⟨e1, he1⟩ : ∃ e1, newE a b 0#64 [] 5#64 x = e1 := ⟨_, rfl⟩
  have s1 : e1.s = 1#64 := by rw [← he1]; rfl
  have t1 : e1.t = 5#64 := by rw [← he1]; rfl
  have x1 : e1.x = x := by rw [← he1]; rfl
  have l1 : appL a b 0#64 [] 5#64 x = ⟨0#64, [e1]⟩ := by unfold appL; rw [if_pos h1, he1]; exact putE_few _ _ _ (by simp)
  rw [he1, List.nil_append] at g1
  have hl1 : lastE 0#64 [e1] = e1 := rfl
  have h2 : appOk a b 0#64 [e1] 5#64 y = true := appOk_mk (by simp) g1 hy (by rw [hl1]; unfold stepE; simp only [s1, t1]; decide)
  obtain ⟨-, -, -, -, g2⟩ := app_ok h2
  obtain ⟨e2, he2⟩ : ∃ e2, newE a b 0#64 [e1] 5#64 y = e2 := ⟨_, rfl⟩
  have s2 : e2.s = 2#64 := by rw [← he2]; show (lastE 0#64 [e1]).s + 1#64 = _; rw [hl1, s1]; rfl
  have t2 : e2.t = 5#64 := by rw [← he2]; rfl
  have x2 : e2.x = y := by rw [← he2]; rfl
  have l2 : appL a b 0#64 [e1] 5#64 y = ⟨0#64, [e1, e2]⟩ := by unfold appL; rw [if_pos h2, he2]; exact putE_few _ _ _ (by simp)
  rw [he2] at g2
  have hl2 : lastE 0#64 [e1, e2] = e2 := rfl
  have h3 : ¬ appOk a b 0#64 [e1, e2] 4#64 z = true := by
    intro h
    obtain ⟨-, -, -, h4, -⟩ := app_ok h
    rw [hl2] at h4
    unfold stepE at h4
    simp only [s2, t2] at h4
    exact absurd h4 (by decide)
  obtain ⟨l3, c3⟩ := app_none h3
  exact ⟨e1, e2, s2, x1, x2, l1, appC_ok h1, l2, appC_ok h2, l3, c3, rightE_iff.2 ⟨by simp, g2⟩⟩

set_option maxRecDepth 100000 in
set_option maxHeartbeats 8000000 in
theorem shown_any (w : World) : Calls Try.prog 10 #[] w fun e w' => e = .returned (.bool true) ∧ Below w.heap.size w w' := by
  have u0 : U 0#64 = 0 := by decide +kernel
  have u1 : U 1#64 = 1 := by decide +kernel
  have u2 : U 2#64 = 2 := by decide +kernel
  have u4 : U 4#64 = 4 := by decide +kernel
  have u5 : U 5#64 = 5 := by decide +kernel
  obtain ⟨e1, e2, s2, x1, x2, q1, q2, q3, q4, q5, q6, q7⟩ := shown_law 1#64 2#64 ⟨#[120]⟩ ⟨#[121]⟩ ⟨#[122]⟩ (by decide) (by decide)
  have z1 : e1.x.size ≤ 60000 := by rw [x1]; decide
  have z2 : e2.x.size ≤ 60000 := by rw [x2]; decide
  have hz1 : ∀ j, j < 1 → (nthE [e1] j).x.size ≤ 60000 := fun j hj => by
    obtain rfl : j = 0 := by omega
    exact z1
  have hz2 : ∀ j, j < 2 → (nthE [e1, e2] j).x.size ≤ 60000 := fun j hj => by
    match j, hj with
    | 0, _ => exact z1
    | 1, _ => exact z2
  have H1 := Lib.hid (fun W => by
    have h := Append_n (k := 0) (M := 1) (N := 0) none 0 q1 q2 rfl rfl (by omega) (Nat.le_refl _) (fun j hj => absurd hj (by omega)) (by decide) W AtE.nil
    rw [u0, u1, u2, u5] at h
    exact h)
  have H2 := Lib.hid (fun A c W hc hA => by
    have h := Append_n (k := 0) (M := 2) (N := 1) A c q3 q4 rfl rfl (by omega) hc hz1 (by decide) W hA
    rw [u0, u1, u2, u5] at h
    exact h)
  have H3 := Lib.hid (fun A c W hc hA => by
    have h := Append_n (k := 160) (M := 0) (N := 2) A c q5 q6 rfl rfl (by omega) hc hz2 (by decide) W hA
    rw [u0, u1, u2, u4] at h
    exact h)
  have HR := Lib.hid (fun A c W hA => by
    have h := Right_any 1#64 2#64 0#64 A c [e1, e2] 2 rfl (by omega) hz2 W hA
    rw [u0, u1, u2, q7] at h
    exact h)
  have HH := Lib.hid (fun A c W hA => by
    have h := Head_any 0#64 A c [e1, e2] 2 rfl (by omega) W hA
    rw [u0, show (lastE 0#64 [e1, e2]).m = e2.m from rfl] at h
    exact h)
  have us2 : U e2.s = 2 := by rw [s2]; exact u2
  have HU := Lib.hid us2
  have HU0 := Lib.hid u0
  clear u0 u1 u2 u4 u5 s2 x1 x2 q1 q2 q3 q4 q5 q6 q7 z1 z2 hz1 hz2 us2
  go_enter Try.func10, Try.ntmps10
  have hB : Below w.heap.size w w := Below.refl _ w
  go_wp2_with fail
  have hA : Below w.heap.size w (w.alloc (.cells #[.int .u64 1, .int .u64 2] 24)) := (Below.refl _ w).alloc (Nat.le_refl _) _
  replace hB := hB.trans (hA.mono hB.size)
  have k_k := new_at w (.cells #[.int .u64 1, .int .u64 2] 24) _ rfl
  obtain ⟨b_k, hb⟩ : ∃ b, w.heap.size = b := ⟨_, rfl⟩
  rw [hb] at k_k ⊢
  clear hA hb
  generalize w.alloc (.cells #[.int .u64 1, .int .u64 2] 24) = u1 at *
  refine (H1.out _).mono ?_
  rintro e u2 ⟨hC, A_a, c_a, rfl, n_a, a_a⟩
  rw [HU0.out]
  replace k_k := keep k_k hC
  replace hB := hB.trans (hC.mono hB.size)
  clear hC
  have x_k_0 := old_cell (cell_at k_k 0)
  have x_k_1 := old_cell (cell_at k_k 1)
  go_wp2_with fail
  clear x_k_0 x_k_1
  have hA : Below u2.heap.size u2 (u2.alloc (.cells #[.int .u64 0, .slice A_a 1 c_a] 27)) := (Below.refl _ u2).alloc (Nat.le_refl _) _
  replace k_k := keep k_k hA
  replace a_a := a_a.later hA
  replace hB := hB.trans (hA.mono hB.size)
  have k_a := new_at u2 (.cells #[.int .u64 0, .slice A_a 1 c_a] 27) _ rfl
  obtain ⟨b_a, hb⟩ : ∃ b, u2.heap.size = b := ⟨_, rfl⟩
  rw [hb] at k_a ⊢
  clear hA hb
  generalize u2.alloc (.cells #[.int .u64 0, .slice A_a 1 c_a] 27) = u3 at *
  clear u2
  refine (H2.out _ _ _ n_a a_a.at_).mono ?_
  rintro e u4 ⟨hC, A_b, c_b, rfl, n_b, a_b⟩
  obtain ⟨g_b, o_b, -, rfl, -, -, -⟩ := a_b (by simp)
  rw [HU0.out]
  replace k_k := keep k_k hC
  replace a_a := a_a.later hC
  replace k_a := keep k_a hC
  replace hB := hB.trans (hC.mono hB.size)
  clear hC
  have x_k_0 := old_cell (cell_at k_k 0)
  have x_k_1 := old_cell (cell_at k_k 1)
  go_wp2_with fail
  clear x_k_0 x_k_1
  have hA : Below u4.heap.size u4 (u4.alloc (.cells #[.int .u64 0, .slice (some ⟨g_b, o_b, none⟩) 2 c_b] 27)) := (Below.refl _ u4).alloc (Nat.le_refl _) _
  replace k_k := keep k_k hA
  replace a_a := a_a.later hA
  replace k_a := keep k_a hA
  replace a_b := a_b.later hA
  replace hB := hB.trans (hA.mono hB.size)
  have k_b := new_at u4 (.cells #[.int .u64 0, .slice (some ⟨g_b, o_b, none⟩) 2 c_b] 27) _ rfl
  obtain ⟨b_b, hb⟩ : ∃ b, u4.heap.size = b := ⟨_, rfl⟩
  rw [hb] at k_b ⊢
  clear hA hb
  generalize u4.alloc (.cells #[.int .u64 0, .slice (some ⟨g_b, o_b, none⟩) 2 c_b] 27) = u5 at *
  clear u4
  refine (H3.out _ _ _ n_b a_b.at_).mono ?_
  rintro e u6 ⟨hC, A_d, c_d, rfl, -, -⟩
  rw [HU0.out]
  replace k_k := keep k_k hC
  replace a_a := a_a.later hC
  replace k_a := keep k_a hC
  replace a_b := a_b.later hC
  replace k_b := keep k_b hC
  replace hB := hB.trans (hC.mono hB.size)
  clear hC
  go_wp2_with fail
  have hA : Below u6.heap.size u6 (u6.alloc (.cells #[.int .u64 0, .slice A_d 0 c_d] 27)) := (Below.refl _ u6).alloc (Nat.le_refl _) _
  replace k_k := keep k_k hA
  replace a_a := a_a.later hA
  replace k_a := keep k_a hA
  replace a_b := a_b.later hA
  replace k_b := keep k_b hA
  replace hB := hB.trans (hA.mono hB.size)
  have k_d := new_at u6 (.cells #[.int .u64 0, .slice A_d 0 c_d] 27) _ rfl
  obtain ⟨b_d, hb⟩ : ∃ b, u6.heap.size = b := ⟨_, rfl⟩
  rw [hb] at k_d ⊢
  clear hA hb
  generalize u6.alloc (.cells #[.int .u64 0, .slice A_d 0 c_d] 27) = u7 at *
  clear u6
  obtain ⟨b2, o2, cs9, e9, -, hh9, hf9⟩ := a_b (by simp)
  injection e9 with e9
  injection e9 with e8 e7 e6
  subst e8
  subst e7
  have hf := hf9 1 (by simp)
  rw [Nat.one_mul] at hf
  obtain ⟨y0, -, -, y3⟩ := hf
  rw [show (nthE [e1, e2] 1) = e2 from rfl] at y0 y3
  rw [HU.out] at y0
  have lt9 := (Array.getElem?_eq_some_iff.1 hh9).1
  have HAb := Lib.hid (fun s : Later u7.heap.size u7 => (a_b.later s.below).at_)
  have l_e0 : ∀ s : Later u7.heap.size u7, s.W.cell? ⟨g_b, o_b + 4, none⟩ = some _ := fun s => s.cell y0 lt9
  have l_e3 : ∀ s : Later u7.heap.size u7, s.W.cell? ⟨g_b, o_b + 4 + 3, none⟩ = some _ := fun s => s.cell y3 lt9
  clear hf9 y0 y3 e6
  refine wp_region_later u7.heap.size (by kernel_rfl) (by kernel_rfl) ?_
  have l_k_0 : ∀ s : Later u7.heap.size u7, s.W.cell? ⟨b_k, 0, none⟩ = some _ := fun s => s.cell (cell_at k_k 0) (Array.getElem?_eq_some_iff.1 k_k).1
  have l_k_1 : ∀ s : Later u7.heap.size u7, s.W.cell? ⟨b_k, 1, none⟩ = some _ := fun s => s.cell (cell_at k_k 1) (Array.getElem?_eq_some_iff.1 k_k).1
  have l_b_0 : ∀ s : Later u7.heap.size u7, s.W.cell? ⟨b_b, 0, none⟩ = some _ := fun s => s.cell (cell_at k_b 0) (Array.getElem?_eq_some_iff.1 k_b).1
  have l_b_1 : ∀ s : Later u7.heap.size u7, s.W.cell? ⟨b_b, 1, none⟩ = some _ := fun s => s.cell (cell_at k_b 1) (Array.getElem?_eq_some_iff.1 k_b).1
  repeat (go_big_quiet_step (first | (go_at_call 15; with_reducible exact Calls.later (Nat.le_refl _) (HR.out _ _ _ (HAb.out _))) | (go_at_call 22; with_reducible exact Calls.later (Nat.le_refl _) (HH.out _ _ _ (HAb.out _)))))
  refine wpQuiet_nil ?_
  rintro _ ⟨s, rfl⟩
  clear l_k_0 l_k_1 l_b_0 l_b_1
  have hC := s.below
  replace k_k := keep k_k hC
  replace a_a := a_a.later hC
  replace k_a := keep k_a hC
  replace a_b := a_b.later hC
  replace k_b := keep k_b hC
  replace k_d := keep k_d hC
  replace hB := hB.trans (hC.mono hB.size)
  clear hC
  go_wp2_with fail
  go_ret
  exact ⟨rfl, hB⟩
end Go.Proofs.Ytdhbomipffidlaa
