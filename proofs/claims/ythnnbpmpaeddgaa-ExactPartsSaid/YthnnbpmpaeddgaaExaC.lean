/-
  The sketch of numbers: the program's.
-/
import Derived.Test.YthnnbpmpaeddgaaExaB
import Derived.RegionTactic
namespace Go.Proofs.Ythnnbpmpaeddgaa
open Go.RowKit Go.Shelf
attribute [local go_sem] Oper.semAt_some calmOp calmUpon effOp effUpon

/-- A sketch as the statements see it: numbers, and what is told. -/
structure Xt where
  l : L64
  e : Int
def capX (l : L64) : Xt := if l.length ≤ 64 then ⟨l, 0⟩ else ⟨[], 60⟩
/-- Two results: the sketch, whose list is the call's own, and what is told. -/
def GivesX (t : Xt) (w : World) (e : Ending) (w' : World) : Prop :=
  Below w.heap.size w w' ∧ ∃ A c, e = .returned (.tuple #[.agg #[.slice A t.l.length c], .int .i64 t.e]) ∧ OwnL w' w.heap.size (.slice A t.l.length c) t.l

set_option maxRecDepth 100000 in
set_option maxHeartbeats 1000000 in
theorem of_any (A : Option Addr) (c : Nat) (L : L64) (n : Nat) (hn : L.length = n) (hn2 : n ≤ 60000) (w : World) (hA : At w w.heap.size A L) :
    Calls Try.prog 29 #[.slice A n c] w fun e w' => Below w.heap.size w w' ∧
      ((64 < (ofX L).length ∧ e = .returned (.tuple #[.agg #[.slice none 0 0], .iface 48 (.agg #[])])) ∨
       ((ofX L).length ≤ 64 ∧ ∃ A' c', e = .returned (.tuple #[.agg #[.slice A' (ofX L).length c'], .nilIface]) ∧ OwnL w' w.heap.size (.slice A' (ofX L).length c') (ofX L))) := by
  obtain ⟨N, hN⟩ : ∃ N, (ofX L).length = N := ⟨_, rfl⟩
  have hNle : N ≤ n := by rw [← hN, ← hn]; exact length_ofX_le L
  rw [hN]
  have HN := Lib.hid hN
  have HLn := Lib.hid hn
  clear hN hn
  go_enter Try.func29, Try.ntmps29
  go_wp2_with fail
  have hA0 : Below w.heap.size w (w.alloc (.cells #[.slice none 0 0] 24)) := (Below.refl _ w).alloc (Nat.le_refl _) _
  refine (put_any A c L n HLn.out hn2 _ (hA.later hA0)).mono ?_
  rintro e w1 ⟨hB1, v, rfl, hown⟩
  obtain ⟨A', c', hv, -, -⟩ := hown.at_
  rw [HN.out] at hv
  subst hv
  have kr := keep (new_at w _ _ rfl) hB1
  have hB := hA0.trans (hB1.mono hA0.size)
  have hs1 : w.heap.size + 1 ≤ w1.heap.size := by have := hB1.size; simp at this; omega
  have d0 := cell_at kr 0
  have f0 := free_at kr 0
  have HOwn := Lib.hid hown
  clear hown hB1 hA0
  by_cases h64 : 64 < N
  · go_wp2_with fail
    refine bodyPost_ret (v := .tuple #[.agg #[.slice none 0 0], .iface 48 (.agg #[])]) ?_ rfl ⟨?_, .inl ⟨h64, rfl⟩⟩
    · simp [results, Try.results29, go_sem, d0]
    · exact hB.setCell (by simp) _
  · go_wp2_with fail
    refine bodyPost_ret (v := .tuple #[.agg #[.slice A' N c'], .nilIface]) ?_ rfl ⟨?_, .inr ⟨by omega, A', c', rfl, ?_⟩⟩
    · simp [results, Try.results29, go_sem, d0]
    · exact hB.setCell (by simp) _
    · have ho := HOwn.out
      rw [show (w.alloc (.cells #[.slice none 0 0] 24)).heap.size = w.heap.size + 1 by simp] at ho
      have h2 : OwnL (w1.setCell ⟨w.heap.size, 0, none⟩ (.slice A' N c')) (w.heap.size + 1) (.slice A' N c') (ofX L) := ho.of (fun k hk _ => Below.heap_setCell w1 ⟨w.heap.size, 0, none⟩ _ k (by show k ≠ w.heap.size; omega))
      exact OwnL.mono (Nat.le_succ _) h2

set_option maxRecDepth 100000 in
set_option maxHeartbeats 2000000 in
theorem Of_gives (A : Option Addr) (c : Nat) (L : L64) (n : Nat) (hn : L.length = n) (hn2 : n ≤ 60000) (w : World) (hA : At w w.heap.size A L) :
    Calls Try.prog 17 #[.slice A n c] w (GivesX (capX (ofX L)) w) := by
  obtain ⟨N, hN⟩ : ∃ N, (capX (ofX L)).l.length = N := ⟨_, rfl⟩
  obtain ⟨k, hk⟩ : ∃ k, (capX (ofX L)).e = k := ⟨_, rfl⟩
  unfold GivesX
  rw [hN, hk]
  have HN := Lib.hid hN
  have HK := Lib.hid hk
  clear hN hk
  go_enter Try.func17, Try.ntmps17
  go_wp2_with fail
  have hA0 : Below w.heap.size w (w.alloc (.cells #[.slice none 0 0] 24)) := (Below.refl _ w).alloc (Nat.le_refl _) _
  refine (of_any A c L n hn hn2 _ (hA.later hA0)).mono ?_
  rintro e w1 ⟨hB1, h⟩
  have kr := keep (new_at w _ _ rfl) hB1
  have hB := hA0.trans (hB1.mono hA0.size)
  have hs1 : w.heap.size + 1 ≤ w1.heap.size := by have := hB1.size; simp at this; omega
  clear hB1 hA0
  have huni : ∃ (A' : Option Addr) (c' : Nat) (ev : Value), e = .returned (.tuple #[.agg #[.slice A' (capX (ofX L)).l.length c'], ev]) ∧ (∀ w, Calls Try.prog 27 #[ev] w fun e w' => e = .returned (.int .i64 (capX (ofX L)).e) ∧ Below w.heap.size w w') ∧ OwnL w1 (w.heap.size + 1) (.slice A' (capX (ofX L)).l.length c') (capX (ofX L)).l := by
    rcases h with ⟨h64, rfl⟩ | ⟨h64, A', c', rfl, hown⟩
    · have hC : capX (ofX L) = ⟨[], 60⟩ := by unfold capX; rw [if_neg (by omega)]
      rw [hC]
      exact ⟨none, 0, _, rfl, told_wrong, OwnL.nil _ _⟩
    · have hC : capX (ofX L) = ⟨ofX L, 0⟩ := by unfold capX; rw [if_pos h64]
      rw [hC]
      rw [show (w.alloc (.cells #[.slice none 0 0] 24)).heap.size = w.heap.size + 1 by simp] at hown
      exact ⟨A', c', _, rfl, told_nil, hown⟩
  clear h
  obtain ⟨A', c', ev, rfl, hT, hown⟩ := huni
  rw [HN.out] at hown ⊢
  rw [HK.out] at hT
  have HTold := Lib.hid hT
  have HOwn := Lib.hid hown
  clear hT hown
  go_wp2_with fail
  have kx := new_at w1 (.cells #[.slice A' N c'] 24) _ rfl
  have kr' := old_at (o := .cells #[.slice A' N c'] 24) kr
  have hB' := hB.alloc hB.size (.cells #[.slice A' N c'] 24)
  have HBW : Hid (Below w1.heap.size w1 (w1.alloc (.cells #[.slice A' N c'] 24))) := Lib.hid ((Below.refl _ w1).alloc (Nat.le_refl _) _)
  have hs : (w1.alloc (.cells #[.slice A' N c'] 24)).heap.size = w1.heap.size + 1 := by simp
  obtain ⟨bx, hbx⟩ : ∃ b, w1.heap.size = b := ⟨_, rfl⟩
  rw [hbx] at kx hs hs1 ⊢
  clear kr hB hbx
  generalize w1.alloc (.cells #[.slice A' N c'] 24) = W at *
  have l0 : ∀ s : Later W.heap.size W, s.W.cell? ⟨bx, 0, none⟩ = some _ := fun s => s.cell (cell_at kx 0) (by show bx < _; omega)
  refine region_mix_last_plain (C := fun W' => ∃ s : Later W.heap.size W, W' = s.W) [0, 0, 1, 2, 3] (by kernel_rfl) (by kernel_rfl) (by kernel_rfl) (by kernel_rfl) (by kernel_rfl) ⟨⟨W.drew, (Below.refl _ W).drew⟩, rfl⟩ ?_
  refine wpL_calm (fun K hK => ?_); go_simp; refine hK _ ?_; clear hK K
  refine wpL_calm (fun K hK => ?_); go_simp; refine hK _ ?_; clear hK K
  refine wpL_eff rfl (fun K hK => ?_)
  go_simp
  refine ⟨trivial, (callsIn_wide.2 (HTold.out W.drew)).mono ?_⟩
  rintro e w3 ⟨rfl, hB3⟩
  have hD3 : Below W.heap.size W w3 := (Below.refl W.heap.size W).drew.trans hB3
  refine ⟨_, rfl, hK _ _ ⟨⟨_, hD3⟩, rfl⟩ ?_⟩
  clear hK K l0
  have mr := keep kr' hD3
  have x0 := cell_at mr 0
  have f0 := free_at mr 0
  have hP := (Put.refl mr).set 0 (.slice A' N c')
  refine wpL_last rfl (fun K hK => ?_)
  have HP := Lib.hid hP
  clear hP
  go_simp
  refine hK _ _ ?_
  clear hK K x0 f0
  refine wpL_plain (fun K hK => ?_)
  go_simp
  refine hK _ ?_
  clear hK K
  refine wpL_nil ?_
  go_wp2_with fail
  have hP := HP.out
  have hlt := (Array.getElem?_eq_some_iff.1 mr).1
  have mr2 := hP.get hlt
  have d0 := cell_at mr2 0
  refine bodyPost_ret (v := .tuple #[.agg #[.slice A' N c'], .int .i64 k]) ?_ rfl ⟨?_, A', c', rfl, ?_⟩
  · simp [results, Try.results17, go_sem, d0]
  · exact (hB'.trans (hD3.mono hB'.size)).trans (hP.below (Nat.le_refl _))
  · have ho := HOwn.out.of (W' := W) (fun k _ hk => HBW.out.block k hk)
    have ho2 := (ho.of (W' := w3) (fun k _ hk => hD3.block k hk))
    exact OwnL.mono (Nat.le_succ _) (ho2.of (fun k hk _ => hP.other (by omega)))
end Go.Proofs.Ythnnbpmpaeddgaa
