/-
  What a token says, and its check: Body, Check of package token.
-/
import Derived.Test.YtpekedldoplmmaaDoorTokE
import Derived.Test.YtpekedldoplmmaaDoorSameG
import Derived.Test.YtpekedldoplmmaaDoorMixL
import Derived.Laws.StructEq
namespace Go.Proofs.YtpekedldoplmmaaDoor
open Go.RowKit Go.Shelf
attribute [local go_sem] Oper.semAt_some calmOp calmUpon effOp effUpon

section
variable (a0 b0 : Addr) (B b : Nat) (s : ByteArray) (hs : s.size ≤ 9223372036854775807) (w : World) (hS : Sent a0 b0 B w) (hBb : B ≤ b) (hb : w.heap[b]? = some (.cells #[.string s] 66 (0, 0)))
include hs hS hBb hb
theorem claim_no (h : clB s = false) : Calls Tryd.prog 31 #[.pointer (some ⟨b, 0, none⟩)] w fun e w' => e = .returned (.tuple #[.agg #[.int .u64 0, .int .i64 0, .int .u64 0], wrongV 170]) ∧ Below B w w' := by
  by_cases h0 : numE s = 0
  · by_cases h1 : numE (getR s) = 0
    · by_cases h2 : numE (getR (getR s)) = 0
      · by_cases h3 : (clR s).toNat < 1
        · exact claim_lo a0 b0 B b s hs h0 h1 h2 h3 w hS hBb hb
        · by_cases h4 : 3 < (clR s).toNat
          · exact claim_hi a0 b0 B b s hs h0 h1 h2 h4 w hS hBb hb
          · by_cases h5 : (clE s).size = 8
            · rw [clB_of ⟨h0, h1, h2, by omega, by omega, h5⟩] at h; cases h
            · exact claim_len a0 b0 B b s hs h0 h1 h2 (by omega) (by omega) h5 w hS hBb hb
      · exact claim_bad2 a0 b0 B b s hs h0 h1 h2 w hS hBb hb
    · exact claim_bad1 a0 b0 B b s hs h0 h1 w hS hBb hb
  · exact claim_bad0 a0 b0 B b s hs h0 w hS hBb hb
theorem claim_yes (h : clB s = true) : Calls Tryd.prog 31 #[.pointer (some ⟨b, 0, none⟩)] w fun e w' => e = .returned (.tuple #[.agg #[.int .u64 (U (clT s)), .int .i64 (U (clR s)), .int .u64 (U (clU s))], .nilIface]) ∧ Puts w w' b (.cells #[.string (clE s)] 66 (0, 0)) := by
  obtain ⟨h0, h1, h2, h3, h4, h5⟩ := clB_true h
  exact claim_ok a0 b0 B b s hs h0 h1 h2 h3 h4 h5 w hS hBb hb
end
/-- The three parts of a claim that is told: none's are zeros. -/
def bT (s : ByteArray) : BitVec 64 := if clB s = true then clT s else 0#64
def bR (s : ByteArray) : BitVec 64 := if clB s = true then clR s else 0#64
def bU (s : ByteArray) : BitVec 64 := if clB s = true then clU s else 0#64
theorem sent_up {a0 b0 : Addr} {B : Nat} {w : World} (hS : Sent a0 b0 B w) : Sent a0 b0 w.heap.size w :=
  ⟨hS.more, hS.none_, hS.ne, hS.ca, hS.cb, Nat.lt_of_lt_of_le hS.ba hS.bs, Nat.lt_of_lt_of_le hS.bb hS.bs, Nat.le_trans hS.b0 hS.bs, Nat.le_refl _⟩

theorem sent_to {a0 b0 : Addr} {B B' : Nat} {w : World} (hS : Sent a0 b0 B w) (h1 : B ≤ B') (h2 : B' ≤ w.heap.size) : Sent a0 b0 B' w :=
  ⟨hS.more, hS.none_, hS.ne, hS.ca, hS.cb, Nat.lt_of_lt_of_le hS.ba h1, Nat.lt_of_lt_of_le hS.bb h1, Nat.le_trans hS.b0 h1, h2⟩

set_option maxRecDepth 100000 in
set_option maxHeartbeats 8000000 in
theorem Body_any (a0 b0 : Addr) (s : ByteArray) (hs : s.size ≤ 9223372036854775807) (B : Nat) (w : World) (hS : Sent a0 b0 B w) :
    Calls Tryd.prog 16 #[.string s] w fun e w' => e = .returned (.tuple #[.agg #[.int .u64 (U (bT s)), .int .i64 (U (bR s)), .int .u64 (U (bU s))], .bool (clB s)]) ∧ Below w.heap.size w w' := by
  have q0 : ((w.alloc (.cells #[.int .u64 0, .int .i64 0, .int .u64 0] 26)).alloc (.cells #[.string s] 66)).heap[w.heap.size]? = some (.cells #[.int .u64 0, .int .i64 0, .int .u64 0] 26 (0, 0)) := old_at (new_at _ _ _ rfl)
  have k0 : ((w.alloc (.cells #[.int .u64 0, .int .i64 0, .int .u64 0] 26)).alloc (.cells #[.string s] 66)).heap[w.heap.size + 1]? = some (.cells #[.string s] 66 (0, 0)) := new_at _ _ _ (by simp)
  have hB0 : Below w.heap.size w ((w.alloc (.cells #[.int .u64 0, .int .i64 0, .int .u64 0] 26)).alloc (.cells #[.string s] 66)) := ((Below.refl _ w).alloc (Nat.le_refl _) _).alloc (by simp) _
  have hS0 := sent_to ((sent_up hS).later hB0) (Nat.le_succ _) (show w.heap.size + 1 ≤ _ by simp)
  have Q0 := Lib.hid q0
  have K0 := Lib.hid k0
  have S0 := Lib.hid hS0
  have B0 := Lib.hid hB0
  clear q0 k0 hB0 hS0 hS
  cases h : clB s with
  | false =>
    have e1 : bT s = 0#64 := by unfold bT; rw [h]; rfl
    have e2 : bR s = 0#64 := by unfold bR; rw [h]; rfl
    have e3 : bU s = 0#64 := by unfold bU; rw [h]; rfl
    rw [e1, e2, e3]
    have HC := Lib.hid (claim_no a0 b0 (w.heap.size + 1) (w.heap.size + 1) s hs _ S0.out (Nat.le_refl _) K0.out h)
    clear e1 e2 e3 h
    go_enter Tryd.func16, Tryd.ntmps16
    go_wp2_with fail
    refine HC.out.mono ?_
    rintro e w1 ⟨rfl, hB1⟩
    have kq1 := (hB1.block _ (Nat.lt_succ_self _)).trans Q0.out
    have HB1 := Lib.hid (B0.out.trans (hB1.mono (Nat.le_succ _)))
    clear hB1
    go_wp2_with fail
    have kq := old_at (o := .cells #[.int .u64 0, .int .i64 0, .int .u64 0] 26) kq1
    have kc : (w1.alloc (.cells #[.int .u64 0, .int .i64 0, .int .u64 0] 26)).heap[w1.heap.size]? = some (.cells #[.int .u64 0, .int .i64 0, .int .u64 0] 26 (0, 0)) := new_at w1 _ _ rfl
    have HBa : Hid (Below w.heap.size w (w1.alloc (.cells #[.int .u64 0, .int .i64 0, .int .u64 0] 26))) := Lib.hid (HB1.out.alloc HB1.out.size _)
    generalize w1.alloc (.cells #[.int .u64 0, .int .i64 0, .int .u64 0] 26) = W at *
    refine region_mix_last_plain (C := fun W' => ∃ s : Later W.heap.size W, W' = s.W) [0, 3, 3, 2, 3] (by kernel_rfl) (by kernel_rfl) (by kernel_rfl) (by kernel_rfl) (by kernel_rfl) ⟨⟨W.drew, (Below.refl _ W).drew⟩, rfl⟩ ?_
    have l0 : ∀ s : Later W.heap.size W, s.W.cell? ⟨w1.heap.size, 0, none⟩ = some _ := fun s => s.cell (cell_at kc 0) (Array.getElem?_eq_some_iff.1 kc).1
    have l1 : ∀ s : Later W.heap.size W, s.W.cell? ⟨w1.heap.size, 1, none⟩ = some _ := fun s => s.cell (cell_at kc 1) (Array.getElem?_eq_some_iff.1 kc).1
    have l2 : ∀ s : Later W.heap.size W, s.W.cell? ⟨w1.heap.size, 2, none⟩ = some _ := fun s => s.cell (cell_at kc 2) (Array.getElem?_eq_some_iff.1 kc).1
    refine wpL_calm (fun K hK => ?_); go_simp; refine hK _ ?_; clear hK K
    refine wpL_plain (fun K hK => ?_); go_simp; refine hK _ ?_; clear hK K
    refine wpL_plain (fun K hK => ?_); go_simp; refine hK _ ?_; clear hK K
    clear l0 l1 l2 kc kq1
    have g0 := cell_at kq 0
    have g1 := cell_at kq 1
    have g2 := cell_at kq 2
    have f0 := frz_at kq 0
    have f1 := frz_at kq 1
    have f2 := frz_at kq 2
    refine wpL_last rfl (fun K hK => ?_)
    go_simp
    refine hK _ _ ?_
    clear hK K
    refine wpL_plain (fun K hK => ?_)
    go_simp
    refine hK _ ?_
    clear hK K
    refine wpL_nil ?_
    go_wp2_with fail
    refine bodyPost_ret (v := .tuple #[.agg #[.int .u64 0, .int .i64 0, .int .u64 0], .bool false]) (by simp [results, Tryd.results16, go_sem, g0, g1, g2]) rfl ⟨rfl, ?_⟩
    exact ((HBa.out.drew.setCell (by simp) _).setCell (by simp) _).setCell (by simp) _
  | true =>
    have e1 : bT s = clT s := by unfold bT; rw [h]; rfl
    have e2 : bR s = clR s := by unfold bR; rw [h]; rfl
    have e3 : bU s = clU s := by unfold bU; rw [h]; rfl
    rw [e1, e2, e3]
    have HC := Lib.hid (claim_yes a0 b0 (w.heap.size + 1) (w.heap.size + 1) s hs _ S0.out (Nat.le_refl _) K0.out h)
    clear e1 e2 e3 h
    go_enter Tryd.func16, Tryd.ntmps16
    go_wp2_with fail
    refine HC.out.mono ?_
    rintro e w1 ⟨rfl, hP⟩
    have hB1 := hP.below (Nat.le_refl _) S0.out.bs
    have kq1 := hP.other (Nat.ne_of_lt (Nat.lt_succ_self _)) Q0.out
    have HB1 := Lib.hid (B0.out.trans (hB1.mono (Nat.le_succ _)))
    clear hB1 hP
    go_wp2_with fail
    have kq := old_at (o := .cells #[.int .u64 (U (clT s)), .int .i64 (U (clR s)), .int .u64 (U (clU s))] 26) kq1
    have kc : (w1.alloc (.cells #[.int .u64 (U (clT s)), .int .i64 (U (clR s)), .int .u64 (U (clU s))] 26)).heap[w1.heap.size]? = some (.cells #[.int .u64 (U (clT s)), .int .i64 (U (clR s)), .int .u64 (U (clU s))] 26 (0, 0)) := new_at w1 _ _ rfl
    have HBa : Hid (Below w.heap.size w (w1.alloc (.cells #[.int .u64 (U (clT s)), .int .i64 (U (clR s)), .int .u64 (U (clU s))] 26))) := Lib.hid (HB1.out.alloc HB1.out.size _)
    generalize w1.alloc (.cells #[.int .u64 (U (clT s)), .int .i64 (U (clR s)), .int .u64 (U (clU s))] 26) = W at *
    refine region_mix_last_plain (C := fun W' => ∃ s : Later W.heap.size W, W' = s.W) [0, 3, 3, 2, 3] (by kernel_rfl) (by kernel_rfl) (by kernel_rfl) (by kernel_rfl) (by kernel_rfl) ⟨⟨W.drew, (Below.refl _ W).drew⟩, rfl⟩ ?_
    have l0 : ∀ s : Later W.heap.size W, s.W.cell? ⟨w1.heap.size, 0, none⟩ = some _ := fun s => s.cell (cell_at kc 0) (Array.getElem?_eq_some_iff.1 kc).1
    have l1 : ∀ s : Later W.heap.size W, s.W.cell? ⟨w1.heap.size, 1, none⟩ = some _ := fun s => s.cell (cell_at kc 1) (Array.getElem?_eq_some_iff.1 kc).1
    have l2 : ∀ s : Later W.heap.size W, s.W.cell? ⟨w1.heap.size, 2, none⟩ = some _ := fun s => s.cell (cell_at kc 2) (Array.getElem?_eq_some_iff.1 kc).1
    refine wpL_calm (fun K hK => ?_); go_simp; refine hK _ ?_; clear hK K
    refine wpL_plain (fun K hK => ?_); go_simp; refine hK _ ?_; clear hK K
    refine wpL_plain (fun K hK => ?_); go_simp; refine hK _ ?_; clear hK K
    clear l0 l1 l2 kc kq1
    have g0 := cell_at kq 0
    have g1 := cell_at kq 1
    have g2 := cell_at kq 2
    have f0 := frz_at kq 0
    have f1 := frz_at kq 1
    have f2 := frz_at kq 2
    refine wpL_last rfl (fun K hK => ?_)
    go_simp
    refine hK _ _ ?_
    clear hK K
    refine wpL_plain (fun K hK => ?_)
    go_simp
    refine hK _ ?_
    clear hK K
    refine wpL_nil ?_
    go_wp2_with fail
    refine bodyPost_ret (v := .tuple #[.agg #[.int .u64 (U (clT s)), .int .i64 (U (clR s)), .int .u64 (U (clU s))], .bool true]) (by simp [results, Tryd.results16, go_sem, g0, g1, g2]) rfl ⟨rfl, ?_⟩
    exact ((HBa.out.drew.setCell (by simp) _).setCell (by simp) _).setCell (by simp) _
end Go.Proofs.YtpekedldoplmmaaDoor
