/-
  Get of package field, and of the reference.
-/
import Derived.Test.YtpekedldoplmmaaDoorFldI
import Derived.Test.YtpekedldoplmmaaDoorFldF
namespace Go.Proofs.YtpekedldoplmmaaDoor
open Go.RowKit

/-- What Get tells: the number, what is left. -/
def getN (s : ByteArray) : BitVec 64 := if numE s = 0 then numV s else 0#64
def getR (s : ByteArray) : ByteArray := if numE s = 0 then s.extract (numL s) s.size else s
theorem numE_cases (s : ByteArray) : numE s = 20 ∨ numE s = 21 ∨ numE s = 0 := by
  unfold numE
  split
  · exact .inl rfl
  · split
    · exact .inl rfl
    · split
      · exact .inr (.inr rfl)
      · exact .inr (.inl rfl)

set_option maxRecDepth 100000 in
set_option maxHeartbeats 4000000 in
theorem Get_any (a0 b0 : Addr) (s : ByteArray) (hs : s.size ≤ 9223372036854775807) (B : Nat) (w : World) (hS : Sent a0 b0 B w) :
    Calls Tryd.prog 52 #[.string s] w fun e w' => e = .returned (.tuple #[.int .u64 (U (getN s)), .string (getR s), .int .i64 (numE s)]) ∧ Below w.heap.size w w' := by
  have hS0 : Sent a0 b0 w.heap.size (w.alloc (.cells #[.string s] 104)) := by
    refine Sent.later ?_ ((Below.refl _ w).alloc (Nat.le_refl _) _)
    exact ⟨hS.more, hS.none_, hS.ne, hS.ca, hS.cb, Nat.lt_of_lt_of_le hS.ba hS.bs, Nat.lt_of_lt_of_le hS.bb hS.bs, Nat.le_trans hS.b0 hS.bs, Nat.le_refl _⟩
  have hb : (w.alloc (.cells #[.string s] 104)).heap[w.heap.size]? = some (.cells #[.string s] 104 (0, 0)) := new_at w _ _ rfl
  have hB0 : Below w.heap.size w (w.alloc (.cells #[.string s] 104)) := (Below.refl _ w).alloc (Nat.le_refl _) _
  have HB0 := Lib.hid hB0
  have HS0 := Lib.hid hS0
  have Hb := Lib.hid hb
  clear hS0 hb hB0 hS
  rcases numE_cases s with he | he | he
  · have hn : getN s = 0#64 := by unfold getN; rw [if_neg (by omega)]
    have hr : getR s = s := by unfold getR; rw [if_neg (by omega)]
    have HC := Lib.hid (number_more a0 b0 w.heap.size w.heap.size 104 s hs _ HS0.out (Nat.le_refl _) Hb.out he)
    rw [hn, hr, he]
    clear hn hr he
    go_enter Tryd.func52, Tryd.ntmps52
    go_wp2_with fail
    with_reducible refine HC.out.mono ?_
    rintro e w1 ⟨rfl, hB1⟩
    have hS1 := HS0.out.later hB1
    have HS1 := Lib.hid hS1
    clear hS1
    go_wp2_with fail
    refine (told_more a0 b0 w.heap.size _ HS1.out).mono ?_
    rintro e w2 ⟨rfl, rfl⟩
    go_wp2_with fail
    refine bodyPost_ret (v := .tuple #[.int .u64 0, .string s, .int .i64 20]) (by simp [results, Tryd.results52, go_sem]) rfl ⟨rfl, HB0.out.trans hB1⟩
  · have hn : getN s = 0#64 := by unfold getN; rw [if_neg (by omega)]
    have hr : getR s = s := by unfold getR; rw [if_neg (by omega)]
    have HC := Lib.hid (number_none a0 b0 w.heap.size w.heap.size 104 s hs _ HS0.out (Nat.le_refl _) Hb.out he)
    rw [hn, hr, he]
    clear hn hr he
    go_enter Tryd.func52, Tryd.ntmps52
    go_wp2_with fail
    with_reducible refine HC.out.mono ?_
    rintro e w1 ⟨rfl, hB1⟩
    have hS1 := HS0.out.later hB1
    have HS1 := Lib.hid hS1
    clear hS1
    go_wp2_with fail
    refine (told_none a0 b0 w.heap.size _ HS1.out).mono ?_
    rintro e w2 ⟨rfl, rfl⟩
    go_wp2_with fail
    refine bodyPost_ret (v := .tuple #[.int .u64 0, .string s, .int .i64 21]) (by simp [results, Tryd.results52, go_sem]) rfl ⟨rfl, HB0.out.trans hB1⟩
  · have hn : getN s = numV s := by unfold getN; rw [if_pos he]
    have hr : getR s = s.extract (numL s) s.size := by unfold getR; rw [if_pos he]
    have HC := Lib.hid (number_ok a0 b0 w.heap.size w.heap.size 104 s hs _ HS0.out (Nat.le_refl _) Hb.out he)
    rw [hn, hr, he]
    generalize numV s = V at *
    generalize s.extract (numL s) s.size = R at *
    clear hn hr he
    go_enter Tryd.func52, Tryd.ntmps52
    go_wp2_with fail
    with_reducible refine HC.out.mono ?_
    rintro e w1 ⟨rfl, hP⟩
    have hb1 := hP.get (Array.getElem?_eq_some_iff.1 Hb.out).1
    have hB1 := hP.below (Nat.le_refl _) HB0.out.size
    have HB1 := Lib.hid hB1
    have hc1 : w1.cell? ⟨w.heap.size, 0, none⟩ = some (.string R) := by simp [World.cell?, hb1]
    clear hP hb1 hB1
    go_wp2_with fail
    go_quiet (fail)
    go_wp2_with fail
    refine bodyPost_ret (v := .tuple #[.int .u64 (U V), .string R, .int .i64 0]) (by simp [results, Tryd.results52, go_sem]) rfl ⟨rfl, dn (HB0.out.trans HB1.out) _⟩
end Go.Proofs.YtpekedldoplmmaaDoor
