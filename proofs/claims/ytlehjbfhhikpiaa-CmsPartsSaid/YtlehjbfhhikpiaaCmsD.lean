/-
  Counters at work: taken, added to; the columns' places one by one; counts. The program's.
-/
import Derived.Test.YtlehjbfhhikpiaaCmsC
import Derived.Laws.CopyOwn
namespace Go.Proofs.Ytlehjbfhhikpiaa
open Go.RowKit

theorem add_mk (b o j : Nat) : (⟨b, o, none⟩ : Addr).add j = ⟨b, o + j, none⟩ := by
  unfold Addr.add
  by_cases h : j = 0 <;> simp [h]
theorem set_row {w : World} {g : Nat} {n : Nat} {T : TypeId} {l : List (BitVec 64)} (hg : w.heap[g]? = some (.cells (Array.replicate n (enc64 0#64)) T (0, 0))) (hn : l.length = n) :
    Row (w.setRow g ((Array.replicate n (enc64 0#64)).toList.take 0 ++ (l.map enc64 ++ (Array.replicate n (enc64 0#64)).toList.drop (0 + (l.map enc64).length))).toArray) g T l := by
  have h := setRow_heap w g _ ((Array.replicate n (enc64 0#64)).toList.take 0 ++ (l.map enc64 ++ (Array.replicate n (enc64 0#64)).toList.drop (0 + (l.map enc64).length))).toArray T _ hg
  unfold Row
  rw [h]
  congr 2
  simp [hn]

theorem copy_any (w : World) (b o c : Nat) (l : List (BitVec 64)) (hc : ∀ j, j < l.length → w.cell? ⟨b, o + j, none⟩ = some (.int .u64 (U (nth l j)))) :
    ∃ W, (Builtin.copy_ #[22, 22] 3 #[.slice (some ⟨w.heap.size, 0, none⟩) l.length l.length, .slice (some ⟨b, o, none⟩) l.length c]).run Try.prog (w.alloc (.cells (Array.replicate l.length (enc64 0#64)) 25)) = .ok (.int .i64 (l.length : Nat)) W ∧
      Row W w.heap.size 25 l ∧ Below w.heap.size w W := by
  have hg : (w.alloc (.cells (Array.replicate l.length (enc64 0#64)) 25)).heap[w.heap.size]? = some (.cells (Array.replicate l.length (enc64 0#64)) 25 (0, 0)) := new_at w _ _ rfl
  have h := run_copy_row (P := Try.prog) (w.alloc (.cells (Array.replicate l.length (enc64 0#64)) 25)) 22 22 3 25 w.heap.size 0 l.length l.length ⟨b, o, none⟩ l.length c _ _ (l.map enc64) Try.underlying22 (by kernel_rfl) hg (by simp) (fun j v hj => by
    have hj2 : j < l.length := by have := (List.getElem?_eq_some_iff.1 hj).1; simpa using this
    rw [add_mk, old_cell (hc j hj2)]
    rw [List.getElem?_map, nth_get hj2] at hj
    exact hj) (by simp) (fun v hv => by
    obtain ⟨x, _, rfl⟩ := List.mem_map.1 hv
    rfl)
  refine ⟨_, by rw [h, List.length_map]; rfl, set_row hg rfl, ?_⟩
  exact below_setRow ((Below.refl _ w).alloc (Nat.le_refl _) _) (Nat.le_refl _) _

/-- Counters at work, at g: their numbers lie at g2. -/
def WorkAt (w : World) (g g2 : Nat) (R C : Int) (l : List (BitVec 64)) : Prop :=
  w.heap[g]? = some (.cells #[.int .i64 R, .int .i64 C, .slice (some ⟨g2, 0, none⟩) l.length l.length] 61 (0, 0)) ∧ Row w g2 25 l ∧ g ≠ g2

set_option maxRecDepth 100000 in
set_option maxHeartbeats 1000000 in
theorem start_any (R C : Int) (A : Option Addr) (c : Nat) (l : List (BitVec 64)) (w : World) (hA : At w w.heap.size A l) : Calls Try.prog 33 #[.agg #[.int .i64 R, .int .i64 C, .slice A l.length c]] w fun e w' => Below w.heap.size w w' ∧
    ((isRight R C l.length = false ∧ e = .returned (.tuple #[.pointer none, .iface 50 (.agg #[])])) ∨
     (isRight R C l.length = true ∧ ∃ (g g2 : Nat), w.heap.size ≤ g ∧ w.heap.size ≤ g2 ∧ e = .returned (.tuple #[.pointer (some ⟨g, 0, none⟩), .nilIface]) ∧ WorkAt w' g g2 R C l)) := by
  have hr := right_any R C A l.length c
  by_cases hR : isRight R C l.length = true
  · rw [hR] at hr
    obtain ⟨r, k, rfl, rfl, h1, h2, hk, hn⟩ := isRight_out hR
    have hn2 : l.length ≤ 128 := by rcases hk with rfl | rfl | rfl | rfl <;> omega
    have hn3 : 0 < l.length := by rcases hk with rfl | rfl | rfl | rfl <;> omega
    obtain ⟨b, o, rfl, hb, hc⟩ := hA hn3
    have HR := Lib.hid hr
    have HZ := Lib.hid hR
    have HC := Lib.hid hc
    have hmk := fun w => make_u64 l.length (by omega) w
    clear hr hR hn hk hc
    go_enter Try.func33, Try.ntmps33
    go_wp2_with fail
    refine (HR.out _).mono ?_
    rintro e w1 ⟨rfl, hB1⟩
    obtain ⟨k0, k1, k2, hB⟩ := box3 hB1
    have a2 := old_cell k2
    obtain ⟨W2, hcp, hrow, hB2⟩ := copy_any w1 b o c l (fun j hj => (hB.cell (p := ⟨b, o + j, none⟩) hb).trans (HC.out j hj))
    have hlt1 := World.block_lt_of_cell? w1 _ k0
    have l0 := (hB2.cell (p := ⟨w.heap.size, 0, none⟩) hlt1).trans k0
    have l1 := (hB2.cell (p := ⟨w.heap.size, 1, none⟩) hlt1).trans k1
    clear hlt1
    go_wp2_with fail
    go_ret2
    have hlw := hB.size
    have hlr := hrow.lt
    refine ⟨(hB.trans (hB2.mono hlw)).alloc (Nat.le_trans hlw hB2.size) _, .inr ⟨HZ.out, W2.heap.size, w1.heap.size, Nat.le_trans hlw hB2.size, hlw, rfl, new_at _ _ _ rfl, old_at hrow, by omega⟩⟩
  · rw [Bool.not_eq_true] at hR
    rw [hR] at hr
    have HR := Lib.hid hr
    have HZ := Lib.hid hR
    clear hr hR
    go_enter Try.func33, Try.ntmps33
    go_wp2_with (first | (go_at_call 16; refine (HR.out _).mono ?_; rintro e w1 ⟨rfl, hB1⟩; obtain ⟨k0, k1, k2, hB⟩ := box3 hB1))
    go_ret2
    exact ⟨hB, .inl ⟨HZ.out, rfl⟩⟩

theorem places_any (v : Value) (hv : ∃ g : Nat, v = .pointer (some ⟨g, 0, none⟩)) (x : BitVec 64) (w : World) : Calls Try.prog 34 #[v, .int .u64 (U x)] w fun e w' =>
    e = .returned (.func (.func 43) #[] #[.pointer (some ⟨w.heap.size, 0, none⟩), .pointer (some ⟨w.heap.size + 1, 0, none⟩)]) ∧ w' = (w.alloc (.cells #[v] 51)).alloc (.cells #[.int .u64 (U x)] 25) := by
  obtain ⟨g, rfl⟩ := hv
  go_enter Try.func34, Try.ntmps34
  go_wp2
  go_ret
  exact ⟨rfl, rfl⟩
end Go.Proofs.Ytlehjbfhhikpiaa
