/-
  The bytes of numbers, by package audit.
-/
import Derived.Test.YtdhbomipffidlaaBytG
namespace Go.Proofs.Ytdhbomipffidlaa
open Go.RowKit Go.Shelf

/-- The bytes of numbers, one behind the other. -/
def catN (l : List (BitVec 64)) : ByteArray := l.foldl (fun a x => a ++ bytesF x) ⟨#[]⟩
theorem catN_snoc (l : List (BitVec 64)) (x : BitVec 64) : catN (l ++ [x]) = catN l ++ bytesF x := by unfold catN; rw [List.foldl_append]; rfl
theorem catN_size : ∀ (n : Nat) (l : List (BitVec 64)), l.length = n → (catN l).size ≤ 9 * n
  | 0, l, h => by
    have : l = [] := List.eq_nil_of_length_eq_zero h
    subst this
    exact Nat.zero_le _
  | n + 1, l, h => by
    have e : l = l.take n ++ [nth l n] := by
      have h1 : l.take (n + 1) = l := List.take_of_length_le (by omega)
      have h2 : l.take (n + 1) = l.take n ++ [nth l n] := by rw [List.take_add_one, nth_get (by omega)]; rfl
      exact h1.symm.trans h2
    rw [e, catN_snoc, ByteArray.size_append]
    have h2 := catN_size n (l.take n) (by rw [List.length_take]; omega)
    have h3 := bytesF_size (nth l n)
    omega
theorem takeU_snoc (l : List (BitVec 64)) (j : Nat) (h : j < l.length) : l.take (j + 1) = l.take j ++ [nth l j] := by
  rw [List.take_add_one, nth_get h]; rfl

set_option maxRecDepth 100000 in
set_option maxHeartbeats 4000000 in
theorem tput_any (A : Option Addr) (c : Nat) (l : List (BitVec 64)) (n : Nat) (hn : l.length = n) (hm : n ≤ 1000) (w : World) (hA : At w w.heap.size A l) :
    Calls Try.prog 36 #[.slice A n c] w fun e w' => e = .returned (.string (catN l)) ∧ Below w.heap.size w w' := by
  have HN := Lib.hid hn
  clear hn
  go_enter Try.func36, Try.ntmps36
  go_wp2_with fail
  go_loopw [3, 8] (fun sv iv wr => ∃ j : Nat, j ≤ n ∧ iv = .int .i64 j ∧ sv = .string (catN (l.take j)) ∧ Below w.heap.size w wr) (fun _ iv _ => n - (intOf iv).toNat)
  case atStart => exact ⟨0, Nat.zero_le _, rfl, rfl, Below.refl _ w⟩
  case round =>
    obtain ⟨j, hj, rfl, rfl, hB⟩ := hrel
    by_cases hjn : j < n
    · obtain ⟨b, o, rfl, hb, hc⟩ := hA (by rw [HN.out]; omega)
      have y0 := (hB.cell (p := ⟨b, o + j, none⟩) hb).trans (hc j (by rw [HN.out]; exact hjn))
      have hsn := takeU_snoc l j (by rw [HN.out]; exact hjn)
      have hcs := catN_size j (l.take j) (by rw [List.length_take, HN.out]; omega)
      have hnx : catN (l.take (j + 1)) = catN (l.take j) ++ bytesF (nth l j) := by rw [hsn, catN_snoc]
      have hbs := bytesF_size (nth l j)
      have HC := Lib.hid (fun W => Put_at (nth l j) _ rfl W)
      generalize nth l j = x at *
      have hjI : (j : Int) < (n : Int) := by omega
      have hjI0 : (0 : Int) ≤ (j : Int) := by omega
      have HNx := Lib.hid hnx
      generalize catN (l.take j) = C at *
      generalize bytesF x = X at *
      have hz : C.size + X.size ≤ 9223372036854775807 := by omega
      clear hc hsn hnx hcs hbs
      go_wp2_with fail
      with_reducible refine (HC.out _).mono ?_
      rintro e w1 ⟨rfl, hB1⟩
      have HB1 := Lib.hid (hB.trans (hB1.mono hB.size))
      clear hB1
      go_wp2_with fail
      go_roundw
      case rel => exact ⟨j + 1, by omega, by go_num, by rw [HNx.out], HB1.out⟩
      case measure => simp [intOf]; omega
    · have hge : ¬ (j : Int) < (n : Int) := by omega
      have htk : l.take j = l := List.take_of_length_le (by rw [HN.out]; omega)
      rw [htk]
      clear htk
      go_wp2_with fail
      go_ret
      exact ⟨rfl, hB⟩
end Go.Proofs.Ytdhbomipffidlaa
