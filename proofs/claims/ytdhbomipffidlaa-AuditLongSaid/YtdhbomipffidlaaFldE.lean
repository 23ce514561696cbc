/-
  A number's bytes by the reference: greatest, Put of aviaryref02.
-/
import Derived.Test.YtdhbomipffidlaaFldD
namespace Go.Proofs.Ytdhbomipffidlaa
open Go.RowKit Go.Shelf

theorem cell_at {w : World} {b : Nat} {cs : Array Value} {T : TypeId} {fr : Nat × Nat} (h : w.heap[b]? = some (.cells cs T fr)) (i : Nat) : w.cell? ⟨b, i, none⟩ = cs[i]? := by simp [World.cell?, h]

theorem text_one (w : World) (b : Nat) (x : UInt8) (h : w.cell? ⟨b, 0, none⟩ = some (.int .u8 (x.toNat : Int))) : (convert 78 9 (.slice (some ⟨b, 0, none⟩) 1 1)).run Try.prog w = .ok (.string ⟨#[x]⟩) w :=
  run_convert_bytes_back (P := Try.prog) w 78 9 5 ⟨b, 0, none⟩ 1 [x] Try.underlying78 Try.underlying5 Try.underlying9 (fun j hj => by
    obtain rfl : j = 0 := by simpa using hj
    exact h)
theorem cat_one (x : UInt8) (l : List UInt8) : ((⟨#[x]⟩ : ByteArray) ++ (⟨l.toArray⟩ : ByteArray)) = ⟨(x :: l).toArray⟩ := by
  apply ByteArray.ext
  simp

set_option maxRecDepth 100000 in
set_option maxHeartbeats 4000000 in
theorem greatest_any (n : BitVec 64) (size : Nat) (hsz : size ≤ 8) (w : World) : Calls Try.prog 46 #[.int .u64 (U n), .int .i64 (size : Int)] w fun e w' => e = .returned (.string ⟨(beGo n size).toArray⟩) ∧ Below w.heap.size w w' := by
  go_enter Try.func46, Try.ntmps46
  go_wp2_with fail
  go_loopw [5, 6] (fun sv iv wr => ∃ i : Nat, i ≤ size ∧ iv = .int .i64 i ∧ sv = .string ⟨(beGo n i).toArray⟩ ∧ Below w.heap.size w wr) (fun _ iv _ => size - (intOf iv).toNat)
  case atStart => exact ⟨0, Nat.zero_le _, rfl, rfl, Below.refl _ w⟩
  case round =>
    obtain ⟨i, hi, rfl, rfl, hB⟩ := hrel
    obtain ⟨wo, rfl⟩ : ∃ wo : World, wo = wr := ⟨_, rfl⟩
    by_cases hk : i < size
    · have hbw := byte_wrap n i
      have hcat := cat_one (byte8 n i) (beGo n i)
      obtain ⟨T, hT⟩ : ∃ T : ByteArray, (⟨(beGo n i).toArray⟩ : ByteArray) = T := ⟨_, rfl⟩
      rw [hT] at hcat ⊢
      have hTs : T.size = i := by rw [← hT]; show (beGo n i).toArray.size = i; simp [beGo_length]
      have hcs : ((⟨#[byte8 n i]⟩ : ByteArray) ++ T).size ≤ 9223372036854775807 := by rw [hcat]; show (byte8 n i :: beGo n i).toArray.size ≤ _; simp [beGo_length]; omega
      have hc1 : 1 + T.size ≤ 9223372036854775807 := by omega
      have hc2 : (⟨#[byte8 n i]⟩ : ByteArray).size + T.size ≤ 9223372036854775807 := hc1
      clear hTs
      have hc := text_one (wo.alloc (.cells #[.int .u8 ((byte8 n i).toNat : Int)] 5)) wo.heap.size (byte8 n i) (cell_at (new_at wo _ _ rfl) 0)
      have HCat := Lib.hid hcat
      clear hcat hT
      go_wp2_with fail
      go_roundw
      case rel => exact ⟨i + 1, by omega, by go_num, by rw [HCat.out]; rfl, hB.alloc hB.size _⟩
      case measure => simp [intOf]; omega
    · obtain rfl : i = size := by omega
      go_wp2_with fail
      go_ret
      exact ⟨rfl, hB⟩
end Go.Proofs.Ytdhbomipffidlaa
