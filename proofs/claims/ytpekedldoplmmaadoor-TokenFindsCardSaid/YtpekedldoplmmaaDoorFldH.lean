/-
  The reader of package field: so many bytes taken, as a number.
-/
import Derived.Test.YtpekedldoplmmaaDoorFldA
namespace Go.Proofs.YtpekedldoplmmaaDoor
open Go.RowKit

/-- The k-th byte of a text. -/
def byteOf (s : ByteArray) (k : Nat) : BitVec 64 := BitVec.ofNat 64 (s.data.toList.getD k 0).toNat
/-- The number of a text's first bytes. -/
def takeN (s : ByteArray) : Nat → BitVec 64
  | 0 => 0#64
  | k + 1 => takeN s k <<< 8 ||| byteOf s k
theorem byteOf_get (s : ByteArray) (k : Nat) (h : k < s.size) : ((s[k].toNat : Nat) : Int) = U (byteOf s k) := by
  have e : s.data.toList.getD k 0 = s[k] := by
    have h2 : k < s.data.toList.length := by simpa using h
    rw [List.getD_eq_getElem?_getD, List.getElem?_eq_getElem h2]
    rfl
  unfold byteOf U
  rw [e, BitVec.toNat_ofNat]
  have := s[k].toNat_lt
  omega

set_option maxRecDepth 100000 in
theorem take_short (a0 b0 : Addr) (B b : Nat) (T : TypeId) (s : ByteArray) (size : Nat) (hlt : s.size < size) (w : World) (hS : Sent a0 b0 B w) (hb : w.heap[b]? = some (.cells #[.string s] T (0, 0))) :
    Calls Tryd.prog 57 #[.pointer (some ⟨b, 0, none⟩), .int .i64 (size : Int)] w fun e w' => e = .returned (.tuple #[.int .u64 0, .iface 122 (.pointer (some a0))]) ∧ Below w.heap.size w w' := by
  have hm := hS.more
  have hc : w.cell? ⟨b, 0, none⟩ = some (.string s) := by simp [World.cell?, hb]
  have h1 : (s.size : Int) < (size : Int) := by omega
  go_enter Tryd.func57, Tryd.ntmps57
  go_wp2_with fail
  go_quiet (fail)
  go_wp2_with fail
  go_ret2
  exact ⟨rfl, ⟨rfl, rfl, rfl, Nat.le_refl _, fun _ _ => rfl⟩⟩

set_option maxRecDepth 100000 in
set_option maxHeartbeats 2000000 in
theorem take_ok (b : Nat) (T : TypeId) (s : ByteArray) (hs : s.size ≤ 9223372036854775807) (size : Nat) (hsz : size ≤ 9) (hlt : size ≤ s.size) (w : World) (hb : w.heap[b]? = some (.cells #[.string s] T (0, 0))) :
    Calls Tryd.prog 57 #[.pointer (some ⟨b, 0, none⟩), .int .i64 (size : Int)] w fun e w' => e = .returned (.tuple #[.int .u64 (U (takeN s size)), .nilIface]) ∧ Put w w' b (.cells #[.string (s.extract size s.size)] T (0, 0)) := by
  have hc : w.cell? ⟨b, 0, none⟩ = some (.string s) := by simp [World.cell?, hb]
  have hf : w.frozen? ⟨b, 0, none⟩ = false := by simp [World.frozen?, hb]
  have hP := (Put.refl hb).set 0 (.string (s.extract size s.size))
  have HP := Lib.hid hP
  clear hP hb
  have h1 : ¬ (s.size : Int) < (size : Int) := by omega
  go_enter Tryd.func57, Tryd.ntmps57
  go_wp2_with fail
  go_loop [6, 18] (fun m i => ∃ k : Nat, k ≤ size ∧ i = .int .i64 k ∧ m = .int .u64 (U (takeN s k))) (fun _ i => size - (intOf i).toNat)
  case atStart => exact ⟨0, Nat.zero_le _, rfl, rfl⟩
  case round =>
    obtain ⟨k, hk, rfl, rfl⟩ := hrel
    by_cases hkr : k < size
    · have hk2 : k < s.size := by omega
      have hby := byteOf_get s k hk2
      have hsl : IntKind.u64.wrap (U (takeN s k) * 256) = U (takeN s k <<< 8) := U_shl (takeN s k) 8
      have hmo := U_mod (byteOf s k)
      go_wp2_with fail
      go_round
      case rel => exact ⟨k + 1, by omega, by go_num, by rw [U_or]; rfl⟩
      case measure => simp [intOf]; omega
    · obtain rfl : k = size := by omega
      go_wp2_with fail
      go_ret2
      exact ⟨rfl, HP.out⟩
end Go.Proofs.YtpekedldoplmmaaDoor
