/-
  The walk of the eights of a text: an iterator that keeps what is left of the text in a cell.
-/
import Derived.Test.YtdhbomipffidlaaSip2
namespace Go.Proofs.Ytdhbomipffidlaa
open Go.RowKit Go.Shelf
attribute [local go_sem] U_add U_sub U_xor U_or U_and
attribute [local go_sem] Oper.semAt_some
/-- The k-th byte of a text, as a number. -/
def byteAt (s : ByteArray) (k : Nat) : BitVec 64 := BitVec.ofNat 64 (s.data.toList.getD k 0).toNat
/-- The first k bytes as a number, the least first. -/
def leTo (s : ByteArray) : Nat → BitVec 64
  | 0 => 0
  | k + 1 => leTo s k ||| byteAt s k <<< (8 * k)
/-- The numbers of a text, eight bytes each; the last has what z says behind it. -/
def eightsGo (z : BitVec 64) : Nat → ByteArray → List (BitVec 64)
  | 0, _ => []
  | f + 1, r => if r.size < 8 then [leTo r r.size ||| z] else leTo r 8 :: eightsGo z f (r.extract 8 r.size)
def eightsOf (s : ByteArray) : List (BitVec 64) := eightsGo (BitVec.ofNat 64 s.size <<< 56) (s.size + 1) s

theorem byteAt_get (s : ByteArray) (k : Nat) (h : k < s.size) : byteAt s k = BitVec.ofNat 64 s[k].toNat := by
  unfold byteAt
  have h' : k < s.data.toList.length := by simpa using h
  rw [List.getD_eq_getElem?_getD, List.getElem?_eq_getElem h']
  rfl
theorem byte_shl (s : ByteArray) (k : Nat) (h : k < s.size) : IntKind.u64.wrap (((s[k].toNat : Nat) : Int) * 2 ^ (8 * k)) = U (byteAt s k <<< (8 * k)) := by
  rw [byteAt_get s k h, ← U_shl]
  congr 2
  have := s[k].toNat_lt
  unfold U; rw [BitVec.toNat_ofNat]; omega

theorem byte_shl2 (s : ByteArray) (k : Nat) (h : k < s.size) : IntKind.u64.wrap (IntKind.u64.wrap ((s[k].toNat : Nat) : Int) * 2 ^ (8 * k)) = U (byteAt s k <<< (8 * k)) := by
  rw [← byte_shl s k h]
  congr 2
  have := s[k].toNat_lt
  rw [IntKind.wrap_u64]; omega

set_option maxRecDepth 100000 in
set_option maxHeartbeats 2000000 in
theorem eights1_in (F : Fence) (n : Nat) (h7 : F.fn 47) (hro : F.round = none) (hn : 1 ≤ n) (l Bs T : Nat) (s : ByteArray) (hs : s.size ≤ 9223372036854775807)
    (J : List (BitVec 64) → World → Prop) (hJ : ∀ pre A v, J pre A → J pre (A.setCell ⟨Bs, 0, none⟩ v))
    (hY : ∀ pre x W1, J pre W1 → pre.length < s.size + 1 → YieldAt F (n - 1) Try.prog l #[.int .u64 (U x)] W1 fun e W' => e = .returned (.bool true) ∧ J (pre ++ [x]) W' ∧ W'.heap[Bs]? = W1.heap[Bs]?)
    (W : World) (hBs : Boxed W Bs T (.string s)) (h0 : J [] W) :
    CallsIn F n Try.prog 47 #[.func (.yield l) #[] #[], .pointer (some ⟨Bs, 0, none⟩)] W fun e W' => (∃ v, e = .returned v) ∧ J (eightsOf s) W' := by
  have hcs := hBs.cell
  have hsz : IntKind.u64.wrap ((s.size : Int) * 72057594037927936) = U (BitVec.ofNat 64 s.size <<< 56) := by
    rw [← U_shl]; congr 2
    unfold U; rw [BitVec.toNat_ofNat]; omega
  refine callsIn_of_wp Try.func47 rfl h7 ?_ hro
  simp only [Try.ntmps47, List.size_toArray, List.length_cons, List.length_nil, Nat.reduceAdd, Nat.reduceSub, Array.replicate_succ, Array.replicate_zero, List.push_toArray, List.append_toArray, List.nil_append, List.cons_append]
  gi_wp2
  refine wpIn_scope_straight ?_
  gi_wp2
  refine wpIn_label ?_
  gi_wp2
  clear hsz hcs
  gi_loopw [4] (fun _ wr => ∃ (f : Nat) (pre : List (BitVec 64)) (r : ByteArray), eightsOf s = pre ++ eightsGo (BitVec.ofNat 64 s.size <<< 56) f r ∧ r.size < f ∧ pre.length + r.size ≤ s.size ∧ Boxed wr Bs T (.string r) ∧ J pre wr)
    (fun _ wr => match wr.cell? ⟨Bs, 0, none⟩ with | some (.string r) => r.size | _ => 0)
  case atStart => exact ⟨s.size + 1, [], s, rfl, by omega, by simp, hBs, h0⟩
  case round =>
    obtain ⟨f, pre, r, he, hf, hp, hb, hj⟩ := hrel
    have hc := hb.cell
    have hfz := hb.frozen
    have HE := Lib.hid he
    clear he
    by_cases hlt : r.size < 8
    · obtain ⟨fn, tmps, assign, body, hy, hR⟩ := hY pre (leTo r r.size ||| BitVec.ofNat 64 s.size <<< 56) wr hj (by omega)
      gi_wp2
      gi_loop [4, 15] (fun m i => ∃ k : Nat, k ≤ r.size ∧ i = .int .i64 k ∧ m = .int .u64 (U (leTo r k))) (fun _ i => r.size - (intOf i).toNat)
      case atStart => exact ⟨0, Nat.zero_le _, rfl, rfl⟩
      case round =>
        obtain ⟨k, hk, rfl, rfl⟩ := hrel
        by_cases hkr : k < r.size
        · gi_wp2
          go_round
          case rel => exact ⟨k + 1, by omega, by go_num, by rw [byte_shl2 r k hkr, U_or]; rfl⟩
          case measure => simp [intOf]; omega
        · obtain rfl : k = r.size := by omega
          gi_wp2
          refine hR.mono ?_
          rintro e W3 ⟨rfl, hJ3, hk3⟩
          gi_wp2
          rw [Exit.noGoto_normal]
          go_end0
          refine ⟨⟨_, rfl⟩, ?_⟩
          rw [HE.out]
          cases f with
          | zero => omega
          | succ f => rw [eightsGo, if_pos hlt]; exact hJ3
    · obtain ⟨fn, tmps, assign, body, hy, hR⟩ := hY pre (leTo r 8) wr hj (by omega)
      by_cases h8 : r.size ≤ 8
      all_goals
        gi_wp2
        gi_loop [4, 15] (fun m i => ∃ k : Nat, k ≤ 8 ∧ i = .int .i64 k ∧ m = .int .u64 (U (leTo r k))) (fun _ i => 8 - (intOf i).toNat)
        case atStart => exact ⟨0, Nat.zero_le _, rfl, rfl⟩
        case round =>
          obtain ⟨k, hk, rfl, rfl⟩ := hrel
          by_cases hkr : k < 8
          · have hkr2 : k < r.size := by omega
            gi_wp2
            go_round
            case rel => exact ⟨k + 1, by omega, by go_num, by rw [byte_shl2 r k hkr2, U_or]; rfl⟩
            case measure => simp [intOf]; omega
          · obtain rfl : k = 8 := by omega
            gi_wp2
            refine hR.mono ?_
            rintro e W3 ⟨rfl, hJ3, hk3⟩
            have hb3 : Boxed W3 Bs T (.string r) := hk3.trans hb
            have hc3 := hb3.cell
            have hf3 := hb3.frozen
            gi_wp2
            go_roundw
            case rel =>
              cases f with
              | zero => omega
              | succ f => exact ⟨f, pre ++ [leTo r 8], r.extract 8 r.size, by rw [HE.out, eightsGo, if_neg hlt]; simp, by simp; omega, by simp; omega, hb3.set _, hJ _ _ _ hJ3⟩
            case measure =>
              rw [hc, (hb3.set _).cell]
              simp; omega
end Go.Proofs.Ytdhbomipffidlaa
