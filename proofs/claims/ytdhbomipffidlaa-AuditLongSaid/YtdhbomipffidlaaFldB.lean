/-
  The bytes of a number, the greatest one first: the iterator of package field.
-/
import Derived.Test.YtdhbomipffidlaaChecked
import Derived.Test.YtdhbomipffidlaaU8
import Derived.Test.YtdhbomipffidlaaIter
namespace Go.Proofs.Ytdhbomipffidlaa
open Go.RowKit Go.Shelf

/-- The k-th byte of a number, the least one first. -/
def byte8 (n : BitVec 64) (k : Nat) : UInt8 := UInt8.ofNat (n.toNat / 2 ^ (8 * k))
/-- So many bytes of a number, the greatest one first. -/
def beGo (n : BitVec 64) : Nat → List UInt8
  | 0 => []
  | k + 1 => byte8 n k :: beGo n k
theorem byte_wrap (n : BitVec 64) (k : Nat) : IntKind.u8.wrap (U n / 2 ^ (8 * k)) = ((byte8 n k).toNat : Int) := by
  unfold byte8 U
  rw [UInt8.toNat_ofNat']
  have e : ((n.toNat : Int) / 2 ^ (8 * k)) = ((n.toNat / 2 ^ (8 * k) : Nat) : Int) := by
    rw [Int.natCast_ediv]; norm_cast
  rw [e]
  generalize n.toNat / 2 ^ (8 * k) = m
  show _ = ((m % 256 : Nat) : Int)
  simp [IntKind.wrap, IntKind.bits, IntKind.signed]
theorem beGo_length (n : BitVec 64) : ∀ k, (beGo n k).length = k
  | 0 => rfl
  | k + 1 => by simp [beGo, beGo_length n k]

/-- A variable that was boxed. -/
def Boxed8 (W : World) (b T : Nat) (v : Value) : Prop := W.heap[b]? = some (.cells #[v] T (0, 0))
theorem Boxed8.cell {W : World} {b T : Nat} {v : Value} (h : Boxed8 W b T v) : W.cell? ⟨b, 0, none⟩ = some v := by unfold Boxed8 at h; simp [World.cell?, h]

set_option maxRecDepth 100000 in
set_option maxHeartbeats 2000000 in
theorem bytes1_in (F : Fence) (n : Nat) (h7 : F.fn 52) (hro : F.round = none) (hn : 1 ≤ n) (l Bn Bz Tn Tz : Nat) (m : BitVec 64) (size : Nat) (hsz : size ≤ 8)
    (J : List UInt8 → World → Prop)
    (hY : ∀ pre x W1, J pre W1 → pre.length < size → YieldAt F (n - 1) Try.prog l #[.int .u8 (x.toNat : Int)] W1 fun e W' => e = .returned (.bool true) ∧ J (pre ++ [x]) W' ∧ W'.heap[Bn]? = W1.heap[Bn]? ∧ W'.heap[Bz]? = W1.heap[Bz]?)
    (W : World) (hn1 : Boxed8 W Bn Tn (.int .u64 (U m))) (hz1 : Boxed8 W Bz Tz (.int .i64 (size : Int))) (h0 : J [] W) :
    CallsIn F n Try.prog 52 #[.func (.yield l) #[] #[], .pointer (some ⟨Bz, 0, none⟩), .pointer (some ⟨Bn, 0, none⟩)] W fun e W' => (∃ v, e = .returned v) ∧ J (beGo m size) W' := by
  have cz := hz1.cell
  refine callsIn_of_wp Try.func52 rfl h7 ?_ hro
  simp only [Try.ntmps52, List.size_toArray, List.length_cons, List.length_nil, Nat.reduceAdd, Nat.reduceSub, Array.replicate_succ, Array.replicate_zero, List.push_toArray, List.append_toArray, List.nil_append, List.cons_append]
  gi_wp2
  refine wpIn_scope_straight ?_
  gi_wp2
  refine wpIn_label ?_
  gi_wp2
  clear cz
  gi_loopw [4] (fun iv wr => ∃ (z : Int) (pre : List UInt8), iv = .int .i64 z ∧ -1 ≤ z ∧ z < (size : Int) ∧ beGo m size = pre ++ beGo m (z + 1).toNat ∧ pre.length + (z + 1).toNat = size ∧ Boxed8 wr Bn Tn (.int .u64 (U m)) ∧ Boxed8 wr Bz Tz (.int .i64 (size : Int)) ∧ J pre wr)
    (fun iv _ => (intOf iv + 1).toNat)
  case atStart =>
    have e : ((size : Int) - 1 + 1).toNat = size := by omega
    exact ⟨_, [], rfl, by omega, by omega, by rw [e]; rfl, by rw [e]; simp, hn1, hz1, h0⟩
  case round =>
    obtain ⟨z, pre, rfl, hz0, hzs, he, hp, hbn, hbz, hj⟩ := hrel
    have HE := Lib.hid he
    clear he
    by_cases h : 0 ≤ z
    · obtain ⟨k, rfl⟩ := Int.eq_ofNat_of_zero_le h
      have cn := hbn.cell
      have e1 : ((k : Int) + 1).toNat = k + 1 := by omega
      have hbw := byte_wrap m k
      have h8k : IntKind.i64.wrap (8 * (k : Int)) = ((8 * k : Nat) : Int) := by rw [IntKind.wrap_i64] <;> omega
      obtain ⟨fn, tmps, assign, body, hy, hR⟩ := hY pre (byte8 m k) wr hj (by omega)
      gi_wp2
      refine hR.mono ?_
      rintro e W3 ⟨rfl, hJ3, kn, kz⟩
      have hbn3 : Boxed8 W3 Bn Tn (.int .u64 (U m)) := kn.trans hbn
      have hbz3 : Boxed8 W3 Bz Tz (.int .i64 (size : Int)) := kz.trans hbz
      clear hR hy hj hbn hbz cn hbw h8k kn kz
      gi_wp2
      go_roundw
      case rel =>
        have e2 : ((k : Int) - 1 + 1).toNat = k := by omega
        refine ⟨_, pre ++ [byte8 m k], rfl, by omega, by omega, ?_, ?_, hbn3, hbz3, hJ3⟩
        · rw [HE.out, e1, e2]
          simp [beGo]
        · rw [e2, List.length_append]
          simp
          omega
      case measure => simp [intOf]
    · obtain rfl : z = -1 := by omega
      gi_wp2
      go_end0
      have e3 : ((-1 : Int) + 1).toNat = 0 := rfl
      refine ⟨⟨_, rfl⟩, ?_⟩
      have h9 := HE.out
      rw [e3] at h9
      rw [h9]
      simpa [beGo] using hj
end Go.Proofs.Ytdhbomipffidlaa
