/-
  A number's bytes: Put of package field.
-/
import Derived.Test.YtdhbomipffidlaaFldC
namespace Go.Proofs.Ytdhbomipffidlaa
open Go.RowKit Go.Shelf

/-- How many bytes a great number takes. -/
def longGo (n : BitVec 64) : Nat → Nat → Nat
  | 0, k => k
  | f + 1, k => if k < 8 ∧ n >>> (8 * k) ≠ 0#64 then longGo n f (k + 1) else k
def longSize (n : BitVec 64) : Nat := longGo n 5 3
/-- A number's bytes. -/
def putF (n : BitVec 64) : List UInt8 :=
  if n.toNat ≤ 240 then putL (UInt8.ofNat n.toNat) 0#64 0
  else if n.toNat ≤ 2287 then putL (UInt8.ofNat (241 + (n.toNat - 240) / 256)) (n - 240#64) 1
  else if n.toNat ≤ 67823 then putL (UInt8.ofNat 249) (n - 2287#64 - 1#64) 2
  else putL (UInt8.ofNat (247 + longSize n)) n (longSize n)
theorem put_at (f : Nat) (hf : f < 256) (m : BitVec 64) (size : Nat) (hsz : size ≤ 8) (a b c : Int) (ha : a = (f : Int)) (hb : b = U m) (hc : c = (size : Int)) (w : World) :
    Calls Try.prog 49 #[.int .i64 a, .int .u64 b, .int .i64 c] w fun e w' => e = .returned (.string ⟨(putL (UInt8.ofNat f) m size).toArray⟩) ∧ Below w.heap.size w w' := by
  have h := put_any (UInt8.ofNat f) m size hsz w
  rw [UInt8.toNat_ofNat', Nat.mod_eq_of_lt (by omega)] at h
  subst ha hb hc
  exact h
theorem longGo_le (n : BitVec 64) : ∀ f k, k ≤ 8 → longGo n f k ≤ 8
  | 0, k, h => h
  | f + 1, k, h => by
    unfold longGo
    split
    · exact longGo_le n f (k + 1) (by omega)
    · exact h

set_option maxRecDepth 100000 in
set_option maxHeartbeats 4000000 in
theorem Put_any (n : BitVec 64) (w : World) : Calls Try.prog 44 #[.int .u64 (U n)] w fun e w' => e = .returned (.string ⟨(putF n).toArray⟩) ∧ Below w.heap.size w w' := by
  have hU : U n = (n.toNat : Int) := rfl
  by_cases h1 : n.toNat ≤ 240
  · have g1 : U n ≤ 240 := by rw [hU]; omega
    have e : putF n = putL (UInt8.ofNat n.toNat) 0#64 0 := by unfold putF; rw [if_pos h1]
    rw [e]
    have hw : IntKind.i64.wrap (U n) = U n := by rw [IntKind.wrap_i64] <;> (rw [hU]; omega)
    have HU := Lib.hid hU
    clear hU e
    go_enter Try.func44, Try.ntmps44
    go_wp2_with fail
    refine (put_at n.toNat (by omega) 0#64 0 (by omega) _ _ _ ?_ ?_ ?_ _).mono ?_
    · exact HU.out
    · rfl
    · rfl
    rintro e w1 ⟨rfl, hB⟩
    go_wp2_with fail
    go_ret
    exact ⟨rfl, hB⟩
  by_cases h2 : n.toNat ≤ 2287
  · have g1 : ¬ U n ≤ 240 := by rw [hU]; omega
    have g2 : U n ≤ 2287 := by rw [hU]; omega
    have e : putF n = putL (UInt8.ofNat (241 + (n.toNat - 240) / 256)) (n - 240#64) 1 := by unfold putF; rw [if_neg h1, if_pos h2]
    rw [e]
    have ht : (n - 240#64).toNat = n.toNat - 240 := by
      rw [BitVec.toNat_sub]
      have := n.isLt
      have e9 : (240#64).toNat = 240 := rfl
      rw [e9]
      omega
    have hs : IntKind.u64.wrap (U n - 240) = U (n - 240#64) := by
      rw [IntKind.wrap_u64]
      unfold U
      rw [ht]
      omega
    have hq : U (n - 240#64) / 256 = (((n.toNat - 240) / 256 : Nat) : Int) := by
      unfold U
      rw [ht]
      omega
    have HQ : (n.toNat - 240) / 256 ≤ 7 := by omega
    obtain ⟨q, hqq⟩ : ∃ q, (n.toNat - 240) / 256 = q := ⟨_, rfl⟩
    rw [hqq] at hq HQ ⊢
    obtain ⟨T, hT⟩ : ∃ T : ByteArray, (⟨(putL (UInt8.ofNat (241 + q)) (n - 240#64) 1).toArray⟩ : ByteArray) = T := ⟨_, rfl⟩
    rw [hT]
    have HT := Lib.hid hT
    clear hU e ht hqq h1 h2 hT
    go_enter Try.func44, Try.ntmps44
    go_wp2_with fail
    refine (put_at (241 + q) (by omega) (n - 240#64) 1 (by omega) _ _ _ ?_ ?_ ?_ _).mono ?_
    · push_cast; rfl
    · rfl
    · rfl
    rintro e w1 ⟨rfl, hB⟩
    rw [HT.out]
    go_wp2_with fail
    go_ret
    exact ⟨rfl, hB⟩
  by_cases h3 : n.toNat ≤ 67823
  · have g1 : ¬ U n ≤ 240 := by rw [hU]; omega
    have g2 : ¬ U n ≤ 2287 := by rw [hU]; omega
    have g3 : U n ≤ 67823 := by rw [hU]; omega
    have e : putF n = putL (UInt8.ofNat 249) (n - 2287#64 - 1#64) 2 := by unfold putF; rw [if_neg h1, if_neg h2, if_pos h3]
    rw [e]
    have ht : (n - 2287#64).toNat = n.toNat - 2287 := by
      rw [BitVec.toNat_sub]
      have := n.isLt
      have e9 : (2287#64).toNat = 2287 := rfl
      rw [e9]
      omega
    have ht2 : (n - 2287#64 - 1#64).toNat = n.toNat - 2288 := by
      rw [BitVec.toNat_sub, ht]
      have := n.isLt
      have e9 : (1#64).toNat = 1 := rfl
      rw [e9]
      omega
    have hs : IntKind.u64.wrap (U n - 2287) = U (n - 2287#64) := by
      rw [IntKind.wrap_u64]
      unfold U
      rw [ht]
      omega
    have hs2 : IntKind.u64.wrap (U (n - 2287#64) - 1) = U (n - 2287#64 - 1#64) := by
      rw [IntKind.wrap_u64]
      unfold U
      rw [ht, ht2]
      omega
    obtain ⟨T, hT⟩ : ∃ T : ByteArray, (⟨(putL (UInt8.ofNat 249) (n - 2287#64 - 1#64) 2).toArray⟩ : ByteArray) = T := ⟨_, rfl⟩
    rw [hT]
    have HT := Lib.hid hT
    clear hU e ht ht2 h1 h2 hT
    go_enter Try.func44, Try.ntmps44
    go_wp2_with fail
    refine (put_at 249 (by omega) (n - 2287#64 - 1#64) 2 (by omega) _ _ _ ?_ ?_ ?_ _).mono ?_
    · rfl
    · rfl
    · rfl
    rintro e w1 ⟨rfl, hB⟩
    rw [HT.out]
    go_wp2_with fail
    go_ret
    exact ⟨rfl, hB⟩
  have g1 : ¬ U n ≤ 240 := by rw [hU]; omega
  have g2 : ¬ U n ≤ 2287 := by rw [hU]; omega
  have g3 : ¬ U n ≤ 67823 := by rw [hU]; omega
  have e : putF n = putL (UInt8.ofNat (247 + longSize n)) n (longSize n) := by unfold putF; rw [if_neg h1, if_neg h2, if_neg h3]
  rw [e]
  obtain ⟨T, hT⟩ : ∃ T : ByteArray, (⟨(putL (UInt8.ofNat (247 + longSize n)) n (longSize n)).toArray⟩ : ByteArray) = T := ⟨_, rfl⟩
  rw [hT]
  have HT := Lib.hid hT
  clear hU e h1 h2 h3 hT
  go_enter Try.func44, Try.ntmps44
  go_wp2_with fail
  go_loop [3] (fun iv => ∃ (k f : Nat), iv = .int .i64 k ∧ 3 ≤ k ∧ k + f = 8 ∧ longSize n = longGo n f k) (fun iv => 8 - (intOf iv).toNat)
  case atStart => exact ⟨3, 5, rfl, by omega, by omega, rfl⟩
  case round =>
    obtain ⟨k, f, rfl, hk3, hkf, hl⟩ := hrel
    have HL := Lib.hid hl
    clear hl
    have hsh := U_shr n (8 * k)
    have fin : ∀ W : World, k ≤ 8 → longSize n = k → Calls Try.prog 49 #[.int .i64 (247 + (k : Int)), .int .u64 (U n), .int .i64 (k : Int)] W fun e w' => e = .returned (.string T) ∧ Below W.heap.size W w' := fun W h8 hl => by
      have h := HT.out
      rw [hl] at h
      rw [← h]
      exact put_at (247 + k) (by omega) n k h8 _ _ _ (by push_cast; rfl) rfl rfl W
    have Fin := Lib.hid fin
    clear fin
    by_cases hk : k < 8
    · by_cases hz : n >>> (8 * k) = 0#64
      · have hx : (U (n >>> (8 * k)) != 0) = false := by rw [hz]; rfl
        have hk9 : longSize n = k := by
          rw [HL.out]
          cases f with
          | zero => omega
          | succ f => unfold longGo; rw [if_neg (by simp [hz])]
        have HK := Lib.hid hk9
        clear hk9 hz
        go_wp2_with fail
        refine (Fin.out _ (by omega) HK.out).mono ?_
        rintro e w1 ⟨rfl, hB⟩
        go_wp2_with fail
        go_ret
        exact ⟨rfl, hB⟩
      · have hx : (U (n >>> (8 * k)) != 0) = true := by
          rw [bne_iff_ne]
          intro h
          exact hz (U_inj (h.trans (by rfl)))
        have hk9 : longSize n = longGo n (f - 1) (k + 1) := by
          rw [HL.out]
          cases f with
          | zero => omega
          | succ f => rw [longGo, if_pos ⟨hk, hz⟩]; rfl
        have HK := Lib.hid hk9
        clear hk9 hz
        go_wp2_with fail
        go_round
        case rel => exact ⟨k + 1, f - 1, by go_num, by omega, by omega, HK.out⟩
        case measure => simp [intOf]; omega
    · obtain rfl : k = 8 := by omega
      obtain rfl : f = 0 := by omega
      have hk9 : longSize n = 8 := HL.out
      have HK := Lib.hid hk9
      clear hk9 hsh
      go_wp2_with fail
      refine (Fin.out _ (by omega) HK.out).mono ?_
      rintro e w1 ⟨rfl, hB⟩
      go_wp2_with fail
      go_ret
      exact ⟨rfl, hB⟩
end Go.Proofs.Ytdhbomipffidlaa
