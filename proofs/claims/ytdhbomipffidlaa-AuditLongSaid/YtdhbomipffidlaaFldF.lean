/-
  Put of aviaryref02 is Put of field.
-/
import Derived.Test.YtdhbomipffidlaaFldE
namespace Go.Proofs.Ytdhbomipffidlaa
open Go.RowKit Go.Shelf

theorem greatest_at (a c : Int) (m : BitVec 64) (size : Nat) (hsz : size ≤ 8) (ha : a = U m) (hc : c = (size : Int)) (w : World) :
    Calls Try.prog 46 #[.int .u64 a, .int .i64 c] w fun e w' => e = .returned (.string ⟨(beGo m size).toArray⟩) ∧ Below w.heap.size w w' := by
  subst ha hc
  exact greatest_any m size hsz w
theorem beGo_one (m : BitVec 64) : beGo m 1 = [UInt8.ofNat m.toNat] := by simp [beGo, byte8]
theorem cat_put (m k : BitVec 64) (size : Nat) : ((⟨(beGo m 1).toArray⟩ : ByteArray) ++ (⟨(beGo k size).toArray⟩ : ByteArray)) = ⟨(putL (UInt8.ofNat m.toNat) k size).toArray⟩ := by
  rw [beGo_one]
  exact cat_one _ _

set_option maxRecDepth 100000 in
set_option maxHeartbeats 4000000 in
theorem refPut_one (n : BitVec 64) (h1 : n.toNat ≤ 240) (w : World) : Calls Try.prog 38 #[.int .u64 (U n)] w fun e w' => e = .returned (.string ⟨(putF n).toArray⟩) ∧ Below w.heap.size w w' := by
  have hU : U n = (n.toNat : Int) := rfl
  have g1 : U n ≤ 240 := by rw [hU]; omega
  have e : putF n = beGo n 1 := by unfold putF; rw [if_pos h1, beGo_one]; rfl
  rw [e]
  clear hU e h1
  go_enter Try.func38, Try.ntmps38
  go_wp2_with fail
  refine (greatest_at _ _ n 1 (by omega) rfl rfl _).mono ?_
  rintro e w1 ⟨rfl, hB⟩
  go_wp2_with fail
  go_ret
  exact ⟨rfl, hB⟩

set_option maxRecDepth 100000 in
set_option maxHeartbeats 4000000 in
theorem refPut_two (n : BitVec 64) (h1 : ¬ n.toNat ≤ 240) (h2 : n.toNat ≤ 2287) (w : World) : Calls Try.prog 38 #[.int .u64 (U n)] w fun e w' => e = .returned (.string ⟨(putF n).toArray⟩) ∧ Below w.heap.size w w' := by
  have hU : U n = (n.toNat : Int) := rfl
  have g1 : ¬ U n ≤ 240 := by rw [hU]; omega
  have g2 : U n ≤ 2287 := by rw [hU]; omega
  have ht : (n - 240#64).toNat = n.toNat - 240 := by
    rw [BitVec.toNat_sub]
    have := n.isLt
    have e9 : (240#64).toNat = 240 := rfl
    rw [e9]
    omega
  have hs : IntKind.u64.wrap (U n - 240) = U (n - 240#64) := by
    rw [IntKind.wrap_u64]
    unfold U
    rw [ht]
    omega
  have hq : (U (n - 240#64)).tdiv 256 = (((n.toNat - 240) / 256 : Nat) : Int) := by
    unfold U
    rw [ht, Int.tdiv_eq_ediv_of_nonneg (by omega)]
    omega
  have hq2 : U (n - 240#64) / 256 = (((n.toNat - 240) / 256 : Nat) : Int) := by
    unfold U
    rw [ht]
    omega
  have HQ : (n.toNat - 240) / 256 ≤ 7 := by omega
  have hc := cat_put (BitVec.ofNat 64 (241 + (n.toNat - 240) / 256)) (n - 240#64) 1
  rw [BitVec.toNat_ofNat, Nat.mod_eq_of_lt (by omega)] at hc
  have e : (⟨(putF n).toArray⟩ : ByteArray) = ⟨(putL (UInt8.ofNat (241 + (n.toNat - 240) / 256)) (n - 240#64) 1).toArray⟩ := by unfold putF; rw [if_neg h1, if_pos h2]
  rw [e, ← hc]
  obtain ⟨q, hqq⟩ : ∃ q, (n.toNat - 240) / 256 = q := ⟨_, rfl⟩
  rw [hqq] at hq hq2 HQ ⊢
  have hm : (241 : Int) + (q : Int) = U (BitVec.ofNat 64 (241 + q)) := by
    unfold U
    rw [BitVec.toNat_ofNat]
    omega
  have z1 : (⟨(beGo (BitVec.ofNat 64 (241 + q)) 1).toArray⟩ : ByteArray).size = 1 := rfl
  have z2 : (⟨(beGo (n - 240#64) 1).toArray⟩ : ByteArray).size = 1 := rfl
  obtain ⟨T1, hT1⟩ : ∃ T : ByteArray, (⟨(beGo (BitVec.ofNat 64 (241 + q)) 1).toArray⟩ : ByteArray) = T := ⟨_, rfl⟩
  obtain ⟨T2, hT2⟩ : ∃ T : ByteArray, (⟨(beGo (n - 240#64) 1).toArray⟩ : ByteArray) = T := ⟨_, rfl⟩
  have H1 : ∀ w, Calls Try.prog 46 #[.int .u64 (241 + (q : Int)), .int .i64 1] w fun e w' => e = .returned (.string T1) ∧ Below w.heap.size w w' := fun w => by rw [← hT1]; exact greatest_at _ _ _ 1 (by omega) hm rfl w
  have H2 : ∀ w, Calls Try.prog 46 #[.int .u64 (U (n - 240#64)), .int .i64 1] w fun e w' => e = .returned (.string T2) ∧ Below w.heap.size w w' := fun w => by rw [← hT2]; exact greatest_at _ _ _ 1 (by omega) rfl rfl w
  rw [hT1] at z1 ⊢
  rw [hT2] at z2 ⊢
  have K1 := Lib.hid H1
  have K2 := Lib.hid H2
  have zz : T1.size + T2.size ≤ 9223372036854775807 := by omega
  clear hU e hc hqq h1 h2 ht H1 H2 hT1 hT2 z1 z2 hm
  go_enter Try.func38, Try.ntmps38
  go_wp2_with fail
  refine (K1.out _).mono ?_
  rintro e w1 ⟨rfl, hB⟩
  go_wp2_with fail
  refine (K2.out _).mono ?_
  rintro e w2 ⟨rfl, hB2⟩
  go_wp2_with fail
  go_ret
  exact ⟨rfl, hB.trans (hB2.mono hB.size)⟩

set_option maxRecDepth 100000 in
set_option maxHeartbeats 4000000 in
theorem refPut_three (n : BitVec 64) (h1 : ¬ n.toNat ≤ 240) (h2 : ¬ n.toNat ≤ 2287) (h3 : n.toNat ≤ 67823) (w : World) : Calls Try.prog 38 #[.int .u64 (U n)] w fun e w' => e = .returned (.string ⟨(putF n).toArray⟩) ∧ Below w.heap.size w w' := by
  have hU : U n = (n.toNat : Int) := rfl
  have g1 : ¬ U n ≤ 240 := by rw [hU]; omega
  have g2 : ¬ U n ≤ 2287 := by rw [hU]; omega
  have g3 : U n ≤ 67823 := by rw [hU]; omega
  have e0 : n - 2287#64 - 1#64 = n - 2288#64 := by
    rw [BitVec.sub_sub]; rfl
  have ht : (n - 2288#64).toNat = n.toNat - 2288 := by
    rw [BitVec.toNat_sub]
    have := n.isLt
    have e9 : (2288#64).toNat = 2288 := rfl
    rw [e9]
    omega
  have hs : IntKind.u64.wrap (U n - 2288) = U (n - 2288#64) := by
    rw [IntKind.wrap_u64]
    unfold U
    rw [ht]
    omega
  have hc := cat_put 249#64 (n - 2288#64) 2
  have e : (⟨(putF n).toArray⟩ : ByteArray) = ⟨(putL (UInt8.ofNat (249#64).toNat) (n - 2288#64) 2).toArray⟩ := by unfold putF; rw [if_neg h1, if_neg h2, if_pos h3, e0]; rfl
  rw [e, ← hc]
  have hm : (249 : Int) = U 249#64 := rfl
  have z1 : (⟨(beGo 249#64 1).toArray⟩ : ByteArray).size = 1 := rfl
  have z2 : (⟨(beGo (n - 2288#64) 2).toArray⟩ : ByteArray).size = 2 := rfl
  obtain ⟨T1, hT1⟩ : ∃ T : ByteArray, (⟨(beGo 249#64 1).toArray⟩ : ByteArray) = T := ⟨_, rfl⟩
  obtain ⟨T2, hT2⟩ : ∃ T : ByteArray, (⟨(beGo (n - 2288#64) 2).toArray⟩ : ByteArray) = T := ⟨_, rfl⟩
  have H1 : ∀ w, Calls Try.prog 46 #[.int .u64 249, .int .i64 1] w fun e w' => e = .returned (.string T1) ∧ Below w.heap.size w w' := fun w => by rw [← hT1]; exact greatest_at _ _ _ 1 (by omega) hm rfl w
  have H2 : ∀ w, Calls Try.prog 46 #[.int .u64 (U (n - 2288#64)), .int .i64 2] w fun e w' => e = .returned (.string T2) ∧ Below w.heap.size w w' := fun w => by rw [← hT2]; exact greatest_at _ _ _ 2 (by omega) rfl rfl w
  rw [hT1] at z1 ⊢
  rw [hT2] at z2 ⊢
  have K1 := Lib.hid H1
  have K2 := Lib.hid H2
  have zz : T1.size + T2.size ≤ 9223372036854775807 := by omega
  clear hU e hc h1 h2 h3 ht H1 H2 hT1 hT2 z1 z2 hm e0
  go_enter Try.func38, Try.ntmps38
  go_wp2_with fail
  refine (K1.out _).mono ?_
  rintro e w1 ⟨rfl, hB⟩
  go_wp2_with fail
  refine (K2.out _).mono ?_
  rintro e w2 ⟨rfl, hB2⟩
  go_wp2_with fail
  go_ret
  exact ⟨rfl, hB.trans (hB2.mono hB.size)⟩

set_option maxRecDepth 100000 in
set_option maxHeartbeats 4000000 in
theorem refPut_any (n : BitVec 64) (w : World) : Calls Try.prog 38 #[.int .u64 (U n)] w fun e w' => e = .returned (.string ⟨(putF n).toArray⟩) ∧ Below w.heap.size w w' := by
  by_cases h1 : n.toNat ≤ 240
  · exact refPut_one n h1 w
  by_cases h2 : n.toNat ≤ 2287
  · exact refPut_two n h1 h2 w
  by_cases h3 : n.toNat ≤ 67823
  · exact refPut_three n h1 h2 h3 w
  have hU : U n = (n.toNat : Int) := rfl
  have g1 : ¬ U n ≤ 240 := by rw [hU]; omega
  have g2 : ¬ U n ≤ 2287 := by rw [hU]; omega
  have g3 : ¬ U n ≤ 67823 := by rw [hU]; omega
  have e : putF n = putL (UInt8.ofNat (247 + longSize n)) n (longSize n) := by unfold putF; rw [if_neg h1, if_neg h2, if_neg h3]
  rw [e]
  obtain ⟨T, hT⟩ : ∃ T : ByteArray, (⟨(putL (UInt8.ofNat (247 + longSize n)) n (longSize n)).toArray⟩ : ByteArray) = T := ⟨_, rfl⟩
  rw [hT]
  have HT := Lib.hid hT
  clear hU e h1 h2 h3 hT
  go_enter Try.func38, Try.ntmps38
  go_wp2_with fail
  go_loop [3] (fun iv => ∃ (k f : Nat), iv = .int .i64 k ∧ 3 ≤ k ∧ k + f = 8 ∧ longSize n = longGo n f k) (fun iv => 8 - (intOf iv).toNat)
  case atStart => exact ⟨3, 5, rfl, by omega, by omega, rfl⟩
  case round =>
    obtain ⟨k, f, rfl, hk3, hkf, hl⟩ := hrel
    have HL := Lib.hid hl
    clear hl
    have hsh := U_shr n (8 * k)
    have fin : k ≤ 8 → longSize n = k → ∃ T1 T2 : ByteArray, T1 ++ T2 = T ∧ T1.size + T2.size ≤ 9223372036854775807 ∧
        (∀ w, Calls Try.prog 46 #[.int .u64 (247 + (k : Int)), .int .i64 1] w fun e w' => e = .returned (.string T1) ∧ Below w.heap.size w w') ∧
        (∀ w, Calls Try.prog 46 #[.int .u64 (U n), .int .i64 (k : Int)] w fun e w' => e = .returned (.string T2) ∧ Below w.heap.size w w') := fun h8 hl => by
      have hc := cat_put (BitVec.ofNat 64 (247 + k)) n k
      rw [BitVec.toNat_ofNat, Nat.mod_eq_of_lt (by omega)] at hc
      have h := HT.out
      rw [hl, ← hc] at h
      refine ⟨_, _, h, ?_, fun w => greatest_at _ _ (BitVec.ofNat 64 (247 + k)) 1 (by omega) ?_ rfl w, fun w => greatest_at _ _ n k h8 rfl rfl w⟩
      · show (beGo _ 1).toArray.size + (beGo n k).toArray.size ≤ _
        simp [beGo_length]
        omega
      · unfold U
        rw [BitVec.toNat_ofNat]
        omega
    have Fin := Lib.hid fin
    clear fin
    by_cases hk : k < 8
    · by_cases hz : n >>> (8 * k) = 0#64
      · have hx : (U (n >>> (8 * k)) != 0) = false := by rw [hz]; rfl
        have hk9 : longSize n = k := by
          rw [HL.out]
          cases f with
          | zero => omega
          | succ f => unfold longGo; rw [if_neg (by simp [hz])]
        obtain ⟨T1, T2, hcat, zz, c1, c2⟩ := Fin.out (by omega) hk9
        have HC := Lib.hid hcat
        have K1 := Lib.hid c1
        have K2 := Lib.hid c2
        clear hk9 hz hcat c1 c2
        go_wp2_with fail
        refine (K1.out _).mono ?_
        rintro e w1 ⟨rfl, hB⟩
        go_wp2_with fail
        refine (K2.out _).mono ?_
        rintro e w2 ⟨rfl, hB2⟩
        go_wp2_with fail
        go_ret
        exact ⟨by rw [← HC.out]; rfl, hB.trans (hB2.mono hB.size)⟩
      · have hx : (U (n >>> (8 * k)) != 0) = true := by
          rw [bne_iff_ne]
          intro h
          exact hz (U_inj (h.trans (by rfl)))
        have hk9 : longSize n = longGo n (f - 1) (k + 1) := by
          rw [HL.out]
          cases f with
          | zero => omega
          | succ f => rw [longGo, if_pos ⟨hk, hz⟩]; rfl
        have HK := Lib.hid hk9
        clear hk9 hz
        go_wp2_with fail
        go_round
        case rel => exact ⟨k + 1, f - 1, by go_num, by omega, by omega, HK.out⟩
        case measure => simp [intOf]; omega
    · obtain rfl : k = 8 := by omega
      obtain rfl : f = 0 := by omega
      have hk9 : longSize n = 8 := HL.out
      obtain ⟨T1, T2, hcat, zz, c1, c2⟩ := Fin.out (by omega) hk9
      have HC := Lib.hid hcat
      have K1 := Lib.hid c1
      have K2 := Lib.hid c2
      clear hk9 hcat c1 c2 hsh
      go_wp2_with fail
      refine (K1.out _).mono ?_
      rintro e w1 ⟨rfl, hB⟩
      go_wp2_with fail
      refine (K2.out _).mono ?_
      rintro e w2 ⟨rfl, hB2⟩
      go_wp2_with fail
      go_ret
      exact ⟨by rw [← HC.out]; rfl, hB.trans (hB2.mono hB.size)⟩
end Go.Proofs.Ytdhbomipffidlaa
