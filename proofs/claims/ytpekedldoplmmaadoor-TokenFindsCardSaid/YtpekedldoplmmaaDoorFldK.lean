/-
  Get of the reference. Printed by gen_rget.py.
-/
import Derived.Test.YtpekedldoplmmaaDoorFldJ
namespace Go.Proofs.YtpekedldoplmmaaDoor
open Go.RowKit

theorem toList_length (s : ByteArray) : s.toList.length = s.size := by
  rw [ByteArray.toList_eq]
  rfl
theorem byteOf_lt (s : ByteArray) (k : Nat) : (byteOf s k).toNat < 256 := by
  unfold byteOf
  rw [BitVec.toNat_ofNat]
  have := (s.data.toList.getD k 0).toNat_lt
  omega
theorem shl_or (x y : BitVec 64) (hy : y.toNat < 256) : (x <<< 8 ||| y).toNat = (256 * x.toNat + y.toNat) % 18446744073709551616 := by
  rw [BitVec.toNat_or, BitVec.toNat_shiftLeft]
  have e : x.toNat <<< 8 % 2 ^ 64 = (x.toNat % 2 ^ 56) <<< 8 := by
    rw [Nat.shiftLeft_eq, Nat.shiftLeft_eq]
    omega
  rw [e, ← Nat.shiftLeft_add_eq_or_of_lt (by omega), Nat.shiftLeft_eq]
  omega
theorem takeN_nat (s : ByteArray) (k : Nat) : (takeN s (k + 1)).toNat = (256 * (takeN s k).toNat + (byteOf s k).toNat) % 18446744073709551616 := by
  rw [takeN]
  exact shl_or _ _ (byteOf_lt s k)
theorem takeN_congr {s t : ByteArray} : ∀ k, (∀ j, j < k → byteOf s j = byteOf t j) → takeN s k = takeN t k
  | 0, _ => rfl
  | k + 1, h => by
    rw [takeN, takeN, takeN_congr k (fun j hj => h j (by omega)), h k (by omega)]
theorem byteOf_extract (s : ByteArray) (a b k : Nat) (h : a + k < b) : byteOf (s.extract a b) k = byteOf s (a + k) := by
  unfold byteOf
  congr 2
  rw [List.getD_eq_getElem?_getD, List.getD_eq_getElem?_getD]
  congr 1
  simp only [ByteArray.data_extract, Array.toList_extract, List.extract_eq_take_drop, List.getElem?_take, List.getElem?_drop]
  rw [if_pos (by omega)]

set_option maxRecDepth 100000 in
theorem refSize_any (f : Nat) (hf : f < 256) (a : Int) (ha : a = (f : Int)) (w : World) : Calls Tryd.prog 45 #[.int .i64 a] w fun e w' => e = .returned (.int .i64 ((1 + szOf f : Nat) : Int)) ∧ w' = w := by
  have hd : ∀ z : Int, z = ((1 + szOf f : Nat) : Int) → Ending.returned (.int .i64 z) = .returned (.int .i64 ((1 + szOf f : Nat) : Int)) := fun z h => by rw [h]
  have hz : ((1 + szOf f : Nat) : Int) = if a ≤ 240 then 1 else if a ≤ 248 then 2 else a - 246 := by
    unfold szOf
    (repeat' split) <;> omega
  have HZ := Lib.hid hz
  have hb0 : 0 ≤ a := by omega
  have hb1 : a ≤ 255 := by omega
  clear hz ha
  go_enter Tryd.func45, Tryd.ntmps45
  by_cases h1 : a ≤ 240
  · go_wp2_with fail
    go_ret
    exact ⟨hd _ (by rw [HZ.out, if_pos h1]), rfl⟩
  by_cases h2 : a ≤ 248
  · go_wp2_with fail
    go_ret
    exact ⟨hd _ (by rw [HZ.out, if_neg (by omega), if_pos h2]), rfl⟩
  · go_wp2_with fail
    go_ret
    exact ⟨hd _ (by rw [HZ.out, if_neg (by omega), if_neg (by omega)]), rfl⟩

set_option maxRecDepth 100000 in
theorem refNumber_any (s : ByteArray) (hs : s.size ≤ 9223372036854775807) (w : World) : Calls Tryd.prog 46 #[.string s] w fun e w' => e = .returned (.int .u64 (U (takeN s s.size))) ∧ w' = w := by
  obtain ⟨N, hN⟩ : ∃ N, s.size = N := ⟨_, rfl⟩
  have hs2 : N ≤ 9223372036854775807 := by omega
  rw [hN]
  go_enter Tryd.func46, Tryd.ntmps46
  go_wp2_with fail
  go_loop [3, 4] (fun m i => ∃ k : Nat, k ≤ N ∧ i = .int .i64 k ∧ m = .int .u64 (U (takeN s k))) (fun _ i => N - (intOf i).toNat)
  case atStart => exact ⟨0, Nat.zero_le _, rfl, rfl⟩
  case round =>
    obtain ⟨k, hk, rfl, rfl⟩ := hrel
    by_cases hkr : k < N
    · have hk2 : k < s.size := by omega
      have hby := byteOf_get s k hk2
      have hbl : U (byteOf s k) ≤ 255 := by have := byteOf_lt s k; unfold U; omega
      have hb0 : 0 ≤ U (byteOf s k) := by unfold U; omega
      have hnx : IntKind.u64.wrap (IntKind.u64.wrap (256 * U (takeN s k)) + U (byteOf s k)) = U (takeN s (k + 1)) := by
        rw [IntKind.wrap_u64, IntKind.wrap_u64]
        have h := takeN_nat s k
        unfold U
        omega
      go_wp2_with fail
      go_round
      case rel => exact ⟨k + 1, by omega, by go_num, rfl⟩
      case measure => simp [intOf]; omega
    · obtain rfl : k = N := by omega
      go_wp2_with fail
      go_ret
      exact ⟨rfl, rfl⟩
theorem refPut_at (n : BitVec 64) (a : Int) (ha : a = U n) (w : World) : Calls Tryd.prog 42 #[.int .u64 a] w fun e w' => e = .returned (.string (bytesF n)) ∧ Below w.heap.size w w' := by
  subst ha
  exact refPut_any n w

set_option maxRecDepth 100000 in
theorem refGet_empty (s : ByteArray) (h0 : s.size = 0) (w : World) : Calls Tryd.prog 32 #[.string s] w fun e w' => e = .returned (.tuple #[.int .u64 0, .string s, .int .i64 20]) ∧ Below w.heap.size w w' := by
  have e : s = ⟨#[]⟩ := by
    apply ByteArray.ext
    exact Array.eq_empty_of_size_eq_zero h0
  subst e
  clear h0
  go_enter Tryd.func32, Tryd.ntmps32
  go_wp2_with fail
  refine bodyPost_ret (v := .tuple #[.int .u64 0, .string ⟨#[]⟩, .int .i64 20]) (by simp [results, Tryd.results32, go_sem]) rfl ⟨rfl, Below.refl _ w⟩
set_option maxRecDepth 100000 in
theorem refGet_short (s : ByteArray) (hs : s.size ≤ 9223372036854775807) (h1 : 1 ≤ s.size) (h2 : s.size < numL s) (w : World) : Calls Tryd.prog 32 #[.string s] w fun e w' => e = .returned (.tuple #[.int .u64 0, .string s, .int .i64 20]) ∧ Below w.heap.size w w' := by
  have hne : (s.toList == []) = false := by
    rw [beq_eq_false_iff_ne]
    intro h
    have h3 := toList_length s
    rw [h] at h3
    have h4 : s.size = 0 := h3.symm
    omega
  have hne2 : s.toList.isEmpty = false := by
    cases hq : s.toList with
    | nil => rw [hq] at hne; simp at hne
    | cons a b => rfl
  have hk2 : 0 < s.size := by omega
  have hby := byteOf_get s 0 hk2
  have hU : U (byteOf s 0) = (firstOf s : Int) := rfl
  have hf := firstOf_lt s
  have hb0 : 0 ≤ U (byteOf s 0) := by rw [hU]; omega
  have hb1 : U (byteOf s 0) ≤ 255 := by rw [hU]; omega
  unfold numL at h2
  have hlt : (s.size : Int) < ((1 + szOf (firstOf s) : Nat) : Int) := by omega
  obtain ⟨L, hL⟩ : ∃ L, 1 + szOf (firstOf s) = L := ⟨_, rfl⟩
  rw [hL] at hlt
  have HC : Hid (∀ W, Calls Tryd.prog 45 #[.int .i64 (U (byteOf s 0))] W fun e w' => e = .returned (.int .i64 (L : Int)) ∧ w' = W) := Lib.hid (fun W => by rw [← hL]; exact refSize_any (firstOf s) hf _ hU W)
  clear hU hf h2 hL
  go_enter Tryd.func32, Tryd.ntmps32
  go_wp2_with fail
  with_reducible refine (HC.out _).mono ?_
  rintro e w1 ⟨rfl, rfl⟩
  go_wp2_with fail
  refine bodyPost_ret (v := .tuple #[.int .u64 0, .string s, .int .i64 20]) (by simp [results, Tryd.results32, go_sem]) rfl ⟨rfl, Below.refl _ _⟩

set_option maxRecDepth 100000 in
set_option maxHeartbeats 4000000 in
theorem refGet_bad1 (s : ByteArray) (hs : s.size ≤ 9223372036854775807) (h1 : 1 ≤ s.size) (hcl : 250 ≤ firstOf s) (h2 : numL s ≤ s.size) (hq : ((bytesF (numV s)).toList == (s.extract 0 (1 + szOf (firstOf s))).toList) = false) (w : World) :
    Calls Tryd.prog 32 #[.string s] w fun e w' => e = .returned (.tuple #[.int .u64 0, .string s, .int .i64 21]) ∧ Below w.heap.size w w' := by
  have hne : (s.toList == []) = false := by
    rw [beq_eq_false_iff_ne]
    intro h
    have h3 := toList_length s
    rw [h] at h3
    have h4 : s.size = 0 := h3.symm
    omega
  have hne2 : s.toList.isEmpty = false := by
    cases hq : s.toList with
    | nil => rw [hq] at hne; simp at hne
    | cons a b => rfl
  have hk2 : 0 < s.size := by omega
  have hby := byteOf_get s 0 hk2
  have hU : U (byteOf s 0) = (firstOf s : Int) := rfl
  have hf := firstOf_lt s
  have hb0 : 0 ≤ U (byteOf s 0) := by rw [hU]; omega
  have hb1 : U (byteOf s 0) ≤ 255 := by rw [hU]; omega
  unfold numL at h2
  have hz8 := szOf_le _ hf
  have k1 : ¬ U (byteOf s 0) ≤ 240 := by rw [hU]; omega
  have k2 : ¬ U (byteOf s 0) ≤ 248 := by rw [hU]; omega
  have k3 : (U (byteOf s 0) == 249) = false := by rw [beq_eq_false_iff_ne, ne_eq, hU]; omega
  have hnum : takeN (s.extract 1 (1 + szOf (firstOf s))) (szOf (firstOf s)) = takeN (s.extract 1 s.size) (szOf (firstOf s)) := takeN_congr _ fun j hj => by
    rw [byteOf_extract s 1 _ j (by omega), byteOf_extract s 1 s.size j (by omega)]
  have hxs : (s.extract 1 (1 + szOf (firstOf s))).size = szOf (firstOf s) := by rw [ByteArray.size_extract]; omega
  have hsum : U (takeN (s.extract 1 s.size) (szOf (firstOf s))) = U (numV s) := by
    have hv := numV_nat s
    have hb9 : baseOf (firstOf s) = 0#64 := by unfold baseOf; rw [if_pos hcl]
    rw [hb9] at hv
    have e9 : (0#64).toNat = 0 := rfl
    rw [e9] at hv
    unfold U at *
    omega
  obtain ⟨L, hL⟩ : ∃ L, 1 + szOf (firstOf s) = L := ⟨_, rfl⟩
  have hge : ¬ (s.size : Int) < (L : Int) := by omega
  have hL1 : (1 : Int) ≤ (L : Int) := by omega
  have hL2 : (L : Int) ≤ (s.size : Int) := by omega
  have hL3 : L ≤ s.size := by omega
  have hL4 : 1 ≤ L := by omega
  rw [hL] at hq
  have HC : Hid (∀ W, Calls Tryd.prog 45 #[.int .i64 (U (byteOf s 0))] W fun e w' => e = .returned (.int .i64 (L : Int)) ∧ w' = W) := Lib.hid (fun W => by rw [← hL]; exact refSize_any (firstOf s) hf _ hU W)
  obtain ⟨Q, hQ⟩ : ∃ Q, takeN (s.extract 1 s.size) (szOf (firstOf s)) = Q := ⟨_, rfl⟩
  have HN : Hid (∀ W, Calls Tryd.prog 46 #[.string (s.extract 1 L)] W fun e w' => e = .returned (.int .u64 (U Q)) ∧ w' = W) := Lib.hid (fun W => by
    have h := refNumber_any (s.extract 1 (1 + szOf (firstOf s))) (by omega) W
    rw [hxs, hnum, hQ, hL] at h
    exact h)
  rw [hQ] at hsum
  have HL := Lib.hid (show numL s = L from hL)
  clear hU hf h2 hL hnum hxs hQ hz8
  go_enter Tryd.func32, Tryd.ntmps32
  go_wp2_with fail
  with_reducible refine (HC.out _).mono ?_
  rintro e w1 ⟨rfl, rfl⟩
  go_wp2_with fail
  with_reducible refine (HC.out _).mono ?_
  rintro e w1 ⟨rfl, rfl⟩
  go_wp2_with fail
  with_reducible refine (HN.out _).mono ?_
  rintro e w1 ⟨rfl, rfl⟩
  go_wp2_with fail
  refine wp_region_later w1.heap.size (by kernel_rfl) (by kernel_rfl) ?_
  repeat (go_big_quiet_step ((go_at_call 42; with_reducible exact Calls.later (Nat.le_refl _) (refPut_at (numV s) _ rfl _))))
  refine wpQuiet_nil ?_
  rintro _ ⟨s', rfl⟩
  have HB := Lib.hid s'.below
  go_wp2_with fail
  refine bodyPost_ret (v := .tuple #[.int .u64 0, .string s, .int .i64 21]) (by simp [results, Tryd.results32, go_sem]) rfl ⟨rfl, HB.out⟩

set_option maxRecDepth 100000 in
set_option maxHeartbeats 4000000 in
theorem refGet_bad2 (s : ByteArray) (hs : s.size ≤ 9223372036854775807) (h1 : 1 ≤ s.size) (hcl : firstOf s = 249) (h2 : numL s ≤ s.size) (hq : ((bytesF (numV s)).toList == (s.extract 0 (1 + szOf (firstOf s))).toList) = false) (w : World) :
    Calls Tryd.prog 32 #[.string s] w fun e w' => e = .returned (.tuple #[.int .u64 0, .string s, .int .i64 21]) ∧ Below w.heap.size w w' := by
  have hne : (s.toList == []) = false := by
    rw [beq_eq_false_iff_ne]
    intro h
    have h3 := toList_length s
    rw [h] at h3
    have h4 : s.size = 0 := h3.symm
    omega
  have hne2 : s.toList.isEmpty = false := by
    cases hq : s.toList with
    | nil => rw [hq] at hne; simp at hne
    | cons a b => rfl
  have hk2 : 0 < s.size := by omega
  have hby := byteOf_get s 0 hk2
  have hU : U (byteOf s 0) = (firstOf s : Int) := rfl
  have hf := firstOf_lt s
  have hb0 : 0 ≤ U (byteOf s 0) := by rw [hU]; omega
  have hb1 : U (byteOf s 0) ≤ 255 := by rw [hU]; omega
  unfold numL at h2
  have hz8 := szOf_le _ hf
  have k1 : ¬ U (byteOf s 0) ≤ 240 := by rw [hU]; omega
  have k2 : ¬ U (byteOf s 0) ≤ 248 := by rw [hU]; omega
  have k3 : (U (byteOf s 0) == 249) = true := by rw [beq_iff_eq, hU]; omega
  have hnum : takeN (s.extract 1 (1 + szOf (firstOf s))) (szOf (firstOf s)) = takeN (s.extract 1 s.size) (szOf (firstOf s)) := takeN_congr _ fun j hj => by
    rw [byteOf_extract s 1 _ j (by omega), byteOf_extract s 1 s.size j (by omega)]
  have hxs : (s.extract 1 (1 + szOf (firstOf s))).size = szOf (firstOf s) := by rw [ByteArray.size_extract]; omega
  have hsum : IntKind.u64.wrap (2288 + U (takeN (s.extract 1 s.size) (szOf (firstOf s)))) = U (numV s) := by
    have hv := numV_nat s
    have hb9 : baseOf (firstOf s) = 2288#64 := by unfold baseOf; rw [if_neg (by omega), if_pos hcl]
    rw [hb9] at hv
    have e9 : (2288#64).toNat = 2288 := rfl
    rw [e9] at hv
    rw [IntKind.wrap_u64]
    unfold U at *
    omega
  obtain ⟨L, hL⟩ : ∃ L, 1 + szOf (firstOf s) = L := ⟨_, rfl⟩
  have hge : ¬ (s.size : Int) < (L : Int) := by omega
  have hL1 : (1 : Int) ≤ (L : Int) := by omega
  have hL2 : (L : Int) ≤ (s.size : Int) := by omega
  have hL3 : L ≤ s.size := by omega
  have hL4 : 1 ≤ L := by omega
  rw [hL] at hq
  have HC : Hid (∀ W, Calls Tryd.prog 45 #[.int .i64 (U (byteOf s 0))] W fun e w' => e = .returned (.int .i64 (L : Int)) ∧ w' = W) := Lib.hid (fun W => by rw [← hL]; exact refSize_any (firstOf s) hf _ hU W)
  obtain ⟨Q, hQ⟩ : ∃ Q, takeN (s.extract 1 s.size) (szOf (firstOf s)) = Q := ⟨_, rfl⟩
  have HN : Hid (∀ W, Calls Tryd.prog 46 #[.string (s.extract 1 L)] W fun e w' => e = .returned (.int .u64 (U Q)) ∧ w' = W) := Lib.hid (fun W => by
    have h := refNumber_any (s.extract 1 (1 + szOf (firstOf s))) (by omega) W
    rw [hxs, hnum, hQ, hL] at h
    exact h)
  rw [hQ] at hsum
  have HL := Lib.hid (show numL s = L from hL)
  clear hU hf h2 hL hnum hxs hQ hz8 hcl
  go_enter Tryd.func32, Tryd.ntmps32
  go_wp2_with fail
  with_reducible refine (HC.out _).mono ?_
  rintro e w1 ⟨rfl, rfl⟩
  go_wp2_with fail
  with_reducible refine (HC.out _).mono ?_
  rintro e w1 ⟨rfl, rfl⟩
  go_wp2_with fail
  with_reducible refine (HN.out _).mono ?_
  rintro e w1 ⟨rfl, rfl⟩
  go_wp2_with fail
  refine wp_region_later w1.heap.size (by kernel_rfl) (by kernel_rfl) ?_
  repeat (go_big_quiet_step ((go_at_call 42; with_reducible exact Calls.later (Nat.le_refl _) (refPut_at (numV s) _ rfl _))))
  refine wpQuiet_nil ?_
  rintro _ ⟨s', rfl⟩
  have HB := Lib.hid s'.below
  go_wp2_with fail
  refine bodyPost_ret (v := .tuple #[.int .u64 0, .string s, .int .i64 21]) (by simp [results, Tryd.results32, go_sem]) rfl ⟨rfl, HB.out⟩

set_option maxRecDepth 100000 in
set_option maxHeartbeats 4000000 in
theorem refGet_bad3 (s : ByteArray) (hs : s.size ≤ 9223372036854775807) (h1 : 1 ≤ s.size) (hcl : 241 ≤ firstOf s ∧ firstOf s ≤ 248) (h2 : numL s ≤ s.size) (hq : ((bytesF (numV s)).toList == (s.extract 0 (1 + szOf (firstOf s))).toList) = false) (w : World) :
    Calls Tryd.prog 32 #[.string s] w fun e w' => e = .returned (.tuple #[.int .u64 0, .string s, .int .i64 21]) ∧ Below w.heap.size w w' := by
  have hne : (s.toList == []) = false := by
    rw [beq_eq_false_iff_ne]
    intro h
    have h3 := toList_length s
    rw [h] at h3
    have h4 : s.size = 0 := h3.symm
    omega
  have hne2 : s.toList.isEmpty = false := by
    cases hq : s.toList with
    | nil => rw [hq] at hne; simp at hne
    | cons a b => rfl
  have hk2 : 0 < s.size := by omega
  have hby := byteOf_get s 0 hk2
  have hU : U (byteOf s 0) = (firstOf s : Int) := rfl
  have hf := firstOf_lt s
  have hb0 : 0 ≤ U (byteOf s 0) := by rw [hU]; omega
  have hb1 : U (byteOf s 0) ≤ 255 := by rw [hU]; omega
  unfold numL at h2
  have hz8 := szOf_le _ hf
  have k1 : ¬ U (byteOf s 0) ≤ 240 := by rw [hU]; omega
  have k2 : U (byteOf s 0) ≤ 248 := by rw [hU]; omega
  have k3 : 241 ≤ U (byteOf s 0) := by rw [hU]; omega
  have hnum : takeN (s.extract 1 (1 + szOf (firstOf s))) (szOf (firstOf s)) = takeN (s.extract 1 s.size) (szOf (firstOf s)) := takeN_congr _ fun j hj => by
    rw [byteOf_extract s 1 _ j (by omega), byteOf_extract s 1 s.size j (by omega)]
  have hxs : (s.extract 1 (1 + szOf (firstOf s))).size = szOf (firstOf s) := by rw [ByteArray.size_extract]; omega
  have hsum : IntKind.u64.wrap (240 + 256 * (U (byteOf s 0) - 241) + U (takeN (s.extract 1 s.size) (szOf (firstOf s)))) = U (numV s) := by
    have hv := numV_nat s
    have hb9 : baseOf (firstOf s) = BitVec.ofNat 64 (240 + (firstOf s - 241) * 256) := by unfold baseOf; rw [if_neg (by omega), if_neg (by omega), if_pos (by omega)]
    have e9 : (BitVec.ofNat 64 (240 + (firstOf s - 241) * 256)).toNat = 240 + (firstOf s - 241) * 256 := by rw [BitVec.toNat_ofNat]; exact Nat.mod_eq_of_lt (by omega)
    rw [hb9, e9] at hv
    rw [IntKind.wrap_u64, hU]
    unfold U at *
    omega
  obtain ⟨L, hL⟩ : ∃ L, 1 + szOf (firstOf s) = L := ⟨_, rfl⟩
  have hge : ¬ (s.size : Int) < (L : Int) := by omega
  have hL1 : (1 : Int) ≤ (L : Int) := by omega
  have hL2 : (L : Int) ≤ (s.size : Int) := by omega
  have hL3 : L ≤ s.size := by omega
  have hL4 : 1 ≤ L := by omega
  rw [hL] at hq
  have HC : Hid (∀ W, Calls Tryd.prog 45 #[.int .i64 (U (byteOf s 0))] W fun e w' => e = .returned (.int .i64 (L : Int)) ∧ w' = W) := Lib.hid (fun W => by rw [← hL]; exact refSize_any (firstOf s) hf _ hU W)
  obtain ⟨Q, hQ⟩ : ∃ Q, takeN (s.extract 1 s.size) (szOf (firstOf s)) = Q := ⟨_, rfl⟩
  have HN : Hid (∀ W, Calls Tryd.prog 46 #[.string (s.extract 1 L)] W fun e w' => e = .returned (.int .u64 (U Q)) ∧ w' = W) := Lib.hid (fun W => by
    have h := refNumber_any (s.extract 1 (1 + szOf (firstOf s))) (by omega) W
    rw [hxs, hnum, hQ, hL] at h
    exact h)
  rw [hQ] at hsum
  have HL := Lib.hid (show numL s = L from hL)
  clear hU hf h2 hL hnum hxs hQ hz8
  go_enter Tryd.func32, Tryd.ntmps32
  go_wp2_with fail
  with_reducible refine (HC.out _).mono ?_
  rintro e w1 ⟨rfl, rfl⟩
  go_wp2_with fail
  with_reducible refine (HC.out _).mono ?_
  rintro e w1 ⟨rfl, rfl⟩
  go_wp2_with fail
  with_reducible refine (HN.out _).mono ?_
  rintro e w1 ⟨rfl, rfl⟩
  go_wp2_with fail
  refine wp_region_later w1.heap.size (by kernel_rfl) (by kernel_rfl) ?_
  repeat (go_big_quiet_step ((go_at_call 42; with_reducible exact Calls.later (Nat.le_refl _) (refPut_at (numV s) _ rfl _))))
  refine wpQuiet_nil ?_
  rintro _ ⟨s', rfl⟩
  have HB := Lib.hid s'.below
  go_wp2_with fail
  refine bodyPost_ret (v := .tuple #[.int .u64 0, .string s, .int .i64 21]) (by simp [results, Tryd.results32, go_sem]) rfl ⟨rfl, HB.out⟩

set_option maxRecDepth 100000 in
set_option maxHeartbeats 4000000 in
theorem refGet_bad4 (s : ByteArray) (hs : s.size ≤ 9223372036854775807) (h1 : 1 ≤ s.size) (hcl : firstOf s ≤ 240) (h2 : numL s ≤ s.size) (hq : ((bytesF (numV s)).toList == (s.extract 0 (1 + szOf (firstOf s))).toList) = false) (w : World) :
    Calls Tryd.prog 32 #[.string s] w fun e w' => e = .returned (.tuple #[.int .u64 0, .string s, .int .i64 21]) ∧ Below w.heap.size w w' := by
  have hne : (s.toList == []) = false := by
    rw [beq_eq_false_iff_ne]
    intro h
    have h3 := toList_length s
    rw [h] at h3
    have h4 : s.size = 0 := h3.symm
    omega
  have hne2 : s.toList.isEmpty = false := by
    cases hq : s.toList with
    | nil => rw [hq] at hne; simp at hne
    | cons a b => rfl
  have hk2 : 0 < s.size := by omega
  have hby := byteOf_get s 0 hk2
  have hU : U (byteOf s 0) = (firstOf s : Int) := rfl
  have hf := firstOf_lt s
  have hb0 : 0 ≤ U (byteOf s 0) := by rw [hU]; omega
  have hb1 : U (byteOf s 0) ≤ 255 := by rw [hU]; omega
  unfold numL at h2
  have hz8 := szOf_le _ hf
  have k1 : U (byteOf s 0) ≤ 240 := by rw [hU]; omega
  have hnum : takeN (s.extract 1 (1 + szOf (firstOf s))) (szOf (firstOf s)) = takeN (s.extract 1 s.size) (szOf (firstOf s)) := takeN_congr _ fun j hj => by
    rw [byteOf_extract s 1 _ j (by omega), byteOf_extract s 1 s.size j (by omega)]
  have hxs : (s.extract 1 (1 + szOf (firstOf s))).size = szOf (firstOf s) := by rw [ByteArray.size_extract]; omega
  have hsum : U (byteOf s 0) = U (numV s) := by
    have hv := numV_nat s
    have hb9 : baseOf (firstOf s) = BitVec.ofNat 64 (firstOf s) := by unfold baseOf; rw [if_neg (by omega), if_neg (by omega), if_neg (by omega)]
    have e9 : (BitVec.ofNat 64 (firstOf s)).toNat = firstOf s := by rw [BitVec.toNat_ofNat]; exact Nat.mod_eq_of_lt (by omega)
    have e8 : szOf (firstOf s) = 0 := by unfold szOf; rw [if_neg (by omega), if_neg (by omega), if_neg (by omega)]
    have e7 : (takeN (s.extract 1 s.size) (szOf (firstOf s))).toNat = 0 := by rw [e8]; rfl
    rw [hb9, e9, e7] at hv
    rw [hU]
    unfold U at *
    omega
  obtain ⟨L, hL⟩ : ∃ L, 1 + szOf (firstOf s) = L := ⟨_, rfl⟩
  have hge : ¬ (s.size : Int) < (L : Int) := by omega
  have hL1 : (1 : Int) ≤ (L : Int) := by omega
  have hL2 : (L : Int) ≤ (s.size : Int) := by omega
  have hL3 : L ≤ s.size := by omega
  have hL4 : 1 ≤ L := by omega
  rw [hL] at hq
  have HC : Hid (∀ W, Calls Tryd.prog 45 #[.int .i64 (U (byteOf s 0))] W fun e w' => e = .returned (.int .i64 (L : Int)) ∧ w' = W) := Lib.hid (fun W => by rw [← hL]; exact refSize_any (firstOf s) hf _ hU W)
  obtain ⟨Q, hQ⟩ : ∃ Q, takeN (s.extract 1 s.size) (szOf (firstOf s)) = Q := ⟨_, rfl⟩
  have HN : Hid (∀ W, Calls Tryd.prog 46 #[.string (s.extract 1 L)] W fun e w' => e = .returned (.int .u64 (U Q)) ∧ w' = W) := Lib.hid (fun W => by
    have h := refNumber_any (s.extract 1 (1 + szOf (firstOf s))) (by omega) W
    rw [hxs, hnum, hQ, hL] at h
    exact h)
  have HSum := Lib.hid hsum
  clear hsum
  have HL := Lib.hid (show numL s = L from hL)
  clear hU hf h2 hL hnum hxs hQ hz8
  go_enter Tryd.func32, Tryd.ntmps32
  go_wp2_with fail
  with_reducible refine (HC.out _).mono ?_
  rintro e w1 ⟨rfl, rfl⟩
  go_wp2_with fail
  with_reducible refine (HC.out _).mono ?_
  rintro e w1 ⟨rfl, rfl⟩
  go_wp2_with fail
  with_reducible refine (HN.out _).mono ?_
  rintro e w1 ⟨rfl, rfl⟩
  go_wp2_with fail
  refine wp_region_later w1.heap.size (by kernel_rfl) (by kernel_rfl) ?_
  repeat (go_big_quiet_step ((go_at_call 42; with_reducible exact Calls.later (Nat.le_refl _) (refPut_at (numV s) _ HSum.out _))))
  refine wpQuiet_nil ?_
  rintro _ ⟨s', rfl⟩
  have HB := Lib.hid s'.below
  go_wp2_with fail
  refine bodyPost_ret (v := .tuple #[.int .u64 0, .string s, .int .i64 21]) (by simp [results, Tryd.results32, go_sem]) rfl ⟨rfl, HB.out⟩

set_option maxRecDepth 100000 in
set_option maxHeartbeats 4000000 in
theorem refGet_ok1 (s : ByteArray) (hs : s.size ≤ 9223372036854775807) (h1 : 1 ≤ s.size) (hcl : 250 ≤ firstOf s) (h2 : numL s ≤ s.size) (hq : ((bytesF (numV s)).toList == (s.extract 0 (1 + szOf (firstOf s))).toList) = true) (w : World) :
    Calls Tryd.prog 32 #[.string s] w fun e w' => e = .returned (.tuple #[.int .u64 (U (numV s)), .string (s.extract (numL s) s.size), .int .i64 0]) ∧ Below w.heap.size w w' := by
  have hne : (s.toList == []) = false := by
    rw [beq_eq_false_iff_ne]
    intro h
    have h3 := toList_length s
    rw [h] at h3
    have h4 : s.size = 0 := h3.symm
    omega
  have hne2 : s.toList.isEmpty = false := by
    cases hq : s.toList with
    | nil => rw [hq] at hne; simp at hne
    | cons a b => rfl
  have hk2 : 0 < s.size := by omega
  have hby := byteOf_get s 0 hk2
  have hU : U (byteOf s 0) = (firstOf s : Int) := rfl
  have hf := firstOf_lt s
  have hb0 : 0 ≤ U (byteOf s 0) := by rw [hU]; omega
  have hb1 : U (byteOf s 0) ≤ 255 := by rw [hU]; omega
  unfold numL at h2
  have hz8 := szOf_le _ hf
  have k1 : ¬ U (byteOf s 0) ≤ 240 := by rw [hU]; omega
  have k2 : ¬ U (byteOf s 0) ≤ 248 := by rw [hU]; omega
  have k3 : (U (byteOf s 0) == 249) = false := by rw [beq_eq_false_iff_ne, ne_eq, hU]; omega
  have hnum : takeN (s.extract 1 (1 + szOf (firstOf s))) (szOf (firstOf s)) = takeN (s.extract 1 s.size) (szOf (firstOf s)) := takeN_congr _ fun j hj => by
    rw [byteOf_extract s 1 _ j (by omega), byteOf_extract s 1 s.size j (by omega)]
  have hxs : (s.extract 1 (1 + szOf (firstOf s))).size = szOf (firstOf s) := by rw [ByteArray.size_extract]; omega
  have hsum : U (takeN (s.extract 1 s.size) (szOf (firstOf s))) = U (numV s) := by
    have hv := numV_nat s
    have hb9 : baseOf (firstOf s) = 0#64 := by unfold baseOf; rw [if_pos hcl]
    rw [hb9] at hv
    have e9 : (0#64).toNat = 0 := rfl
    rw [e9] at hv
    unfold U at *
    omega
  obtain ⟨L, hL⟩ : ∃ L, 1 + szOf (firstOf s) = L := ⟨_, rfl⟩
  have hge : ¬ (s.size : Int) < (L : Int) := by omega
  have hL1 : (1 : Int) ≤ (L : Int) := by omega
  have hL2 : (L : Int) ≤ (s.size : Int) := by omega
  have hL3 : L ≤ s.size := by omega
  have hL4 : 1 ≤ L := by omega
  rw [hL] at hq
  have HC : Hid (∀ W, Calls Tryd.prog 45 #[.int .i64 (U (byteOf s 0))] W fun e w' => e = .returned (.int .i64 (L : Int)) ∧ w' = W) := Lib.hid (fun W => by rw [← hL]; exact refSize_any (firstOf s) hf _ hU W)
  obtain ⟨Q, hQ⟩ : ∃ Q, takeN (s.extract 1 s.size) (szOf (firstOf s)) = Q := ⟨_, rfl⟩
  have HN : Hid (∀ W, Calls Tryd.prog 46 #[.string (s.extract 1 L)] W fun e w' => e = .returned (.int .u64 (U Q)) ∧ w' = W) := Lib.hid (fun W => by
    have h := refNumber_any (s.extract 1 (1 + szOf (firstOf s))) (by omega) W
    rw [hxs, hnum, hQ, hL] at h
    exact h)
  rw [hQ] at hsum
  have HL := Lib.hid (show numL s = L from hL)
  clear hU hf h2 hL hnum hxs hQ hz8
  go_enter Tryd.func32, Tryd.ntmps32
  go_wp2_with fail
  with_reducible refine (HC.out _).mono ?_
  rintro e w1 ⟨rfl, rfl⟩
  go_wp2_with fail
  with_reducible refine (HC.out _).mono ?_
  rintro e w1 ⟨rfl, rfl⟩
  go_wp2_with fail
  with_reducible refine (HN.out _).mono ?_
  rintro e w1 ⟨rfl, rfl⟩
  go_wp2_with fail
  refine wp_region_later w1.heap.size (by kernel_rfl) (by kernel_rfl) ?_
  repeat (go_big_quiet_step ((go_at_call 42; with_reducible exact Calls.later (Nat.le_refl _) (refPut_at (numV s) _ rfl _))))
  refine wpQuiet_nil ?_
  rintro _ ⟨s', rfl⟩
  have HB := Lib.hid s'.below
  go_wp2_with fail
  go_quiet (fail)
  go_wp2_with fail
  refine bodyPost_ret (v := .tuple #[.int .u64 (U (numV s)), .string (s.extract L s.size), .int .i64 0]) (by simp [results, Tryd.results32, go_sem]) rfl ⟨by rw [HL.out], dn HB.out _⟩

set_option maxRecDepth 100000 in
set_option maxHeartbeats 4000000 in
theorem refGet_ok2 (s : ByteArray) (hs : s.size ≤ 9223372036854775807) (h1 : 1 ≤ s.size) (hcl : firstOf s = 249) (h2 : numL s ≤ s.size) (hq : ((bytesF (numV s)).toList == (s.extract 0 (1 + szOf (firstOf s))).toList) = true) (w : World) :
    Calls Tryd.prog 32 #[.string s] w fun e w' => e = .returned (.tuple #[.int .u64 (U (numV s)), .string (s.extract (numL s) s.size), .int .i64 0]) ∧ Below w.heap.size w w' := by
  have hne : (s.toList == []) = false := by
    rw [beq_eq_false_iff_ne]
    intro h
    have h3 := toList_length s
    rw [h] at h3
    have h4 : s.size = 0 := h3.symm
    omega
  have hne2 : s.toList.isEmpty = false := by
    cases hq : s.toList with
    | nil => rw [hq] at hne; simp at hne
    | cons a b => rfl
  have hk2 : 0 < s.size := by omega
  have hby := byteOf_get s 0 hk2
  have hU : U (byteOf s 0) = (firstOf s : Int) := rfl
  have hf := firstOf_lt s
  have hb0 : 0 ≤ U (byteOf s 0) := by rw [hU]; omega
  have hb1 : U (byteOf s 0) ≤ 255 := by rw [hU]; omega
  unfold numL at h2
  have hz8 := szOf_le _ hf
  have k1 : ¬ U (byteOf s 0) ≤ 240 := by rw [hU]; omega
  have k2 : ¬ U (byteOf s 0) ≤ 248 := by rw [hU]; omega
  have k3 : (U (byteOf s 0) == 249) = true := by rw [beq_iff_eq, hU]; omega
  have hnum : takeN (s.extract 1 (1 + szOf (firstOf s))) (szOf (firstOf s)) = takeN (s.extract 1 s.size) (szOf (firstOf s)) := takeN_congr _ fun j hj => by
    rw [byteOf_extract s 1 _ j (by omega), byteOf_extract s 1 s.size j (by omega)]
  have hxs : (s.extract 1 (1 + szOf (firstOf s))).size = szOf (firstOf s) := by rw [ByteArray.size_extract]; omega
  have hsum : IntKind.u64.wrap (2288 + U (takeN (s.extract 1 s.size) (szOf (firstOf s)))) = U (numV s) := by
    have hv := numV_nat s
    have hb9 : baseOf (firstOf s) = 2288#64 := by unfold baseOf; rw [if_neg (by omega), if_pos hcl]
    rw [hb9] at hv
    have e9 : (2288#64).toNat = 2288 := rfl
    rw [e9] at hv
    rw [IntKind.wrap_u64]
    unfold U at *
    omega
  obtain ⟨L, hL⟩ : ∃ L, 1 + szOf (firstOf s) = L := ⟨_, rfl⟩
  have hge : ¬ (s.size : Int) < (L : Int) := by omega
  have hL1 : (1 : Int) ≤ (L : Int) := by omega
  have hL2 : (L : Int) ≤ (s.size : Int) := by omega
  have hL3 : L ≤ s.size := by omega
  have hL4 : 1 ≤ L := by omega
  rw [hL] at hq
  have HC : Hid (∀ W, Calls Tryd.prog 45 #[.int .i64 (U (byteOf s 0))] W fun e w' => e = .returned (.int .i64 (L : Int)) ∧ w' = W) := Lib.hid (fun W => by rw [← hL]; exact refSize_any (firstOf s) hf _ hU W)
  obtain ⟨Q, hQ⟩ : ∃ Q, takeN (s.extract 1 s.size) (szOf (firstOf s)) = Q := ⟨_, rfl⟩
  have HN : Hid (∀ W, Calls Tryd.prog 46 #[.string (s.extract 1 L)] W fun e w' => e = .returned (.int .u64 (U Q)) ∧ w' = W) := Lib.hid (fun W => by
    have h := refNumber_any (s.extract 1 (1 + szOf (firstOf s))) (by omega) W
    rw [hxs, hnum, hQ, hL] at h
    exact h)
  rw [hQ] at hsum
  have HL := Lib.hid (show numL s = L from hL)
  clear hU hf h2 hL hnum hxs hQ hz8 hcl
  go_enter Tryd.func32, Tryd.ntmps32
  go_wp2_with fail
  with_reducible refine (HC.out _).mono ?_
  rintro e w1 ⟨rfl, rfl⟩
  go_wp2_with fail
  with_reducible refine (HC.out _).mono ?_
  rintro e w1 ⟨rfl, rfl⟩
  go_wp2_with fail
  with_reducible refine (HN.out _).mono ?_
  rintro e w1 ⟨rfl, rfl⟩
  go_wp2_with fail
  refine wp_region_later w1.heap.size (by kernel_rfl) (by kernel_rfl) ?_
  repeat (go_big_quiet_step ((go_at_call 42; with_reducible exact Calls.later (Nat.le_refl _) (refPut_at (numV s) _ rfl _))))
  refine wpQuiet_nil ?_
  rintro _ ⟨s', rfl⟩
  have HB := Lib.hid s'.below
  go_wp2_with fail
  go_quiet (fail)
  go_wp2_with fail
  refine bodyPost_ret (v := .tuple #[.int .u64 (U (numV s)), .string (s.extract L s.size), .int .i64 0]) (by simp [results, Tryd.results32, go_sem]) rfl ⟨by rw [HL.out], dn HB.out _⟩

set_option maxRecDepth 100000 in
set_option maxHeartbeats 4000000 in
theorem refGet_ok3 (s : ByteArray) (hs : s.size ≤ 9223372036854775807) (h1 : 1 ≤ s.size) (hcl : 241 ≤ firstOf s ∧ firstOf s ≤ 248) (h2 : numL s ≤ s.size) (hq : ((bytesF (numV s)).toList == (s.extract 0 (1 + szOf (firstOf s))).toList) = true) (w : World) :
    Calls Tryd.prog 32 #[.string s] w fun e w' => e = .returned (.tuple #[.int .u64 (U (numV s)), .string (s.extract (numL s) s.size), .int .i64 0]) ∧ Below w.heap.size w w' := by
  have hne : (s.toList == []) = false := by
    rw [beq_eq_false_iff_ne]
    intro h
    have h3 := toList_length s
    rw [h] at h3
    have h4 : s.size = 0 := h3.symm
    omega
  have hne2 : s.toList.isEmpty = false := by
    cases hq : s.toList with
    | nil => rw [hq] at hne; simp at hne
    | cons a b => rfl
  have hk2 : 0 < s.size := by omega
  have hby := byteOf_get s 0 hk2
  have hU : U (byteOf s 0) = (firstOf s : Int) := rfl
  have hf := firstOf_lt s
  have hb0 : 0 ≤ U (byteOf s 0) := by rw [hU]; omega
  have hb1 : U (byteOf s 0) ≤ 255 := by rw [hU]; omega
  unfold numL at h2
  have hz8 := szOf_le _ hf
  have k1 : ¬ U (byteOf s 0) ≤ 240 := by rw [hU]; omega
  have k2 : U (byteOf s 0) ≤ 248 := by rw [hU]; omega
  have k3 : 241 ≤ U (byteOf s 0) := by rw [hU]; omega
  have hnum : takeN (s.extract 1 (1 + szOf (firstOf s))) (szOf (firstOf s)) = takeN (s.extract 1 s.size) (szOf (firstOf s)) := takeN_congr _ fun j hj => by
    rw [byteOf_extract s 1 _ j (by omega), byteOf_extract s 1 s.size j (by omega)]
  have hxs : (s.extract 1 (1 + szOf (firstOf s))).size = szOf (firstOf s) := by rw [ByteArray.size_extract]; omega
  have hsum : IntKind.u64.wrap (240 + 256 * (U (byteOf s 0) - 241) + U (takeN (s.extract 1 s.size) (szOf (firstOf s)))) = U (numV s) := by
    have hv := numV_nat s
    have hb9 : baseOf (firstOf s) = BitVec.ofNat 64 (240 + (firstOf s - 241) * 256) := by unfold baseOf; rw [if_neg (by omega), if_neg (by omega), if_pos (by omega)]
    have e9 : (BitVec.ofNat 64 (240 + (firstOf s - 241) * 256)).toNat = 240 + (firstOf s - 241) * 256 := by rw [BitVec.toNat_ofNat]; exact Nat.mod_eq_of_lt (by omega)
    rw [hb9, e9] at hv
    rw [IntKind.wrap_u64, hU]
    unfold U at *
    omega
  obtain ⟨L, hL⟩ : ∃ L, 1 + szOf (firstOf s) = L := ⟨_, rfl⟩
  have hge : ¬ (s.size : Int) < (L : Int) := by omega
  have hL1 : (1 : Int) ≤ (L : Int) := by omega
  have hL2 : (L : Int) ≤ (s.size : Int) := by omega
  have hL3 : L ≤ s.size := by omega
  have hL4 : 1 ≤ L := by omega
  rw [hL] at hq
  have HC : Hid (∀ W, Calls Tryd.prog 45 #[.int .i64 (U (byteOf s 0))] W fun e w' => e = .returned (.int .i64 (L : Int)) ∧ w' = W) := Lib.hid (fun W => by rw [← hL]; exact refSize_any (firstOf s) hf _ hU W)
  obtain ⟨Q, hQ⟩ : ∃ Q, takeN (s.extract 1 s.size) (szOf (firstOf s)) = Q := ⟨_, rfl⟩
  have HN : Hid (∀ W, Calls Tryd.prog 46 #[.string (s.extract 1 L)] W fun e w' => e = .returned (.int .u64 (U Q)) ∧ w' = W) := Lib.hid (fun W => by
    have h := refNumber_any (s.extract 1 (1 + szOf (firstOf s))) (by omega) W
    rw [hxs, hnum, hQ, hL] at h
    exact h)
  rw [hQ] at hsum
  have HL := Lib.hid (show numL s = L from hL)
  clear hU hf h2 hL hnum hxs hQ hz8
  go_enter Tryd.func32, Tryd.ntmps32
  go_wp2_with fail
  with_reducible refine (HC.out _).mono ?_
  rintro e w1 ⟨rfl, rfl⟩
  go_wp2_with fail
  with_reducible refine (HC.out _).mono ?_
  rintro e w1 ⟨rfl, rfl⟩
  go_wp2_with fail
  with_reducible refine (HN.out _).mono ?_
  rintro e w1 ⟨rfl, rfl⟩
  go_wp2_with fail
  refine wp_region_later w1.heap.size (by kernel_rfl) (by kernel_rfl) ?_
  repeat (go_big_quiet_step ((go_at_call 42; with_reducible exact Calls.later (Nat.le_refl _) (refPut_at (numV s) _ rfl _))))
  refine wpQuiet_nil ?_
  rintro _ ⟨s', rfl⟩
  have HB := Lib.hid s'.below
  go_wp2_with fail
  go_quiet (fail)
  go_wp2_with fail
  refine bodyPost_ret (v := .tuple #[.int .u64 (U (numV s)), .string (s.extract L s.size), .int .i64 0]) (by simp [results, Tryd.results32, go_sem]) rfl ⟨by rw [HL.out], dn HB.out _⟩

set_option maxRecDepth 100000 in
set_option maxHeartbeats 4000000 in
theorem refGet_ok4 (s : ByteArray) (hs : s.size ≤ 9223372036854775807) (h1 : 1 ≤ s.size) (hcl : firstOf s ≤ 240) (h2 : numL s ≤ s.size) (hq : ((bytesF (numV s)).toList == (s.extract 0 (1 + szOf (firstOf s))).toList) = true) (w : World) :
    Calls Tryd.prog 32 #[.string s] w fun e w' => e = .returned (.tuple #[.int .u64 (U (numV s)), .string (s.extract (numL s) s.size), .int .i64 0]) ∧ Below w.heap.size w w' := by
  have hne : (s.toList == []) = false := by
    rw [beq_eq_false_iff_ne]
    intro h
    have h3 := toList_length s
    rw [h] at h3
    have h4 : s.size = 0 := h3.symm
    omega
  have hne2 : s.toList.isEmpty = false := by
    cases hq : s.toList with
    | nil => rw [hq] at hne; simp at hne
    | cons a b => rfl
  have hk2 : 0 < s.size := by omega
  have hby := byteOf_get s 0 hk2
  have hU : U (byteOf s 0) = (firstOf s : Int) := rfl
  have hf := firstOf_lt s
  have hb0 : 0 ≤ U (byteOf s 0) := by rw [hU]; omega
  have hb1 : U (byteOf s 0) ≤ 255 := by rw [hU]; omega
  unfold numL at h2
  have hz8 := szOf_le _ hf
  have k1 : U (byteOf s 0) ≤ 240 := by rw [hU]; omega
  have hnum : takeN (s.extract 1 (1 + szOf (firstOf s))) (szOf (firstOf s)) = takeN (s.extract 1 s.size) (szOf (firstOf s)) := takeN_congr _ fun j hj => by
    rw [byteOf_extract s 1 _ j (by omega), byteOf_extract s 1 s.size j (by omega)]
  have hxs : (s.extract 1 (1 + szOf (firstOf s))).size = szOf (firstOf s) := by rw [ByteArray.size_extract]; omega
  have hsum : U (byteOf s 0) = U (numV s) := by
    have hv := numV_nat s
    have hb9 : baseOf (firstOf s) = BitVec.ofNat 64 (firstOf s) := by unfold baseOf; rw [if_neg (by omega), if_neg (by omega), if_neg (by omega)]
    have e9 : (BitVec.ofNat 64 (firstOf s)).toNat = firstOf s := by rw [BitVec.toNat_ofNat]; exact Nat.mod_eq_of_lt (by omega)
    have e8 : szOf (firstOf s) = 0 := by unfold szOf; rw [if_neg (by omega), if_neg (by omega), if_neg (by omega)]
    have e7 : (takeN (s.extract 1 s.size) (szOf (firstOf s))).toNat = 0 := by rw [e8]; rfl
    rw [hb9, e9, e7] at hv
    rw [hU]
    unfold U at *
    omega
  obtain ⟨L, hL⟩ : ∃ L, 1 + szOf (firstOf s) = L := ⟨_, rfl⟩
  have hge : ¬ (s.size : Int) < (L : Int) := by omega
  have hL1 : (1 : Int) ≤ (L : Int) := by omega
  have hL2 : (L : Int) ≤ (s.size : Int) := by omega
  have hL3 : L ≤ s.size := by omega
  have hL4 : 1 ≤ L := by omega
  rw [hL] at hq
  have HC : Hid (∀ W, Calls Tryd.prog 45 #[.int .i64 (U (byteOf s 0))] W fun e w' => e = .returned (.int .i64 (L : Int)) ∧ w' = W) := Lib.hid (fun W => by rw [← hL]; exact refSize_any (firstOf s) hf _ hU W)
  obtain ⟨Q, hQ⟩ : ∃ Q, takeN (s.extract 1 s.size) (szOf (firstOf s)) = Q := ⟨_, rfl⟩
  have HN : Hid (∀ W, Calls Tryd.prog 46 #[.string (s.extract 1 L)] W fun e w' => e = .returned (.int .u64 (U Q)) ∧ w' = W) := Lib.hid (fun W => by
    have h := refNumber_any (s.extract 1 (1 + szOf (firstOf s))) (by omega) W
    rw [hxs, hnum, hQ, hL] at h
    exact h)
  have HSum := Lib.hid hsum
  clear hsum
  have HL := Lib.hid (show numL s = L from hL)
  clear hU hf h2 hL hnum hxs hQ hz8
  go_enter Tryd.func32, Tryd.ntmps32
  go_wp2_with fail
  with_reducible refine (HC.out _).mono ?_
  rintro e w1 ⟨rfl, rfl⟩
  go_wp2_with fail
  with_reducible refine (HC.out _).mono ?_
  rintro e w1 ⟨rfl, rfl⟩
  go_wp2_with fail
  with_reducible refine (HN.out _).mono ?_
  rintro e w1 ⟨rfl, rfl⟩
  go_wp2_with fail
  refine wp_region_later w1.heap.size (by kernel_rfl) (by kernel_rfl) ?_
  repeat (go_big_quiet_step ((go_at_call 42; with_reducible exact Calls.later (Nat.le_refl _) (refPut_at (numV s) _ HSum.out _))))
  refine wpQuiet_nil ?_
  rintro _ ⟨s', rfl⟩
  have HB := Lib.hid s'.below
  go_wp2_with fail
  go_quiet (fail)
  go_wp2_with fail
  refine bodyPost_ret (v := .tuple #[.int .u64 (U (byteOf s 0)), .string (s.extract L s.size), .int .i64 0]) (by simp [results, Tryd.results32, go_sem]) rfl ⟨by rw [HL.out, ← HSum.out], dn HB.out _⟩

theorem refGet_any (s : ByteArray) (hs : s.size ≤ 9223372036854775807) (w : World) :
    Calls Tryd.prog 32 #[.string s] w fun e w' => e = .returned (.tuple #[.int .u64 (U (getN s)), .string (getR s), .int .i64 (numE s)]) ∧ Below w.heap.size w w' := by
  have hf := firstOf_lt s
  by_cases h0 : s.size = 0
  · have he : numE s = 20 := by unfold numE; rw [if_pos h0]
    have hn : getN s = 0#64 := by unfold getN; rw [if_neg (by omega)]
    have hr : getR s = s := by unfold getR; rw [if_neg (by omega)]
    rw [hn, hr, he]
    exact refGet_empty s h0 w
  by_cases h2 : s.size < numL s
  · have he : numE s = 20 := by unfold numE; rw [if_neg h0, if_pos h2]
    have hn : getN s = 0#64 := by unfold getN; rw [if_neg (by omega)]
    have hr : getR s = s := by unfold getR; rw [if_neg (by omega)]
    rw [hn, hr, he]
    exact refGet_short s hs (by omega) h2 w
  by_cases h : bytesF (numV s) = s.extract 0 (numL s)
  · have he : numE s = 0 := by unfold numE; rw [if_neg h0, if_neg h2, if_pos h]
    have hn : getN s = numV s := by unfold getN; rw [if_pos he]
    have hr : getR s = s.extract (numL s) s.size := by unfold getR; rw [if_pos he]
    rw [hn, hr, he]
    have hq : ((bytesF (numV s)).toList == (s.extract 0 (1 + szOf (firstOf s))).toList) = true := by
      rw [toList_beq, decide_eq_true_iff]
      exact h
    by_cases c1 : 250 ≤ firstOf s
    · exact refGet_ok1 s hs (by omega) c1 (by omega) hq w
    by_cases c2 : firstOf s = 249
    · exact refGet_ok2 s hs (by omega) c2 (by omega) hq w
    by_cases c3 : 241 ≤ firstOf s
    · exact refGet_ok3 s hs (by omega) ⟨c3, by omega⟩ (by omega) hq w
    · exact refGet_ok4 s hs (by omega) (by omega) (by omega) hq w
  · have he : numE s = 21 := by unfold numE; rw [if_neg h0, if_neg h2, if_neg h]
    have hn : getN s = 0#64 := by unfold getN; rw [if_neg (by omega)]
    have hr : getR s = s := by unfold getR; rw [if_neg (by omega)]
    rw [hn, hr, he]
    have hq : ((bytesF (numV s)).toList == (s.extract 0 (1 + szOf (firstOf s))).toList) = false := by
      rw [toList_beq, decide_eq_false_iff_not]
      exact h
    by_cases c1 : 250 ≤ firstOf s
    · exact refGet_bad1 s hs (by omega) c1 (by omega) hq w
    by_cases c2 : firstOf s = 249
    · exact refGet_bad2 s hs (by omega) c2 (by omega) hq w
    by_cases c3 : 241 ≤ firstOf s
    · exact refGet_bad3 s hs (by omega) ⟨c3, by omega⟩ (by omega) hq w
    · exact refGet_bad4 s hs (by omega) (by omega) (by omega) hq w
end Go.Proofs.YtpekedldoplmmaaDoor
