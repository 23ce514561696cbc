/-
  PutText of package field; what is shown; a text cut; Least of the reference.
-/
import Derived.Test.YtbibnfchmffhaaaDoorFldK
import Derived.Test.YtbibnfchmffhaaaDoorFldG
namespace Go.Proofs.YtbibnfchmffhaaaDoor
open Go.RowKit Go.Lib

theorem beGo_len (n : BitVec 64) (k : Nat) : (beGo n k).length = k := beGo_length n k
theorem putF_len (n : BitVec 64) : 1 ≤ (putF n).length ∧ (putF n).length ≤ 9 := by
  have h8 : longSize n ≤ 8 := longGo_le n 5 3 (by omega)
  unfold putF putL
  (repeat' split) <;> simp only [List.length_cons, beGo_length] <;> omega
theorem bytesF_size (n : BitVec 64) : 1 ≤ (bytesF n).size ∧ (bytesF n).size ≤ 9 := by
  have h := putF_len n
  have e : (bytesF n).size = (putF n).length := by simp [bytesF, ByteArray.size]
  rw [e]
  exact h

theorem ret_str {a b : ByteArray} (h : a = b) : Ending.returned (.string a) = .returned (.string b) := by rw [h]
theorem ret_int {k : IntKind} {a b : Int} (h : a = b) : Ending.returned (.int k a) = .returned (.int k b) := by rw [h]
/-- A text's bytes. -/
def textF (s : ByteArray) : ByteArray := bytesF (BitVec.ofNat 64 s.size) ++ s
set_option maxRecDepth 100000 in
theorem PutText_ok (s : ByteArray) (hs : s.size ≤ 400) (w : World) : Calls Tryd.prog 18 #[.string s] w fun e w' => e = .returned (.tuple #[.string (textF s), .int .i64 0]) ∧ Below w.heap.size w w' := by
  have hb := bytesF_size (BitVec.ofNat 64 s.size)
  have hu : (s.size : Int) = U (BitVec.ofNat 64 s.size) := by unfold U; rw [BitVec.toNat_ofNat, Nat.mod_eq_of_lt (by omega)]
  have hg : ¬ (400 : Int) < (s.size : Int) := by omega
  have hg2 : (s.size : Int) ≤ 400 := by omega
  have HC := Lib.hid (fun W => Put_at (BitVec.ofNat 64 s.size) _ hu W)
  have HT : Hid (bytesF (BitVec.ofNat 64 s.size) ++ s = textF s) := Lib.hid rfl
  obtain ⟨T, hT⟩ : ∃ T, bytesF (BitVec.ofNat 64 s.size) = T := ⟨_, rfl⟩
  rw [hT] at hb HC HT
  have hc : T.size + s.size ≤ 9223372036854775807 := by omega
  clear hu hT
  go_enter Tryd.func18, Tryd.ntmps18
  go_wp2_with fail
  with_reducible refine (HC.out _).mono ?_
  rintro e w1 ⟨rfl, hB⟩
  go_wp2_with fail
  refine bodyPost_ret (v := .tuple #[.string (T ++ s), .int .i64 0]) (by simp [results, Tryd.results18, go_sem]) rfl ⟨by rw [HT.out], hB⟩
set_option maxRecDepth 100000 in
theorem PutText_long (s : ByteArray) (hs : 400 < s.size) (w : World) : Calls Tryd.prog 18 #[.string s] w fun e w' => e = .returned (.tuple #[.string ⟨#[]⟩, .int .i64 21]) ∧ w' = w := by
  have hg : (400 : Int) < (s.size : Int) := by omega
  go_enter Tryd.func18, Tryd.ntmps18
  go_wp2_with fail
  refine bodyPost_ret (v := .tuple #[.string ⟨#[]⟩, .int .i64 21]) (by simp [results, Tryd.results18, go_sem]) rfl ⟨rfl, rfl⟩

/-- The first three thousand bytes. -/
def cutS (s : ByteArray) : ByteArray := s.extract 0 (min s.size 3000)
theorem cutS_size (s : ByteArray) : (cutS s).size ≤ 3000 := by unfold cutS; rw [ByteArray.size_extract]; omega
set_option maxRecDepth 100000 in
theorem cut_any (s : ByteArray) (hs : s.size ≤ 9223372036854775807) (w : World) : Calls Tryd.prog 12 #[.string s] w fun e w' => e = .returned (.string (cutS s)) ∧ w' = w := by
  by_cases h : 3000 < s.size
  · have h1 : (3000 : Int) < (s.size : Int) := by omega
    have HE : Hid (s.extract 0 3000 = cutS s) := Lib.hid (by unfold cutS; rw [Nat.min_eq_right (by omega)])
    go_enter Tryd.func12, Tryd.ntmps12
    go_wp2_with fail
    go_ret
    exact ⟨ret_str HE.out, rfl⟩
  · have h1 : ¬ (3000 : Int) < (s.size : Int) := by omega
    have HE : Hid (s = cutS s) := Lib.hid (by unfold cutS; rw [Nat.min_eq_left (by omega), ByteArray.extract_zero_size])
    go_enter Tryd.func12, Tryd.ntmps12
    go_wp2_with fail
    go_ret
    exact ⟨ret_str HE.out, rfl⟩

theorem compare_drop (a b : List UInt8) : ∀ k, k ≤ a.length → k ≤ b.length → a.take k = b.take k → compareBytes a b = compareBytes (a.drop k) (b.drop k) := by
  intro k
  induction k generalizing a b with
  | zero => intros; rfl
  | succ k ih =>
    intro h1 h2 h
    cases a with
    | nil => simp at h1
    | cons x a =>
      cases b with
      | nil => simp at h2
      | cons y b =>
        simp only [List.take_succ_cons, List.cons.injEq] at h
        obtain ⟨rfl, h⟩ := h
        simp only [List.drop_succ_cons]
        rw [← ih a b (by simpa using h1) (by simpa using h2) h]
        rw [compareBytes]
        rw [if_neg (by simp), if_neg (by simp)]
theorem byteOf_list (s : ByteArray) (k : Nat) (h : k < s.size) : ∃ x : UInt8, s.data.toList[k]? = some x ∧ U (byteOf s k) = (x.toNat : Int) := by
  have h2 : k < s.data.toList.length := by simpa using h
  refine ⟨s.data.toList[k], List.getElem?_eq_getElem h2, ?_⟩
  unfold byteOf U
  rw [List.getD_eq_getElem?_getD, List.getElem?_eq_getElem h2, BitVec.toNat_ofNat]
  have := (s.data.toList[k]).toNat_lt
  rw [Option.getD_some]
  omega
theorem drop_at {l : List UInt8} {k : Nat} {x : UInt8} (h : l[k]? = some x) : l.drop k = x :: l.drop (k + 1) := by
  obtain ⟨hk, e⟩ := List.getElem?_eq_some_iff.1 h
  rw [List.drop_eq_getElem_cons hk, e]

set_option maxRecDepth 100000 in
set_option maxHeartbeats 4000000 in
theorem refLeast_any (s t : ByteArray) (hs : s.size ≤ 9223372036854775807) (ht : t.size ≤ 9223372036854775807) (w : World) : Calls Tryd.prog 17 #[.string s, .string t] w fun e w' => e = .returned (.int .i64 (compareBytes s.data.toList t.data.toList)) ∧ Below w.heap.size w w' := by
  obtain ⟨N, hN⟩ : ∃ N, s.size = N := ⟨_, rfl⟩
  obtain ⟨M, hM⟩ : ∃ M, t.size = M := ⟨_, rfl⟩
  have hs2 : N ≤ 9223372036854775807 := by omega
  have ht2 : M ≤ 9223372036854775807 := by omega
  have hls : s.data.toList.length = N := by rw [← hN]; rfl
  have hlt : t.data.toList.length = M := by rw [← hM]; rfl
  have HLs := Lib.hid hls
  have HLt := Lib.hid hlt
  clear hls hlt
  go_enter Tryd.func17, Tryd.ntmps17
  go_wp2_with fail
  go_loopw [5] (fun i wr => ∃ k : Nat, k ≤ N ∧ k ≤ M ∧ i = .int .i64 k ∧ Hid (s.data.toList.take k = t.data.toList.take k) ∧ Below w.heap.size w wr) (fun i _ => N - (intOf i).toNat)
  case atStart => exact ⟨0, Nat.zero_le _, Nat.zero_le _, rfl, Lib.hid rfl, Below.refl _ w⟩
  case round =>
    obtain ⟨k, hk, hkM, rfl, HT, hB⟩ := hrel
    have hcd := compare_drop s.data.toList t.data.toList k (by rw [HLs.out]; exact hk) (by rw [HLt.out]; exact hkM) HT.out
    have HCd := Lib.hid hcd
    clear hcd
    by_cases h1 : k < N
    · by_cases h2 : k < M
      · have hk2 : k < s.size := by omega
        have hk3 : k < t.size := by omega
        have hby := byteOf_get s k hk2
        have hbz := byteOf_get t k hk3
        obtain ⟨x, hx, hxu⟩ := byteOf_list s k hk2
        obtain ⟨y, hy, hyu⟩ := byteOf_list t k hk3
        rw [hxu] at hby
        rw [hyu] at hbz
        have HX := Lib.hid hx
        have HY := Lib.hid hy
        have hi1 : (k : Int) < (s.size : Int) := by omega
        have hi2 : (k : Int) < (t.size : Int) := by omega
        clear hxu hyu hx hy
        by_cases c1 : (x.toNat : Int) < (y.toNat : Int)
        · have HR : Hid (compareBytes s.data.toList t.data.toList = -1) := Lib.hid (by
            rw [HCd.out, drop_at HX.out, drop_at HY.out, compareBytes, if_pos (UInt8.lt_iff_toNat_lt.2 (by omega))])
          have hd : decide ((x.toNat : Int) < (y.toNat : Int)) = true := decide_eq_true c1
          go_wp2_with fail
          go_quiet (fail)
          go_wp2_with fail
          go_ret
          exact ⟨ret_int HR.out.symm, dn hB _⟩
        · have hd : decide ((x.toNat : Int) < (y.toNat : Int)) = false := decide_eq_false c1
          by_cases c2 : (y.toNat : Int) < (x.toNat : Int)
          · have HR : Hid (compareBytes s.data.toList t.data.toList = 1) := Lib.hid (by
              rw [HCd.out, drop_at HX.out, drop_at HY.out, compareBytes, if_neg (fun h => by have := UInt8.lt_iff_toNat_lt.1 h; omega), if_pos (UInt8.lt_iff_toNat_lt.2 (by omega))])
            have hd2 : decide ((y.toNat : Int) < (x.toNat : Int)) = true := decide_eq_true c2
            go_wp2_with fail
            go_quiet (fail)
            go_wp2_with fail
            go_quiet (fail)
            go_wp2_with fail
            go_ret
            exact ⟨ret_int HR.out.symm, dn (dn hB _) _⟩
          · have hd2 : decide ((y.toNat : Int) < (x.toNat : Int)) = false := decide_eq_false c2
            have HR : Hid (s.data.toList.take (k + 1) = t.data.toList.take (k + 1)) := Lib.hid (by
              rw [List.take_add_one, List.take_add_one, HT.out, HX.out, HY.out]
              have e : x = y := UInt8.toNat_inj.1 (by omega)
              rw [e])
            go_wp2_with fail
            go_quiet (fail)
            go_wp2_with fail
            go_quiet (fail)
            go_wp2_with fail
            go_roundw
            case rel => exact ⟨k + 1, by omega, by omega, by go_num, HR, dn hB _⟩
            case measure => simp [intOf]; omega
      · obtain rfl : k = M := by omega
        have HR : Hid (compareBytes s.data.toList t.data.toList = 1) := Lib.hid (by
          obtain ⟨x, hx, -⟩ := byteOf_list s k (by omega)
          rw [HCd.out, drop_at hx, List.drop_of_length_le (l := t.data.toList) (by rw [HLt.out]; exact Nat.le_refl _), compareBytes])
        go_wp2_with fail
        go_ret
        exact ⟨ret_int HR.out.symm, hB⟩
    · obtain rfl : k = N := by omega
      by_cases h2 : k < M
      · have HR : Hid (compareBytes s.data.toList t.data.toList = -1) := Lib.hid (by
          obtain ⟨x, hx, -⟩ := byteOf_list t k (by omega)
          rw [HCd.out, drop_at hx, List.drop_of_length_le (l := s.data.toList) (by rw [HLs.out]; exact Nat.le_refl _), compareBytes])
        go_wp2_with fail
        go_ret
        exact ⟨ret_int HR.out.symm, hB⟩
      · obtain rfl : k = M := by omega
        have HR : Hid (compareBytes s.data.toList t.data.toList = 0) := Lib.hid (by
          rw [HCd.out, List.drop_of_length_le (l := s.data.toList) (by rw [HLs.out]; exact Nat.le_refl _), List.drop_of_length_le (l := t.data.toList) (by rw [HLt.out]; exact Nat.le_refl _), compareBytes])
        go_wp2_with fail
        go_ret
        exact ⟨ret_int HR.out.symm, hB⟩
end Go.Proofs.YtbibnfchmffhaaaDoor
