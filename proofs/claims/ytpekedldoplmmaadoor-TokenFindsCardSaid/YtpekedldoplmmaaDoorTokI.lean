/-
  The check of a token by the reference; a token is read back, plainly. Printed by gen_tok3.py.
-/
import Derived.Test.YtpekedldoplmmaaDoorTokH
import Derived.Test.YtpekedldoplmmaaDoorTokD
import Derived.Test.YtpekedldoplmmaaDoorFldR
namespace Go.Proofs.YtpekedldoplmmaaDoor
open Go.RowKit Go.Shelf

theorem roleU_U (r : BitVec 64) : roleU (U r) = r := by
  apply BitVec.eq_of_toNat_eq
  unfold roleU U
  rw [BitVec.toNat_ofInt]
  have := r.isLt
  omega
theorem takeN_lt (s : ByteArray) : ∀ k, k ≤ 8 → (takeN s k).toNat < 256 ^ k
  | 0, _ => by simp [takeN]
  | k + 1, h => by
    rw [takeN_nat]
    have h1 := takeN_lt s k (by omega)
    have h2 := byteOf_lt s k
    have h3 : 256 ^ (k + 1) = 256 ^ k * 256 := Nat.pow_succ _ _
    have h4 : (256 * (takeN s k).toNat + (byteOf s k).toNat) < 256 ^ (k + 1) := by omega
    exact Nat.lt_of_le_of_lt (Nat.mod_le _ _) h4
theorem takeN_step (s : ByteArray) (k : Nat) (h : k + 1 ≤ 8) : (takeN s (k + 1)).toNat = 256 * (takeN s k).toNat + (byteOf s k).toNat := by
  rw [takeN_nat]
  have h1 := takeN_lt s k (by omega)
  have h2 := byteOf_lt s k
  have h3 : 256 ^ (k + 1) = 256 ^ k * 256 := Nat.pow_succ _ _
  have h4 : 256 ^ (k + 1) ≤ 256 ^ 8 := Nat.pow_le_pow_right (by omega) h
  have h5 : 256 ^ 8 = 18446744073709551616 := by decide
  exact Nat.mod_eq_of_lt (by omega)
theorem takeN_digit (s : ByteArray) : ∀ k, k ≤ 8 → ∀ j, j < k → (takeN s k).toNat / 256 ^ (k - 1 - j) % 256 = (byteOf s j).toNat
  | 0, _, j, h => absurd h (by omega)
  | k + 1, hk, j, h => by
    rw [takeN_step s k hk]
    have hb := byteOf_lt s k
    by_cases e : j = k
    · subst e
      rw [show j + 1 - 1 - j = 0 by omega, Nat.pow_zero, Nat.div_one]
      omega
    · have ih := takeN_digit s k (by omega) j (by omega)
      rw [show k + 1 - 1 - j = (k - 1 - j) + 1 by omega, Nat.pow_succ, Nat.mul_comm (256 ^ (k - 1 - j)) 256, ← Nat.div_div_eq_div_mul]
      rw [show (256 * (takeN s k).toNat + (byteOf s k).toNat) / 256 = (takeN s k).toNat by omega]
      exact ih
theorem eight_take (e : ByteArray) (h : e.size = 8) : eight (takeN e 8) = e := by
  apply ba_ext
  have h1 : (eight (takeN e 8)).data.toList = beGo (takeN e 8) 8 := by simp [eight]
  rw [h1]
  apply List.ext_getElem?
  intro j
  by_cases hj : j < 8
  · rw [beGo_get _ 8 j hj]
    obtain ⟨x, hx, hxu⟩ := by
      have h2 : j < e.data.toList.length := by rw [← size_list]; omega
      exact (⟨e.data.toList[j], List.getElem?_eq_getElem h2, byteOf_nat e j _ (List.getElem?_eq_getElem h2)⟩ : ∃ x : UInt8, e.data.toList[j]? = some x ∧ (byteOf e j).toNat = x.toNat)
    rw [hx]
    congr 1
    apply UInt8.toNat_inj.1
    rw [byte8_nat, takeN_digit e 8 (by omega) j hj, hxu]
  · rw [List.getElem?_eq_none (by rw [beGo_length]; omega), List.getElem?_eq_none (by rw [← size_list]; omega)]
theorem take_eight (n : BitVec 64) : takeN (eight n) 8 = n := by
  apply BitVec.eq_of_toNat_eq
  have h := takeN_val (eight n) n 8 (by omega) (fun j hj => byteOf_nat _ j _ (by
    have h1 : (eight n).data.toList = beGo n 8 := by simp [eight]
    rw [h1, beGo_get n 8 j hj])) 8 (by omega)
  rw [h]
  have := n.isLt
  have e : 256 ^ 8 = 18446744073709551616 := by decide
  rw [e]
  omega
/-- A text that has a claim is that claim's body, and eight bytes. -/
theorem cl_text {s : ByteArray} (h : clB s = true) : s = bodyT (clT s) (clR s) (clU s) ++ clE s := by
  obtain ⟨h0, h1, h2, -, -, -⟩ := clB_true h
  have g0 := put_get s h0
  have g1 := put_get (getR s) h1
  have g2 := put_get (getR (getR s)) h2
  unfold bodyT clT clR clU clE
  rw [ByteArray.append_assoc, ByteArray.append_assoc, g2, g1, g0]
theorem cl_body {s : ByteArray} (h : clB s = true) : s.extract 0 (s.size - 8) = bodyT (clT s) (clR s) (clU s) := by
  obtain ⟨-, -, -, -, -, h5⟩ := clB_true h
  have e := cl_text h
  generalize bodyT (clT s) (clR s) (clU s) = B at *
  generalize clE s = E at *
  subst e
  rw [ByteArray.size_append, h5, Nat.add_sub_cancel, extract_left]
theorem append_inj_right {a b c : ByteArray} (h : a ++ b = a ++ c) : b = c := by
  apply ba_ext
  have h2 := congrArg (fun x : ByteArray => x.data.toList) h
  simp only [append_list] at h2
  exact List.append_cancel_left h2
/-- A text is the token of its claim just where its last eight bytes are the sum. -/
theorem tok_iff (a b : BitVec 64) {s : ByteArray} (h : clB s = true) : (tokT a b (clT s) (clR s) (clU s) = s) ↔ sumB a b s = true := by
  obtain ⟨-, -, -, -, -, h5⟩ := clB_true h
  have e := cl_text h
  have e2 := cl_body h
  unfold sumB
  rw [decide_eq_true_iff, e2]
  unfold tokT
  constructor
  · intro k
    rw [e] at k
    have k2 : eight (sumT a b (bodyT (clT s) (clR s) (clU s))) = clE s := by
      have k3 : bodyT (clT s) (clR s) (clU s) ++ eight (sumT a b (bodyT (clT s) (clR s) (clU s))) = bodyT (clT s) (clR s) (clU s) ++ clE s := by
        rw [← e]
        rw [← e] at k
        exact k
      exact append_inj_right k3
    rw [← k2, take_eight]
  · intro k
    rw [k, eight_take _ h5]
    exact e.symm
/-- A claim's token has that claim. -/
theorem tok_claim (t r u : BitVec 64) (h1 : 1 ≤ r.toNat) (h2 : r.toNat ≤ 3) (e : ByteArray) (he : e.size = 8) : clB (bodyT t r u ++ e) = true ∧ clT (bodyT t r u ++ e) = t ∧ clR (bodyT t r u ++ e) = r ∧ clU (bodyT t r u ++ e) = u ∧ clE (bodyT t r u ++ e) = e := by
  have hx : bodyT t r u ++ e = bytesF t ++ (bytesF r ++ (bytesF u ++ e)) := by unfold bodyT; rw [ByteArray.append_assoc, ByteArray.append_assoc]
  obtain ⟨a1, a2, a3⟩ := get_put t (bytesF r ++ (bytesF u ++ e))
  obtain ⟨b1, b2, b3⟩ := get_put r (bytesF u ++ e)
  obtain ⟨c1, c2, c3⟩ := get_put u e
  have hT : clT (bodyT t r u ++ e) = t := by unfold clT; rw [hx, a1]
  have hR : clR (bodyT t r u ++ e) = r := by unfold clR; rw [hx, a2, b1]
  have hU : clU (bodyT t r u ++ e) = u := by unfold clU; rw [hx, a2, b2, c1]
  have hE : clE (bodyT t r u ++ e) = e := by unfold clE; rw [hx, a2, b2, c2]
  refine ⟨clB_of ⟨by rw [hx]; exact a3, by rw [hx, a2]; exact b3, by rw [hx, a2, b2]; exact c3, by rw [hR]; exact h1, by rw [hR]; exact h2, by rw [hE]; exact he⟩, hT, hR, hU, hE⟩

set_option maxRecDepth 100000 in
set_option maxHeartbeats 8000000 in
theorem refBody_bad0 (s : ByteArray) (hs : s.size ≤ 9223372036854775807) (h0 : numE s ≠ 0) (w : World) :
    Calls Tryd.prog 17 #[.string s] w fun e w' => e = .returned (.tuple #[.agg #[.int .u64 0, .int .i64 0, .int .u64 0], .bool false]) ∧ Below w.heap.size w w' := by
  have hRs := getR_size s
  have hRs2 := getR_size (getR s)
  have H0 := Lib.hid (fun W => refGet_any s hs W)
  have H1 := Lib.hid (fun W => refGet_any (getR s) (by omega) W)
  have H2 := Lib.hid (fun W => refGet_any (getR (getR s)) (by omega) W)
  have n0 : (numE s != 0) = true := by rw [bne_iff_ne]; exact h0
  clear h0 hRs hRs2
  have eT : getN s = clT s := rfl
  have eR : getN (getR s) = clR s := rfl
  have eU : getN (getR (getR s)) = clU s := rfl
  have eE : getR (getR (getR s)) = clE s := rfl
  rw [eT] at H0
  rw [eR] at H1
  rw [eU, eE] at H2
  clear eT eR eU eE
  go_enter Tryd.func17, Tryd.ntmps17
  go_wp2_with fail
  with_reducible refine (H0.out _).mono ?_
  rintro e w1 ⟨rfl, hB1⟩
  have q0 : (w.alloc (.cells #[.int .u64 0, .int .i64 0, .int .u64 0] 26)).heap[w.heap.size]? = some (.cells #[.int .u64 0, .int .i64 0, .int .u64 0] 26 (0, 0)) := new_at w _ _ rfl
  have hBa : Below w.heap.size w (w.alloc (.cells #[.int .u64 0, .int .i64 0, .int .u64 0] 26)) := (Below.refl _ w).alloc (Nat.le_refl _) _
  have q1 := (hB1.block _ (Array.getElem?_eq_some_iff.1 q0).1).trans q0
  have Q1 := Lib.hid q1
  have HB1 := Lib.hid (hBa.trans (hB1.mono hBa.size))
  clear hB1 q0 hBa q1
  go_wp2_with fail
  with_reducible refine (H1.out _).mono ?_
  rintro e w2 ⟨rfl, hB2⟩
  have Q2 := Lib.hid ((hB2.block _ (Array.getElem?_eq_some_iff.1 Q1.out).1).trans Q1.out)
  have HB2 := Lib.hid (HB1.out.trans (hB2.mono HB1.out.size))
  clear hB2
  go_wp2_with fail
  with_reducible refine (H2.out _).mono ?_
  rintro e w3 ⟨rfl, hB3⟩
  have kq := (hB3.block _ (Array.getElem?_eq_some_iff.1 Q2.out).1).trans Q2.out
  have HB3 := Lib.hid (HB2.out.trans (hB3.mono HB2.out.size))
  have g0 := cell_at kq 0
  have g1 := cell_at kq 1
  have g2 := cell_at kq 2
  have f0 := frz_at kq 0
  have f1 := frz_at kq 1
  have f2 := frz_at kq 2
  clear hB3 kq
  go_wp2_with fail
  refine bodyPost_ret (v := .tuple #[.agg #[.int .u64 0, .int .i64 0, .int .u64 0], .bool false]) (by simp [results, Tryd.results17, go_sem, g0, g1, g2]) rfl ⟨rfl, ?_⟩
  exact ((HB3.out.setCell (by show w.heap.size ≤ w.heap.size; omega) _).setCell (by show w.heap.size ≤ w.heap.size; omega) _).setCell (by show w.heap.size ≤ w.heap.size; omega) _

set_option maxRecDepth 100000 in
set_option maxHeartbeats 8000000 in
theorem refBody_bad1 (s : ByteArray) (hs : s.size ≤ 9223372036854775807) (h0 : numE s = 0) (h1 : numE (getR s) ≠ 0) (w : World) :
    Calls Tryd.prog 17 #[.string s] w fun e w' => e = .returned (.tuple #[.agg #[.int .u64 0, .int .i64 0, .int .u64 0], .bool false]) ∧ Below w.heap.size w w' := by
  have hRs := getR_size s
  have hRs2 := getR_size (getR s)
  have H0 := Lib.hid (fun W => refGet_any s hs W)
  have H1 := Lib.hid (fun W => refGet_any (getR s) (by omega) W)
  have H2 := Lib.hid (fun W => refGet_any (getR (getR s)) (by omega) W)
  have n0 : (numE s != 0) = false := by rw [h0]; rfl
  have n1 : (numE (getR s) != 0) = true := by rw [bne_iff_ne]; exact h1
  clear h0 h1 hRs hRs2
  have eT : getN s = clT s := rfl
  have eR : getN (getR s) = clR s := rfl
  have eU : getN (getR (getR s)) = clU s := rfl
  have eE : getR (getR (getR s)) = clE s := rfl
  rw [eT] at H0
  rw [eR] at H1
  rw [eU, eE] at H2
  clear eT eR eU eE
  go_enter Tryd.func17, Tryd.ntmps17
  go_wp2_with fail
  with_reducible refine (H0.out _).mono ?_
  rintro e w1 ⟨rfl, hB1⟩
  have q0 : (w.alloc (.cells #[.int .u64 0, .int .i64 0, .int .u64 0] 26)).heap[w.heap.size]? = some (.cells #[.int .u64 0, .int .i64 0, .int .u64 0] 26 (0, 0)) := new_at w _ _ rfl
  have hBa : Below w.heap.size w (w.alloc (.cells #[.int .u64 0, .int .i64 0, .int .u64 0] 26)) := (Below.refl _ w).alloc (Nat.le_refl _) _
  have q1 := (hB1.block _ (Array.getElem?_eq_some_iff.1 q0).1).trans q0
  have Q1 := Lib.hid q1
  have HB1 := Lib.hid (hBa.trans (hB1.mono hBa.size))
  clear hB1 q0 hBa q1
  go_wp2_with fail
  with_reducible refine (H1.out _).mono ?_
  rintro e w2 ⟨rfl, hB2⟩
  have Q2 := Lib.hid ((hB2.block _ (Array.getElem?_eq_some_iff.1 Q1.out).1).trans Q1.out)
  have HB2 := Lib.hid (HB1.out.trans (hB2.mono HB1.out.size))
  clear hB2
  go_wp2_with fail
  with_reducible refine (H2.out _).mono ?_
  rintro e w3 ⟨rfl, hB3⟩
  have kq := (hB3.block _ (Array.getElem?_eq_some_iff.1 Q2.out).1).trans Q2.out
  have HB3 := Lib.hid (HB2.out.trans (hB3.mono HB2.out.size))
  have g0 := cell_at kq 0
  have g1 := cell_at kq 1
  have g2 := cell_at kq 2
  have f0 := frz_at kq 0
  have f1 := frz_at kq 1
  have f2 := frz_at kq 2
  clear hB3 kq
  go_wp2_with fail
  refine bodyPost_ret (v := .tuple #[.agg #[.int .u64 0, .int .i64 0, .int .u64 0], .bool false]) (by simp [results, Tryd.results17, go_sem, g0, g1, g2]) rfl ⟨rfl, ?_⟩
  exact ((HB3.out.setCell (by show w.heap.size ≤ w.heap.size; omega) _).setCell (by show w.heap.size ≤ w.heap.size; omega) _).setCell (by show w.heap.size ≤ w.heap.size; omega) _

set_option maxRecDepth 100000 in
set_option maxHeartbeats 8000000 in
theorem refBody_bad2 (s : ByteArray) (hs : s.size ≤ 9223372036854775807) (h0 : numE s = 0) (h1 : numE (getR s) = 0) (h2 : numE (getR (getR s)) ≠ 0) (w : World) :
    Calls Tryd.prog 17 #[.string s] w fun e w' => e = .returned (.tuple #[.agg #[.int .u64 0, .int .i64 0, .int .u64 0], .bool false]) ∧ Below w.heap.size w w' := by
  have hRs := getR_size s
  have hRs2 := getR_size (getR s)
  have H0 := Lib.hid (fun W => refGet_any s hs W)
  have H1 := Lib.hid (fun W => refGet_any (getR s) (by omega) W)
  have H2 := Lib.hid (fun W => refGet_any (getR (getR s)) (by omega) W)
  have n0 : (numE s != 0) = false := by rw [h0]; rfl
  have n1 : (numE (getR s) != 0) = false := by rw [h1]; rfl
  have n2 : (numE (getR (getR s)) != 0) = true := by rw [bne_iff_ne]; exact h2
  clear h0 h1 h2 hRs hRs2
  have eT : getN s = clT s := rfl
  have eR : getN (getR s) = clR s := rfl
  have eU : getN (getR (getR s)) = clU s := rfl
  have eE : getR (getR (getR s)) = clE s := rfl
  rw [eT] at H0
  rw [eR] at H1
  rw [eU, eE] at H2
  clear eT eR eU eE
  go_enter Tryd.func17, Tryd.ntmps17
  go_wp2_with fail
  with_reducible refine (H0.out _).mono ?_
  rintro e w1 ⟨rfl, hB1⟩
  have q0 : (w.alloc (.cells #[.int .u64 0, .int .i64 0, .int .u64 0] 26)).heap[w.heap.size]? = some (.cells #[.int .u64 0, .int .i64 0, .int .u64 0] 26 (0, 0)) := new_at w _ _ rfl
  have hBa : Below w.heap.size w (w.alloc (.cells #[.int .u64 0, .int .i64 0, .int .u64 0] 26)) := (Below.refl _ w).alloc (Nat.le_refl _) _
  have q1 := (hB1.block _ (Array.getElem?_eq_some_iff.1 q0).1).trans q0
  have Q1 := Lib.hid q1
  have HB1 := Lib.hid (hBa.trans (hB1.mono hBa.size))
  clear hB1 q0 hBa q1
  go_wp2_with fail
  with_reducible refine (H1.out _).mono ?_
  rintro e w2 ⟨rfl, hB2⟩
  have Q2 := Lib.hid ((hB2.block _ (Array.getElem?_eq_some_iff.1 Q1.out).1).trans Q1.out)
  have HB2 := Lib.hid (HB1.out.trans (hB2.mono HB1.out.size))
  clear hB2
  go_wp2_with fail
  with_reducible refine (H2.out _).mono ?_
  rintro e w3 ⟨rfl, hB3⟩
  have kq := (hB3.block _ (Array.getElem?_eq_some_iff.1 Q2.out).1).trans Q2.out
  have HB3 := Lib.hid (HB2.out.trans (hB3.mono HB2.out.size))
  have g0 := cell_at kq 0
  have g1 := cell_at kq 1
  have g2 := cell_at kq 2
  have f0 := frz_at kq 0
  have f1 := frz_at kq 1
  have f2 := frz_at kq 2
  clear hB3 kq
  go_wp2_with fail
  refine bodyPost_ret (v := .tuple #[.agg #[.int .u64 0, .int .i64 0, .int .u64 0], .bool false]) (by simp [results, Tryd.results17, go_sem, g0, g1, g2]) rfl ⟨rfl, ?_⟩
  exact ((HB3.out.setCell (by show w.heap.size ≤ w.heap.size; omega) _).setCell (by show w.heap.size ≤ w.heap.size; omega) _).setCell (by show w.heap.size ≤ w.heap.size; omega) _

set_option maxRecDepth 100000 in
set_option maxHeartbeats 8000000 in
theorem refBody_lo (s : ByteArray) (hs : s.size ≤ 9223372036854775807) (h0 : numE s = 0) (h1 : numE (getR s) = 0) (h2 : numE (getR (getR s)) = 0) (h3 : (clR s).toNat < 1) (w : World) :
    Calls Tryd.prog 17 #[.string s] w fun e w' => e = .returned (.tuple #[.agg #[.int .u64 0, .int .i64 0, .int .u64 0], .bool false]) ∧ Below w.heap.size w w' := by
  have hRs := getR_size s
  have hRs2 := getR_size (getR s)
  have H0 := Lib.hid (fun W => refGet_any s hs W)
  have H1 := Lib.hid (fun W => refGet_any (getR s) (by omega) W)
  have H2 := Lib.hid (fun W => refGet_any (getR (getR s)) (by omega) W)
  have n0 : (numE s != 0) = false := by rw [h0]; rfl
  have n1 : (numE (getR s) != 0) = false := by rw [h1]; rfl
  have n2 : (numE (getR (getR s)) != 0) = false := by rw [h2]; rfl
  have hU : U (clR s) = ((clR s).toNat : Int) := rfl
  have m1 : U (clR s) < 1 := by omega
  clear h0 h1 h2 h3 hU hRs hRs2
  have eT : getN s = clT s := rfl
  have eR : getN (getR s) = clR s := rfl
  have eU : getN (getR (getR s)) = clU s := rfl
  have eE : getR (getR (getR s)) = clE s := rfl
  rw [eT] at H0
  rw [eR] at H1
  rw [eU, eE] at H2
  clear eT eR eU eE
  go_enter Tryd.func17, Tryd.ntmps17
  go_wp2_with fail
  with_reducible refine (H0.out _).mono ?_
  rintro e w1 ⟨rfl, hB1⟩
  have q0 : (w.alloc (.cells #[.int .u64 0, .int .i64 0, .int .u64 0] 26)).heap[w.heap.size]? = some (.cells #[.int .u64 0, .int .i64 0, .int .u64 0] 26 (0, 0)) := new_at w _ _ rfl
  have hBa : Below w.heap.size w (w.alloc (.cells #[.int .u64 0, .int .i64 0, .int .u64 0] 26)) := (Below.refl _ w).alloc (Nat.le_refl _) _
  have q1 := (hB1.block _ (Array.getElem?_eq_some_iff.1 q0).1).trans q0
  have Q1 := Lib.hid q1
  have HB1 := Lib.hid (hBa.trans (hB1.mono hBa.size))
  clear hB1 q0 hBa q1
  go_wp2_with fail
  with_reducible refine (H1.out _).mono ?_
  rintro e w2 ⟨rfl, hB2⟩
  have Q2 := Lib.hid ((hB2.block _ (Array.getElem?_eq_some_iff.1 Q1.out).1).trans Q1.out)
  have HB2 := Lib.hid (HB1.out.trans (hB2.mono HB1.out.size))
  clear hB2
  go_wp2_with fail
  with_reducible refine (H2.out _).mono ?_
  rintro e w3 ⟨rfl, hB3⟩
  have kq := (hB3.block _ (Array.getElem?_eq_some_iff.1 Q2.out).1).trans Q2.out
  have HB3 := Lib.hid (HB2.out.trans (hB3.mono HB2.out.size))
  have g0 := cell_at kq 0
  have g1 := cell_at kq 1
  have g2 := cell_at kq 2
  have f0 := frz_at kq 0
  have f1 := frz_at kq 1
  have f2 := frz_at kq 2
  clear hB3 kq
  go_wp2_with fail
  refine bodyPost_ret (v := .tuple #[.agg #[.int .u64 0, .int .i64 0, .int .u64 0], .bool false]) (by simp [results, Tryd.results17, go_sem, g0, g1, g2]) rfl ⟨rfl, ?_⟩
  exact ((HB3.out.setCell (by show w.heap.size ≤ w.heap.size; omega) _).setCell (by show w.heap.size ≤ w.heap.size; omega) _).setCell (by show w.heap.size ≤ w.heap.size; omega) _

set_option maxRecDepth 100000 in
set_option maxHeartbeats 8000000 in
theorem refBody_hi (s : ByteArray) (hs : s.size ≤ 9223372036854775807) (h0 : numE s = 0) (h1 : numE (getR s) = 0) (h2 : numE (getR (getR s)) = 0) (h3 : 3 < (clR s).toNat) (w : World) :
    Calls Tryd.prog 17 #[.string s] w fun e w' => e = .returned (.tuple #[.agg #[.int .u64 0, .int .i64 0, .int .u64 0], .bool false]) ∧ Below w.heap.size w w' := by
  have hRs := getR_size s
  have hRs2 := getR_size (getR s)
  have H0 := Lib.hid (fun W => refGet_any s hs W)
  have H1 := Lib.hid (fun W => refGet_any (getR s) (by omega) W)
  have H2 := Lib.hid (fun W => refGet_any (getR (getR s)) (by omega) W)
  have n0 : (numE s != 0) = false := by rw [h0]; rfl
  have n1 : (numE (getR s) != 0) = false := by rw [h1]; rfl
  have n2 : (numE (getR (getR s)) != 0) = false := by rw [h2]; rfl
  have hU : U (clR s) = ((clR s).toNat : Int) := rfl
  have m1 : ¬ U (clR s) < 1 := by omega
  have m2 : 3 < U (clR s) := by omega
  clear h0 h1 h2 h3 hU hRs hRs2
  have eT : getN s = clT s := rfl
  have eR : getN (getR s) = clR s := rfl
  have eU : getN (getR (getR s)) = clU s := rfl
  have eE : getR (getR (getR s)) = clE s := rfl
  rw [eT] at H0
  rw [eR] at H1
  rw [eU, eE] at H2
  clear eT eR eU eE
  go_enter Tryd.func17, Tryd.ntmps17
  go_wp2_with fail
  with_reducible refine (H0.out _).mono ?_
  rintro e w1 ⟨rfl, hB1⟩
  have q0 : (w.alloc (.cells #[.int .u64 0, .int .i64 0, .int .u64 0] 26)).heap[w.heap.size]? = some (.cells #[.int .u64 0, .int .i64 0, .int .u64 0] 26 (0, 0)) := new_at w _ _ rfl
  have hBa : Below w.heap.size w (w.alloc (.cells #[.int .u64 0, .int .i64 0, .int .u64 0] 26)) := (Below.refl _ w).alloc (Nat.le_refl _) _
  have q1 := (hB1.block _ (Array.getElem?_eq_some_iff.1 q0).1).trans q0
  have Q1 := Lib.hid q1
  have HB1 := Lib.hid (hBa.trans (hB1.mono hBa.size))
  clear hB1 q0 hBa q1
  go_wp2_with fail
  with_reducible refine (H1.out _).mono ?_
  rintro e w2 ⟨rfl, hB2⟩
  have Q2 := Lib.hid ((hB2.block _ (Array.getElem?_eq_some_iff.1 Q1.out).1).trans Q1.out)
  have HB2 := Lib.hid (HB1.out.trans (hB2.mono HB1.out.size))
  clear hB2
  go_wp2_with fail
  with_reducible refine (H2.out _).mono ?_
  rintro e w3 ⟨rfl, hB3⟩
  have kq := (hB3.block _ (Array.getElem?_eq_some_iff.1 Q2.out).1).trans Q2.out
  have HB3 := Lib.hid (HB2.out.trans (hB3.mono HB2.out.size))
  have g0 := cell_at kq 0
  have g1 := cell_at kq 1
  have g2 := cell_at kq 2
  have f0 := frz_at kq 0
  have f1 := frz_at kq 1
  have f2 := frz_at kq 2
  clear hB3 kq
  go_wp2_with fail
  refine bodyPost_ret (v := .tuple #[.agg #[.int .u64 0, .int .i64 0, .int .u64 0], .bool false]) (by simp [results, Tryd.results17, go_sem, g0, g1, g2]) rfl ⟨rfl, ?_⟩
  exact ((HB3.out.setCell (by show w.heap.size ≤ w.heap.size; omega) _).setCell (by show w.heap.size ≤ w.heap.size; omega) _).setCell (by show w.heap.size ≤ w.heap.size; omega) _

set_option maxRecDepth 100000 in
set_option maxHeartbeats 8000000 in
theorem refBody_len (s : ByteArray) (hs : s.size ≤ 9223372036854775807) (h0 : numE s = 0) (h1 : numE (getR s) = 0) (h2 : numE (getR (getR s)) = 0) (h3 : 1 ≤ (clR s).toNat) (h4 : (clR s).toNat ≤ 3) (h5 : (clE s).size ≠ 8) (w : World) :
    Calls Tryd.prog 17 #[.string s] w fun e w' => e = .returned (.tuple #[.agg #[.int .u64 0, .int .i64 0, .int .u64 0], .bool false]) ∧ Below w.heap.size w w' := by
  have hRs := getR_size s
  have hRs2 := getR_size (getR s)
  have H0 := Lib.hid (fun W => refGet_any s hs W)
  have H1 := Lib.hid (fun W => refGet_any (getR s) (by omega) W)
  have H2 := Lib.hid (fun W => refGet_any (getR (getR s)) (by omega) W)
  have n0 : (numE s != 0) = false := by rw [h0]; rfl
  have n1 : (numE (getR s) != 0) = false := by rw [h1]; rfl
  have n2 : (numE (getR (getR s)) != 0) = false := by rw [h2]; rfl
  have hU : U (clR s) = ((clR s).toNat : Int) := rfl
  have m1 : ¬ U (clR s) < 1 := by omega
  have m2 : ¬ 3 < U (clR s) := by omega
  have m3 : ((((clE s).size : Nat) : Int) != 8) = true := by rw [bne_iff_ne]; omega
  clear h0 h1 h2 h3 hU h4 h5 hRs hRs2
  have eT : getN s = clT s := rfl
  have eR : getN (getR s) = clR s := rfl
  have eU : getN (getR (getR s)) = clU s := rfl
  have eE : getR (getR (getR s)) = clE s := rfl
  rw [eT] at H0
  rw [eR] at H1
  rw [eU, eE] at H2
  clear eT eR eU eE
  go_enter Tryd.func17, Tryd.ntmps17
  go_wp2_with fail
  with_reducible refine (H0.out _).mono ?_
  rintro e w1 ⟨rfl, hB1⟩
  have q0 : (w.alloc (.cells #[.int .u64 0, .int .i64 0, .int .u64 0] 26)).heap[w.heap.size]? = some (.cells #[.int .u64 0, .int .i64 0, .int .u64 0] 26 (0, 0)) := new_at w _ _ rfl
  have hBa : Below w.heap.size w (w.alloc (.cells #[.int .u64 0, .int .i64 0, .int .u64 0] 26)) := (Below.refl _ w).alloc (Nat.le_refl _) _
  have q1 := (hB1.block _ (Array.getElem?_eq_some_iff.1 q0).1).trans q0
  have Q1 := Lib.hid q1
  have HB1 := Lib.hid (hBa.trans (hB1.mono hBa.size))
  clear hB1 q0 hBa q1
  go_wp2_with fail
  with_reducible refine (H1.out _).mono ?_
  rintro e w2 ⟨rfl, hB2⟩
  have Q2 := Lib.hid ((hB2.block _ (Array.getElem?_eq_some_iff.1 Q1.out).1).trans Q1.out)
  have HB2 := Lib.hid (HB1.out.trans (hB2.mono HB1.out.size))
  clear hB2
  go_wp2_with fail
  with_reducible refine (H2.out _).mono ?_
  rintro e w3 ⟨rfl, hB3⟩
  have kq := (hB3.block _ (Array.getElem?_eq_some_iff.1 Q2.out).1).trans Q2.out
  have HB3 := Lib.hid (HB2.out.trans (hB3.mono HB2.out.size))
  have g0 := cell_at kq 0
  have g1 := cell_at kq 1
  have g2 := cell_at kq 2
  have f0 := frz_at kq 0
  have f1 := frz_at kq 1
  have f2 := frz_at kq 2
  clear hB3 kq
  go_wp2_with fail
  refine bodyPost_ret (v := .tuple #[.agg #[.int .u64 0, .int .i64 0, .int .u64 0], .bool false]) (by simp [results, Tryd.results17, go_sem, g0, g1, g2]) rfl ⟨rfl, ?_⟩
  exact ((HB3.out.setCell (by show w.heap.size ≤ w.heap.size; omega) _).setCell (by show w.heap.size ≤ w.heap.size; omega) _).setCell (by show w.heap.size ≤ w.heap.size; omega) _

set_option maxRecDepth 100000 in
set_option maxHeartbeats 8000000 in
theorem refBody_ok (s : ByteArray) (hs : s.size ≤ 9223372036854775807) (h0 : numE s = 0) (h1 : numE (getR s) = 0) (h2 : numE (getR (getR s)) = 0) (h3 : 1 ≤ (clR s).toNat) (h4 : (clR s).toNat ≤ 3) (h5 : (clE s).size = 8) (w : World) :
    Calls Tryd.prog 17 #[.string s] w fun e w' => e = .returned (.tuple #[.agg #[.int .u64 (U (clT s)), .int .i64 (U (clR s)), .int .u64 (U (clU s))], .bool true]) ∧ Below w.heap.size w w' := by
  have hRs := getR_size s
  have hRs2 := getR_size (getR s)
  have H0 := Lib.hid (fun W => refGet_any s hs W)
  have H1 := Lib.hid (fun W => refGet_any (getR s) (by omega) W)
  have H2 := Lib.hid (fun W => refGet_any (getR (getR s)) (by omega) W)
  have n0 : (numE s != 0) = false := by rw [h0]; rfl
  have n1 : (numE (getR s) != 0) = false := by rw [h1]; rfl
  have n2 : (numE (getR (getR s)) != 0) = false := by rw [h2]; rfl
  have hU : U (clR s) = ((clR s).toNat : Int) := rfl
  have m1 : ¬ U (clR s) < 1 := by omega
  have m2 : ¬ 3 < U (clR s) := by omega
  have m3 : ((((clE s).size : Nat) : Int) != 8) = false := by rw [bne_eq_false_iff_eq]; omega
  have m4 : IntKind.i64.wrap (U (clR s)) = U (clR s) := by rw [IntKind.wrap_i64] <;> omega
  clear h0 h1 h2 h3 hU h4 h5 hRs hRs2
  have eT : getN s = clT s := rfl
  have eR : getN (getR s) = clR s := rfl
  have eU : getN (getR (getR s)) = clU s := rfl
  have eE : getR (getR (getR s)) = clE s := rfl
  rw [eT] at H0
  rw [eR] at H1
  rw [eU, eE] at H2
  clear eT eR eU eE
  go_enter Tryd.func17, Tryd.ntmps17
  go_wp2_with fail
  with_reducible refine (H0.out _).mono ?_
  rintro e w1 ⟨rfl, hB1⟩
  have q0 : (w.alloc (.cells #[.int .u64 0, .int .i64 0, .int .u64 0] 26)).heap[w.heap.size]? = some (.cells #[.int .u64 0, .int .i64 0, .int .u64 0] 26 (0, 0)) := new_at w _ _ rfl
  have hBa : Below w.heap.size w (w.alloc (.cells #[.int .u64 0, .int .i64 0, .int .u64 0] 26)) := (Below.refl _ w).alloc (Nat.le_refl _) _
  have q1 := (hB1.block _ (Array.getElem?_eq_some_iff.1 q0).1).trans q0
  have Q1 := Lib.hid q1
  have HB1 := Lib.hid (hBa.trans (hB1.mono hBa.size))
  clear hB1 q0 hBa q1
  go_wp2_with fail
  with_reducible refine (H1.out _).mono ?_
  rintro e w2 ⟨rfl, hB2⟩
  have Q2 := Lib.hid ((hB2.block _ (Array.getElem?_eq_some_iff.1 Q1.out).1).trans Q1.out)
  have HB2 := Lib.hid (HB1.out.trans (hB2.mono HB1.out.size))
  clear hB2
  go_wp2_with fail
  with_reducible refine (H2.out _).mono ?_
  rintro e w3 ⟨rfl, hB3⟩
  have kq := (hB3.block _ (Array.getElem?_eq_some_iff.1 Q2.out).1).trans Q2.out
  have HB3 := Lib.hid (HB2.out.trans (hB3.mono HB2.out.size))
  have g0 := cell_at kq 0
  have g1 := cell_at kq 1
  have g2 := cell_at kq 2
  have f0 := frz_at kq 0
  have f1 := frz_at kq 1
  have f2 := frz_at kq 2
  clear hB3 kq
  go_wp2_with fail
  refine bodyPost_ret (v := .tuple #[.agg #[.int .u64 (U (clT s)), .int .i64 (U (clR s)), .int .u64 (U (clU s))], .bool true]) (by simp [results, Tryd.results17, go_sem, g0, g1, g2]) rfl ⟨rfl, ?_⟩
  exact ((HB3.out.setCell (by show w.heap.size ≤ w.heap.size; omega) _).setCell (by show w.heap.size ≤ w.heap.size; omega) _).setCell (by show w.heap.size ≤ w.heap.size; omega) _

theorem refBody_no (s : ByteArray) (hs : s.size ≤ 9223372036854775807) (h : clB s = false) (w : World) : Calls Tryd.prog 17 #[.string s] w fun e w' => e = .returned (.tuple #[.agg #[.int .u64 0, .int .i64 0, .int .u64 0], .bool false]) ∧ Below w.heap.size w w' := by
  by_cases h0 : numE s = 0
  · by_cases h1 : numE (getR s) = 0
    · by_cases h2 : numE (getR (getR s)) = 0
      · by_cases h3 : (clR s).toNat < 1
        · exact refBody_lo s hs h0 h1 h2 h3 w
        · by_cases h4 : 3 < (clR s).toNat
          · exact refBody_hi s hs h0 h1 h2 h4 w
          · by_cases h5 : (clE s).size = 8
            · rw [clB_of ⟨h0, h1, h2, by omega, by omega, h5⟩] at h; cases h
            · exact refBody_len s hs h0 h1 h2 (by omega) (by omega) h5 w
      · exact refBody_bad2 s hs h0 h1 h2 w
    · exact refBody_bad1 s hs h0 h1 w
  · exact refBody_bad0 s hs h0 w
theorem refBody_yes (s : ByteArray) (hs : s.size ≤ 9223372036854775807) (h : clB s = true) (w : World) : Calls Tryd.prog 17 #[.string s] w fun e w' => e = .returned (.tuple #[.agg #[.int .u64 (U (clT s)), .int .i64 (U (clR s)), .int .u64 (U (clU s))], .bool true]) ∧ Below w.heap.size w w' := by
  obtain ⟨h0, h1, h2, h3, h4, h5⟩ := clB_true h
  exact refBody_ok s hs h0 h1 h2 h3 h4 h5 w
theorem refBody17_any (s : ByteArray) (hs : s.size ≤ 9223372036854775807) (w : World) : Calls Tryd.prog 17 #[.string s] w fun e w' => e = .returned (.tuple #[.agg #[.int .u64 (U (bT s)), .int .i64 (U (bR s)), .int .u64 (U (bU s))], .bool (clB s)]) ∧ Below w.heap.size w w' := by
  cases h : clB s with
  | false =>
    have e1 : bT s = 0#64 := by unfold bT; rw [h]; rfl
    have e2 : bR s = 0#64 := by unfold bR; rw [h]; rfl
    have e3 : bU s = 0#64 := by unfold bU; rw [h]; rfl
    rw [e1, e2, e3]
    exact refBody_no s hs h w
  | true =>
    have e1 : bT s = clT s := by unfold bT; rw [h]; rfl
    have e2 : bR s = clR s := by unfold bR; rw [h]; rfl
    have e3 : bU s = clU s := by unfold bU; rw [h]; rfl
    rw [e1, e2, e3]
    exact refBody_yes s hs h w

set_option maxRecDepth 100000 in
set_option maxHeartbeats 8000000 in
theorem refCheck_no (a b : BitVec 64) (s : ByteArray) (hs : s.size ≤ 9223372036854775807) (now : BitVec 64) (h : clB s = false) (w : World) :
    Calls Tryd.prog 15 #[.agg #[.int .u64 (U a), .int .u64 (U b)], .string s, .int .u64 (U now)] w fun e w' => e = .returned (.tuple #[.agg #[.int .u64 0, .int .i64 0, .int .u64 0], .int .i64 170]) ∧ Below w.heap.size w w' := by
  have q0 : ((w.alloc (.cells #[.int .u64 (U a), .int .u64 (U b)] 24)).alloc (.cells #[.int .u64 0, .int .i64 0, .int .u64 0] 26)).heap[w.heap.size + 1]? = some (.cells #[.int .u64 0, .int .i64 0, .int .u64 0] 26 (0, 0)) := new_at _ _ _ (by simp)
  have e0 : ((w.alloc (.cells #[.int .u64 (U a), .int .u64 (U b)] 24)).alloc (.cells #[.int .u64 0, .int .i64 0, .int .u64 0] 26)).heap[w.heap.size]? = some (.cells #[.int .u64 (U a), .int .u64 (U b)] 24 (0, 0)) := old_at (new_at _ _ _ rfl)
  have hB0 : Below w.heap.size w ((w.alloc (.cells #[.int .u64 (U a), .int .u64 (U b)] 24)).alloc (.cells #[.int .u64 0, .int .i64 0, .int .u64 0] 26)) := ((Below.refl _ w).alloc (Nat.le_refl _) _).alloc (by simp) _
  have HC := Lib.hid (fun W => refBody_no s hs h W)
  have Q0 := Lib.hid q0
  have E0 := Lib.hid e0
  have B0 := Lib.hid hB0
  have HM := Lib.hid (fun W => refMint_any a b 0#64 0#64 0 W)
  clear h
  clear q0 e0 hB0
  go_enter Tryd.func15, Tryd.ntmps15
  go_wp2_with fail
  refine (HC.out _).mono ?_
  rintro e w1 ⟨rfl, hB1⟩
  have kq1 := (hB1.block _ (Array.getElem?_eq_some_iff.1 Q0.out).1).trans Q0.out
  have ke1 := (hB1.block _ (Array.getElem?_eq_some_iff.1 E0.out).1).trans E0.out
  have HB1 := Lib.hid (B0.out.trans (hB1.mono B0.out.size))
  clear hB1
  have E1 := Lib.hid ke1
  have kq := old_at (o := .cells #[.int .u64 0, .int .i64 0, .int .u64 0] 26) kq1
  have ke := old_at (o := .cells #[.int .u64 0, .int .i64 0, .int .u64 0] 26) ke1
  have kc : (w1.alloc (.cells #[.int .u64 0, .int .i64 0, .int .u64 0] 26)).heap[w1.heap.size]? = some (.cells #[.int .u64 0, .int .i64 0, .int .u64 0] 26 (0, 0)) := new_at w1 _ _ rfl
  have HBa : Hid (Below w.heap.size w (w1.alloc (.cells #[.int .u64 0, .int .i64 0, .int .u64 0] 26))) := Lib.hid (HB1.out.alloc HB1.out.size _)
  have c0 := cell_at ke 0
  have c1 := cell_at ke 1
  have KQ := Lib.hid kq
  have KC := Lib.hid kc
  clear kq ke kc kq1 ke1
  go_wp2_with fail
  refine (HM.out _).mono ?_
  rintro e w2 ⟨rfl, hB2⟩
  have kq' := (hB2.block _ (Array.getElem?_eq_some_iff.1 KQ.out).1).trans KQ.out
  have kc' := (hB2.block _ (Array.getElem?_eq_some_iff.1 KC.out).1).trans KC.out
  have HB := Lib.hid (HBa.out.trans (hB2.mono HBa.out.size))
  have g0 := cell_at kq' 0
  have g1 := cell_at kq' 1
  have g2 := cell_at kq' 2
  have f0 := frz_at kq' 0
  have f1 := frz_at kq' 1
  have f2 := frz_at kq' 2
  have d0 := cell_at kc' 0
  have d1 := cell_at kc' 1
  have d2 := cell_at kc' 2
  clear hB2 kq' kc' c0 c1
  go_wp2_with fail
  refine bodyPost_ret (v := .tuple #[.agg #[.int .u64 0, .int .i64 0, .int .u64 0], .int .i64 170]) (by simp [results, Tryd.results15, go_sem, g0, g1, g2]) rfl ⟨rfl, ?_⟩
  exact ((HB.out.setCell (by show w.heap.size ≤ w.heap.size + 1; omega) _).setCell (by show w.heap.size ≤ w.heap.size + 1; omega) _).setCell (by show w.heap.size ≤ w.heap.size + 1; omega) _

set_option maxRecDepth 100000 in
set_option maxHeartbeats 8000000 in
theorem refCheck_sum (a b : BitVec 64) (s : ByteArray) (hs : s.size ≤ 9223372036854775807) (now : BitVec 64) (h : clB s = true) (h2 : sumB a b s = false) (w : World) :
    Calls Tryd.prog 15 #[.agg #[.int .u64 (U a), .int .u64 (U b)], .string s, .int .u64 (U now)] w fun e w' => e = .returned (.tuple #[.agg #[.int .u64 0, .int .i64 0, .int .u64 0], .int .i64 170]) ∧ Below w.heap.size w w' := by
  have q0 : ((w.alloc (.cells #[.int .u64 (U a), .int .u64 (U b)] 24)).alloc (.cells #[.int .u64 0, .int .i64 0, .int .u64 0] 26)).heap[w.heap.size + 1]? = some (.cells #[.int .u64 0, .int .i64 0, .int .u64 0] 26 (0, 0)) := new_at _ _ _ (by simp)
  have e0 : ((w.alloc (.cells #[.int .u64 (U a), .int .u64 (U b)] 24)).alloc (.cells #[.int .u64 0, .int .i64 0, .int .u64 0] 26)).heap[w.heap.size]? = some (.cells #[.int .u64 (U a), .int .u64 (U b)] 24 (0, 0)) := old_at (new_at _ _ _ rfl)
  have hB0 : Below w.heap.size w ((w.alloc (.cells #[.int .u64 (U a), .int .u64 (U b)] 24)).alloc (.cells #[.int .u64 0, .int .i64 0, .int .u64 0] 26)) := ((Below.refl _ w).alloc (Nat.le_refl _) _).alloc (by simp) _
  have HC := Lib.hid (fun W => refBody_yes s hs h W)
  have Q0 := Lib.hid q0
  have E0 := Lib.hid e0
  have B0 := Lib.hid hB0
  obtain ⟨-, -, -, r1, r3, -⟩ := clB_true h
  have hU : U (clR s) = ((clR s).toNat : Int) := rfl
  have HM := Lib.hid (fun W => by
    have h9 := refMint_any a b (clT s) (clU s) (U (clR s)) W
    have e1 : minB a b (clT s) (roleU (U (clR s))) (clU s) (U (clR s)) = tokT a b (clT s) (clR s) (clU s) := by unfold minB; rw [if_pos (by omega), roleU_U]
    rw [e1] at h9
    exact h9)
  have hq : ((tokT a b (clT s) (clR s) (clU s)).toList == s.toList) = false := by
    rw [toList_beq, decide_eq_false_iff_not, tok_iff a b h, h2]
    exact Bool.false_ne_true
  clear r1 r3 hU h h2
  clear q0 e0 hB0
  go_enter Tryd.func15, Tryd.ntmps15
  go_wp2_with fail
  refine (HC.out _).mono ?_
  rintro e w1 ⟨rfl, hB1⟩
  have kq1 := (hB1.block _ (Array.getElem?_eq_some_iff.1 Q0.out).1).trans Q0.out
  have ke1 := (hB1.block _ (Array.getElem?_eq_some_iff.1 E0.out).1).trans E0.out
  have HB1 := Lib.hid (B0.out.trans (hB1.mono B0.out.size))
  clear hB1
  have E1 := Lib.hid ke1
  have kq := old_at (o := .cells #[.int .u64 (U (clT s)), .int .i64 (U (clR s)), .int .u64 (U (clU s))] 26) kq1
  have ke := old_at (o := .cells #[.int .u64 (U (clT s)), .int .i64 (U (clR s)), .int .u64 (U (clU s))] 26) ke1
  have kc : (w1.alloc (.cells #[.int .u64 (U (clT s)), .int .i64 (U (clR s)), .int .u64 (U (clU s))] 26)).heap[w1.heap.size]? = some (.cells #[.int .u64 (U (clT s)), .int .i64 (U (clR s)), .int .u64 (U (clU s))] 26 (0, 0)) := new_at w1 _ _ rfl
  have HBa : Hid (Below w.heap.size w (w1.alloc (.cells #[.int .u64 (U (clT s)), .int .i64 (U (clR s)), .int .u64 (U (clU s))] 26))) := Lib.hid (HB1.out.alloc HB1.out.size _)
  have c0 := cell_at ke 0
  have c1 := cell_at ke 1
  have KQ := Lib.hid kq
  have KC := Lib.hid kc
  clear kq ke kc kq1 ke1
  go_wp2_with fail
  refine (HM.out _).mono ?_
  rintro e w2 ⟨rfl, hB2⟩
  have kq' := (hB2.block _ (Array.getElem?_eq_some_iff.1 KQ.out).1).trans KQ.out
  have kc' := (hB2.block _ (Array.getElem?_eq_some_iff.1 KC.out).1).trans KC.out
  have HB := Lib.hid (HBa.out.trans (hB2.mono HBa.out.size))
  have g0 := cell_at kq' 0
  have g1 := cell_at kq' 1
  have g2 := cell_at kq' 2
  have f0 := frz_at kq' 0
  have f1 := frz_at kq' 1
  have f2 := frz_at kq' 2
  have d0 := cell_at kc' 0
  have d1 := cell_at kc' 1
  have d2 := cell_at kc' 2
  clear hB2 kq' kc' c0 c1
  go_wp2_with fail
  refine bodyPost_ret (v := .tuple #[.agg #[.int .u64 0, .int .i64 0, .int .u64 0], .int .i64 170]) (by simp [results, Tryd.results15, go_sem, g0, g1, g2]) rfl ⟨rfl, ?_⟩
  exact ((HB.out.setCell (by show w.heap.size ≤ w.heap.size + 1; omega) _).setCell (by show w.heap.size ≤ w.heap.size + 1; omega) _).setCell (by show w.heap.size ≤ w.heap.size + 1; omega) _

set_option maxRecDepth 100000 in
set_option maxHeartbeats 8000000 in
theorem refCheck_stale (a b : BitVec 64) (s : ByteArray) (hs : s.size ≤ 9223372036854775807) (now : BitVec 64) (h : clB s = true) (h2 : sumB a b s = true) (h3 : (clU s).toNat < now.toNat) (w : World) :
    Calls Tryd.prog 15 #[.agg #[.int .u64 (U a), .int .u64 (U b)], .string s, .int .u64 (U now)] w fun e w' => e = .returned (.tuple #[.agg #[.int .u64 0, .int .i64 0, .int .u64 0], .int .i64 171]) ∧ Below w.heap.size w w' := by
  have q0 : ((w.alloc (.cells #[.int .u64 (U a), .int .u64 (U b)] 24)).alloc (.cells #[.int .u64 0, .int .i64 0, .int .u64 0] 26)).heap[w.heap.size + 1]? = some (.cells #[.int .u64 0, .int .i64 0, .int .u64 0] 26 (0, 0)) := new_at _ _ _ (by simp)
  have e0 : ((w.alloc (.cells #[.int .u64 (U a), .int .u64 (U b)] 24)).alloc (.cells #[.int .u64 0, .int .i64 0, .int .u64 0] 26)).heap[w.heap.size]? = some (.cells #[.int .u64 (U a), .int .u64 (U b)] 24 (0, 0)) := old_at (new_at _ _ _ rfl)
  have hB0 : Below w.heap.size w ((w.alloc (.cells #[.int .u64 (U a), .int .u64 (U b)] 24)).alloc (.cells #[.int .u64 0, .int .i64 0, .int .u64 0] 26)) := ((Below.refl _ w).alloc (Nat.le_refl _) _).alloc (by simp) _
  have HC := Lib.hid (fun W => refBody_yes s hs h W)
  have Q0 := Lib.hid q0
  have E0 := Lib.hid e0
  have B0 := Lib.hid hB0
  obtain ⟨-, -, -, r1, r3, -⟩ := clB_true h
  have hU : U (clR s) = ((clR s).toNat : Int) := rfl
  have HM := Lib.hid (fun W => by
    have h9 := refMint_any a b (clT s) (clU s) (U (clR s)) W
    have e1 : minB a b (clT s) (roleU (U (clR s))) (clU s) (U (clR s)) = tokT a b (clT s) (clR s) (clU s) := by unfold minB; rw [if_pos (by omega), roleU_U]
    rw [e1] at h9
    exact h9)
  have hq : ((tokT a b (clT s) (clR s) (clU s)).toList == s.toList) = true := by
    rw [toList_beq, decide_eq_true_iff, tok_iff a b h]
    exact h2
  have m1 : U (clU s) < U now := by unfold U; omega
  clear r1 r3 hU h h2 h3
  clear q0 e0 hB0
  go_enter Tryd.func15, Tryd.ntmps15
  go_wp2_with fail
  refine (HC.out _).mono ?_
  rintro e w1 ⟨rfl, hB1⟩
  have kq1 := (hB1.block _ (Array.getElem?_eq_some_iff.1 Q0.out).1).trans Q0.out
  have ke1 := (hB1.block _ (Array.getElem?_eq_some_iff.1 E0.out).1).trans E0.out
  have HB1 := Lib.hid (B0.out.trans (hB1.mono B0.out.size))
  clear hB1
  have E1 := Lib.hid ke1
  have kq := old_at (o := .cells #[.int .u64 (U (clT s)), .int .i64 (U (clR s)), .int .u64 (U (clU s))] 26) kq1
  have ke := old_at (o := .cells #[.int .u64 (U (clT s)), .int .i64 (U (clR s)), .int .u64 (U (clU s))] 26) ke1
  have kc : (w1.alloc (.cells #[.int .u64 (U (clT s)), .int .i64 (U (clR s)), .int .u64 (U (clU s))] 26)).heap[w1.heap.size]? = some (.cells #[.int .u64 (U (clT s)), .int .i64 (U (clR s)), .int .u64 (U (clU s))] 26 (0, 0)) := new_at w1 _ _ rfl
  have HBa : Hid (Below w.heap.size w (w1.alloc (.cells #[.int .u64 (U (clT s)), .int .i64 (U (clR s)), .int .u64 (U (clU s))] 26))) := Lib.hid (HB1.out.alloc HB1.out.size _)
  have c0 := cell_at ke 0
  have c1 := cell_at ke 1
  have KQ := Lib.hid kq
  have KC := Lib.hid kc
  clear kq ke kc kq1 ke1
  go_wp2_with fail
  refine (HM.out _).mono ?_
  rintro e w2 ⟨rfl, hB2⟩
  have kq' := (hB2.block _ (Array.getElem?_eq_some_iff.1 KQ.out).1).trans KQ.out
  have kc' := (hB2.block _ (Array.getElem?_eq_some_iff.1 KC.out).1).trans KC.out
  have HB := Lib.hid (HBa.out.trans (hB2.mono HBa.out.size))
  have g0 := cell_at kq' 0
  have g1 := cell_at kq' 1
  have g2 := cell_at kq' 2
  have f0 := frz_at kq' 0
  have f1 := frz_at kq' 1
  have f2 := frz_at kq' 2
  have d0 := cell_at kc' 0
  have d1 := cell_at kc' 1
  have d2 := cell_at kc' 2
  clear hB2 kq' kc' c0 c1
  go_wp2_with fail
  refine bodyPost_ret (v := .tuple #[.agg #[.int .u64 0, .int .i64 0, .int .u64 0], .int .i64 171]) (by simp [results, Tryd.results15, go_sem, g0, g1, g2]) rfl ⟨rfl, ?_⟩
  exact ((HB.out.setCell (by show w.heap.size ≤ w.heap.size + 1; omega) _).setCell (by show w.heap.size ≤ w.heap.size + 1; omega) _).setCell (by show w.heap.size ≤ w.heap.size + 1; omega) _

set_option maxRecDepth 100000 in
set_option maxHeartbeats 8000000 in
theorem refCheck_ok (a b : BitVec 64) (s : ByteArray) (hs : s.size ≤ 9223372036854775807) (now : BitVec 64) (h : clB s = true) (h2 : sumB a b s = true) (h3 : now.toNat ≤ (clU s).toNat) (w : World) :
    Calls Tryd.prog 15 #[.agg #[.int .u64 (U a), .int .u64 (U b)], .string s, .int .u64 (U now)] w fun e w' => e = .returned (.tuple #[.agg #[.int .u64 (U (clT s)), .int .i64 (U (clR s)), .int .u64 (U (clU s))], .int .i64 0]) ∧ Below w.heap.size w w' := by
  have q0 : ((w.alloc (.cells #[.int .u64 (U a), .int .u64 (U b)] 24)).alloc (.cells #[.int .u64 0, .int .i64 0, .int .u64 0] 26)).heap[w.heap.size + 1]? = some (.cells #[.int .u64 0, .int .i64 0, .int .u64 0] 26 (0, 0)) := new_at _ _ _ (by simp)
  have e0 : ((w.alloc (.cells #[.int .u64 (U a), .int .u64 (U b)] 24)).alloc (.cells #[.int .u64 0, .int .i64 0, .int .u64 0] 26)).heap[w.heap.size]? = some (.cells #[.int .u64 (U a), .int .u64 (U b)] 24 (0, 0)) := old_at (new_at _ _ _ rfl)
  have hB0 : Below w.heap.size w ((w.alloc (.cells #[.int .u64 (U a), .int .u64 (U b)] 24)).alloc (.cells #[.int .u64 0, .int .i64 0, .int .u64 0] 26)) := ((Below.refl _ w).alloc (Nat.le_refl _) _).alloc (by simp) _
  have HC := Lib.hid (fun W => refBody_yes s hs h W)
  have Q0 := Lib.hid q0
  have E0 := Lib.hid e0
  have B0 := Lib.hid hB0
  obtain ⟨-, -, -, r1, r3, -⟩ := clB_true h
  have hU : U (clR s) = ((clR s).toNat : Int) := rfl
  have HM := Lib.hid (fun W => by
    have h9 := refMint_any a b (clT s) (clU s) (U (clR s)) W
    have e1 : minB a b (clT s) (roleU (U (clR s))) (clU s) (U (clR s)) = tokT a b (clT s) (clR s) (clU s) := by unfold minB; rw [if_pos (by omega), roleU_U]
    rw [e1] at h9
    exact h9)
  have hq : ((tokT a b (clT s) (clR s) (clU s)).toList == s.toList) = true := by
    rw [toList_beq, decide_eq_true_iff, tok_iff a b h]
    exact h2
  have m1 : ¬ U (clU s) < U now := by unfold U; omega
  clear r1 r3 hU h h2 h3
  clear q0 e0 hB0
  go_enter Tryd.func15, Tryd.ntmps15
  go_wp2_with fail
  refine (HC.out _).mono ?_
  rintro e w1 ⟨rfl, hB1⟩
  have kq1 := (hB1.block _ (Array.getElem?_eq_some_iff.1 Q0.out).1).trans Q0.out
  have ke1 := (hB1.block _ (Array.getElem?_eq_some_iff.1 E0.out).1).trans E0.out
  have HB1 := Lib.hid (B0.out.trans (hB1.mono B0.out.size))
  clear hB1
  have E1 := Lib.hid ke1
  have kq := old_at (o := .cells #[.int .u64 (U (clT s)), .int .i64 (U (clR s)), .int .u64 (U (clU s))] 26) kq1
  have ke := old_at (o := .cells #[.int .u64 (U (clT s)), .int .i64 (U (clR s)), .int .u64 (U (clU s))] 26) ke1
  have kc : (w1.alloc (.cells #[.int .u64 (U (clT s)), .int .i64 (U (clR s)), .int .u64 (U (clU s))] 26)).heap[w1.heap.size]? = some (.cells #[.int .u64 (U (clT s)), .int .i64 (U (clR s)), .int .u64 (U (clU s))] 26 (0, 0)) := new_at w1 _ _ rfl
  have HBa : Hid (Below w.heap.size w (w1.alloc (.cells #[.int .u64 (U (clT s)), .int .i64 (U (clR s)), .int .u64 (U (clU s))] 26))) := Lib.hid (HB1.out.alloc HB1.out.size _)
  have c0 := cell_at ke 0
  have c1 := cell_at ke 1
  have KQ := Lib.hid kq
  have KC := Lib.hid kc
  clear kq ke kc kq1 ke1
  go_wp2_with fail
  refine (HM.out _).mono ?_
  rintro e w2 ⟨rfl, hB2⟩
  have kq' := (hB2.block _ (Array.getElem?_eq_some_iff.1 KQ.out).1).trans KQ.out
  have kc' := (hB2.block _ (Array.getElem?_eq_some_iff.1 KC.out).1).trans KC.out
  have HB := Lib.hid (HBa.out.trans (hB2.mono HBa.out.size))
  have g0 := cell_at kq' 0
  have g1 := cell_at kq' 1
  have g2 := cell_at kq' 2
  have f0 := frz_at kq' 0
  have f1 := frz_at kq' 1
  have f2 := frz_at kq' 2
  have d0 := cell_at kc' 0
  have d1 := cell_at kc' 1
  have d2 := cell_at kc' 2
  clear hB2 kq' kc' c0 c1
  go_wp2_with fail
  refine bodyPost_ret (v := .tuple #[.agg #[.int .u64 (U (clT s)), .int .i64 (U (clR s)), .int .u64 (U (clU s))], .int .i64 0]) (by simp [results, Tryd.results15, go_sem, g0, g1, g2]) rfl ⟨rfl, ?_⟩
  exact ((HB.out.setCell (by show w.heap.size ≤ w.heap.size + 1; omega) _).setCell (by show w.heap.size ≤ w.heap.size + 1; omega) _).setCell (by show w.heap.size ≤ w.heap.size + 1; omega) _
end Go.Proofs.YtpekedldoplmmaaDoor
