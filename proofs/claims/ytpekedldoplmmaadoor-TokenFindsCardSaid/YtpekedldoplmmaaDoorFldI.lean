/-
  The walk of number of package field. Printed by gen_num.py.
-/
import Derived.Test.YtpekedldoplmmaaDoorFldP
namespace Go.Proofs.YtpekedldoplmmaaDoor
open Go.RowKit

theorem take_short_at (a0 b0 : Addr) (B b : Nat) (T : TypeId) (s : ByteArray) (size : Nat) (hlt : s.size < size) (a : Int) (ha : a = (size : Int)) (w : World) (hS : Sent a0 b0 B w) (hb : w.heap[b]? = some (.cells #[.string s] T (0, 0))) :
    Calls Tryd.prog 57 #[.pointer (some ⟨b, 0, none⟩), .int .i64 a] w fun e w' => e = .returned (.tuple #[.int .u64 0, .iface 122 (.pointer (some a0))]) ∧ Below w.heap.size w w' := by
  subst ha
  exact take_short a0 b0 B b T s size hlt w hS hb
theorem take_ok_at (b : Nat) (T : TypeId) (s : ByteArray) (hs : s.size ≤ 9223372036854775807) (size : Nat) (hsz : size ≤ 9) (hlt : size ≤ s.size) (a : Int) (ha : a = (size : Int)) (w : World) (hb : w.heap[b]? = some (.cells #[.string s] T (0, 0))) :
    Calls Tryd.prog 57 #[.pointer (some ⟨b, 0, none⟩), .int .i64 a] w fun e w' => e = .returned (.tuple #[.int .u64 (U (takeN s size)), .nilIface]) ∧ Put w w' b (.cells #[.string (s.extract size s.size)] T (0, 0)) := by
  subst ha
  exact take_ok b T s hs size hsz hlt w hb
theorem Put_at (n : BitVec 64) (a : Int) (ha : a = U n) (w : World) : Calls Tryd.prog 33 #[.int .u64 a] w fun e w' => e = .returned (.string (bytesF n)) ∧ Below w.heap.size w w' := by
  subst ha
  exact Put_any n w
/-- Block b becomes o; above the old blocks there may be new ones; nothing else turns. -/
def Puts (w w' : World) (b : Nat) (o : Obj) : Prop := ∃ w1, Put w w1 b o ∧ Below w1.heap.size w1 w'
theorem Puts.get {w w' : World} {b : Nat} {o : Obj} (h : Puts w w' b o) (hb : b < w.heap.size) : w'.heap[b]? = some o := by
  obtain ⟨w1, hp, hB⟩ := h
  exact (hB.block b (by rw [hp.size]; exact hb)).trans (hp.get hb)
theorem Puts.below {w w' : World} {b B : Nat} {o : Obj} (h : Puts w w' b o) (hB : B ≤ b) (hw : B ≤ w.heap.size) : Below B w w' := by
  obtain ⟨w1, hp, hb⟩ := h
  exact (hp.below hB).trans (hb.mono (by rw [hp.size]; exact hw))
theorem Puts.other {w w' : World} {b k : Nat} {o o' : Obj} (h : Puts w w' b o) (hk : k ≠ b) (hg : w.heap[k]? = some o') : w'.heap[k]? = some o' := by
  obtain ⟨w1, hp, hB⟩ := h
  have hl := (Array.getElem?_eq_some_iff.1 hg).1
  exact (hB.block k (by rw [hp.size]; exact hl)).trans ((hp.other hk).trans hg)
theorem Puts.size {w w' : World} {b : Nat} {o : Obj} (h : Puts w w' b o) : w.heap.size ≤ w'.heap.size := by
  obtain ⟨w1, hp, hB⟩ := h
  have := hB.size
  rw [hp.size] at this
  exact this
theorem Puts.trans {w w1 w2 : World} {b : Nat} {o1 o2 : Obj} (hb : b < w.heap.size) (h : Puts w w1 b o1) (k : Puts w1 w2 b o2) : Puts w w2 b o2 := by
  obtain ⟨u1, p1, h1⟩ := h
  obtain ⟨u2, p2, h2⟩ := k
  refine ⟨{ u1 with heap := u1.heap.setIfInBounds b o2 }, ?_, ?_⟩
  · exact p1.trans ⟨rfl, rfl, rfl, rfl⟩
  · have hs1 : u1.heap.size = w.heap.size := p1.size
    have hs2 : u2.heap.size = w1.heap.size := p2.size
    have hz := h1.size
    have hz2 := h2.size
    refine ⟨h2.os.trans (p2.os.trans h1.os), h2.tape.trans (p2.tape.trans h1.tape), h2.output.trans (p2.output.trans h1.output), ?_, ?_⟩
    · show (u1.heap.setIfInBounds b o2).size ≤ _
      rw [Array.size_setIfInBounds]
      omega
    · intro i hi
      have hi2 : i < u1.heap.size := by simpa using hi
      show w2.heap[i]? = (u1.heap.setIfInBounds b o2)[i]?
      rw [h2.block i (by omega)]
      by_cases hib : i = b
      · subst hib
        rw [p2.get (by omega), Array.getElem?_setIfInBounds_self_of_lt hi2]
      · rw [p2.other hib, h1.block i hi2, Array.getElem?_setIfInBounds_ne (Ne.symm hib)]

theorem extract_tail (s : ByteArray) (k : Nat) : (s.extract 1 s.size).extract k (s.extract 1 s.size).size = s.extract (1 + k) s.size := by
  rw [ByteArray.extract_extract]
  congr 1
  simp [ByteArray.size_extract]
  omega
theorem numV_nat (s : ByteArray) : (numV s).toNat = ((takeN (s.extract 1 s.size) (szOf (firstOf s))).toNat + (baseOf (firstOf s)).toNat) % 18446744073709551616 := by
  unfold numV
  rw [BitVec.toNat_add]

set_option maxRecDepth 100000 in
theorem number_empty (a0 b0 : Addr) (B b : Nat) (T : TypeId) (s : ByteArray) (h0 : s.size = 0) (w : World) (hS : Sent a0 b0 B w) (hb : w.heap[b]? = some (.cells #[.string s] T (0, 0))) :
    Calls Tryd.prog 54 #[.pointer (some ⟨b, 0, none⟩)] w fun e w' => e = .returned (.tuple #[.int .u64 0, .iface 122 (.pointer (some a0))]) ∧ Below w.heap.size w w' := by
  have hc : w.cell? ⟨b, 0, none⟩ = some (.string s) := by simp [World.cell?, hb]
  have ht := fun W hS hb => take_short a0 b0 B b T s 1 (by omega) W hS hb
  have HTk := Lib.hid ht
  clear ht h0
  go_enter Tryd.func54, Tryd.ntmps54
  go_wp2_with fail
  refine (HTk.out w hS hb).mono ?_
  rintro e w1 ⟨rfl, hB⟩
  go_wp2_with fail
  go_ret2
  exact ⟨rfl, hB⟩

set_option maxRecDepth 100000 in
set_option maxHeartbeats 4000000 in
theorem number_short1 (a0 b0 : Addr) (B b : Nat) (T : TypeId) (s : ByteArray) (hs : s.size ≤ 9223372036854775807) (h1 : 1 ≤ s.size) (hcl : 250 ≤ firstOf s) (h2 : s.size < numL s) (w : World) (hS : Sent a0 b0 B w) (hBb : B ≤ b) (hb : w.heap[b]? = some (.cells #[.string s] T (0, 0))) :
    Calls Tryd.prog 54 #[.pointer (some ⟨b, 0, none⟩)] w fun e w' => e = .returned (.tuple #[.int .u64 0, .iface 122 (.pointer (some a0))]) ∧ Below B w w' := by
  have hc : w.cell? ⟨b, 0, none⟩ = some (.string s) := by simp [World.cell?, hb]
  have ht := take_ok b T s hs 1 (by omega) h1 w hb
  rw [takeN_one] at ht
  have HTk := Lib.hid ht
  have hf := firstOf_lt s
  have hU : U (byteOf s 0) = (firstOf s : Int) := rfl
  have hx : (s.extract 1 s.size).size = s.size - 1 := by simp [ByteArray.size_extract]
  unfold numL at h2
  have hsz : szOf (firstOf s) = firstOf s - 247 := by unfold szOf; rw [if_pos hcl]
  clear ht
  have hsh := fun W hS hb => take_short_at a0 b0 B b T (s.extract 1 s.size) (szOf (firstOf s)) (by omega) _ (show U (byteOf s 0) - 247 = _ by rw [hU, hsz]; omega) W hS hb
  have HSh := Lib.hid hsh
  clear hsh h2
  have k1 : 250 ≤ U (byteOf s 0) := by rw [hU]; omega
  have k4 : U (byteOf s 0) ≤ 255 := by rw [hU]; omega
  have hw : IntKind.i64.wrap (U (byteOf s 0)) = U (byteOf s 0) := by rw [IntKind.wrap_i64] <;> (rw [hU]; omega)
  clear hU
  have HSz := Lib.hid hsz
  clear hsz hx
  go_enter Tryd.func54, Tryd.ntmps54
  go_wp2_with fail
  refine HTk.out.mono ?_
  rintro e w1 ⟨rfl, hP⟩
  have hS1 := hS.later (hP.below hBb)
  have hb1 := hP.get (Array.getElem?_eq_some_iff.1 hb).1
  have hB1 : Below B w w1 := hP.below hBb
  have HS1 := Lib.hid hS1
  have Hb1 := Lib.hid hb1
  have HP1 := Lib.hid hP
  have Hbw := Lib.hid hb
  clear hP HTk hS hb hc hS1 hb1
  go_wp2_with fail
  with_reducible refine (HSh.out w1 HS1.out Hb1.out).mono ?_
  rintro e w2 ⟨rfl, hB2⟩
  go_wp2_with fail
  go_ret2
  exact ⟨rfl, hB1.trans (hB2.mono HS1.out.bs)⟩

set_option maxRecDepth 100000 in
set_option maxHeartbeats 4000000 in
theorem number_short2 (a0 b0 : Addr) (B b : Nat) (T : TypeId) (s : ByteArray) (hs : s.size ≤ 9223372036854775807) (h1 : 1 ≤ s.size) (hcl : firstOf s = 249) (h2 : s.size < numL s) (w : World) (hS : Sent a0 b0 B w) (hBb : B ≤ b) (hb : w.heap[b]? = some (.cells #[.string s] T (0, 0))) :
    Calls Tryd.prog 54 #[.pointer (some ⟨b, 0, none⟩)] w fun e w' => e = .returned (.tuple #[.int .u64 0, .iface 122 (.pointer (some a0))]) ∧ Below B w w' := by
  have hc : w.cell? ⟨b, 0, none⟩ = some (.string s) := by simp [World.cell?, hb]
  have ht := take_ok b T s hs 1 (by omega) h1 w hb
  rw [takeN_one] at ht
  have HTk := Lib.hid ht
  have hf := firstOf_lt s
  have hU : U (byteOf s 0) = (firstOf s : Int) := rfl
  have hx : (s.extract 1 s.size).size = s.size - 1 := by simp [ByteArray.size_extract]
  unfold numL at h2
  have hsz : szOf (firstOf s) = 2 := by unfold szOf; rw [if_neg (by omega), if_pos hcl]
  clear ht
  have hsh := fun W hS hb => take_short_at a0 b0 B b T (s.extract 1 s.size) (szOf (firstOf s)) (by omega) _ (show (2 : Int) = _ by rw [hsz]; rfl) W hS hb
  have HSh := Lib.hid hsh
  clear hsh h2
  have k1 : ¬ 250 ≤ U (byteOf s 0) := by rw [hU]; omega
  have k2 : (U (byteOf s 0) == 249) = true := by rw [beq_iff_eq, hU]; omega
  clear hcl
  clear hU
  have HSz := Lib.hid hsz
  clear hsz hx
  go_enter Tryd.func54, Tryd.ntmps54
  go_wp2_with fail
  refine HTk.out.mono ?_
  rintro e w1 ⟨rfl, hP⟩
  have hS1 := hS.later (hP.below hBb)
  have hb1 := hP.get (Array.getElem?_eq_some_iff.1 hb).1
  have hB1 : Below B w w1 := hP.below hBb
  have HS1 := Lib.hid hS1
  have Hb1 := Lib.hid hb1
  have HP1 := Lib.hid hP
  have Hbw := Lib.hid hb
  clear hP HTk hS hb hc hS1 hb1
  go_wp2_with fail
  with_reducible refine (HSh.out w1 HS1.out Hb1.out).mono ?_
  rintro e w2 ⟨rfl, hB2⟩
  go_wp2_with fail
  go_ret2
  exact ⟨rfl, hB1.trans (hB2.mono HS1.out.bs)⟩

set_option maxRecDepth 100000 in
set_option maxHeartbeats 4000000 in
theorem number_short3 (a0 b0 : Addr) (B b : Nat) (T : TypeId) (s : ByteArray) (hs : s.size ≤ 9223372036854775807) (h1 : 1 ≤ s.size) (hcl : 241 ≤ firstOf s ∧ firstOf s ≤ 248) (h2 : s.size < numL s) (w : World) (hS : Sent a0 b0 B w) (hBb : B ≤ b) (hb : w.heap[b]? = some (.cells #[.string s] T (0, 0))) :
    Calls Tryd.prog 54 #[.pointer (some ⟨b, 0, none⟩)] w fun e w' => e = .returned (.tuple #[.int .u64 0, .iface 122 (.pointer (some a0))]) ∧ Below B w w' := by
  have hc : w.cell? ⟨b, 0, none⟩ = some (.string s) := by simp [World.cell?, hb]
  have ht := take_ok b T s hs 1 (by omega) h1 w hb
  rw [takeN_one] at ht
  have HTk := Lib.hid ht
  have hf := firstOf_lt s
  have hU : U (byteOf s 0) = (firstOf s : Int) := rfl
  have hx : (s.extract 1 s.size).size = s.size - 1 := by simp [ByteArray.size_extract]
  unfold numL at h2
  have hsz : szOf (firstOf s) = 1 := by unfold szOf; rw [if_neg (by omega), if_neg (by omega), if_pos (by omega)]
  clear ht
  have hsh := fun W hS hb => take_short_at a0 b0 B b T (s.extract 1 s.size) (szOf (firstOf s)) (by omega) _ (show (1 : Int) = _ by rw [hsz]; rfl) W hS hb
  have HSh := Lib.hid hsh
  clear hsh h2
  have k1 : ¬ 250 ≤ U (byteOf s 0) := by rw [hU]; omega
  have k2 : (U (byteOf s 0) == 249) = false := by rw [beq_eq_false_iff_ne, ne_eq, hU]; omega
  have k3 : 241 ≤ U (byteOf s 0) := by rw [hU]; omega
  have k4 : U (byteOf s 0) ≤ 248 := by rw [hU]; omega
  clear hU
  have HSz := Lib.hid hsz
  clear hsz hx
  go_enter Tryd.func54, Tryd.ntmps54
  go_wp2_with fail
  refine HTk.out.mono ?_
  rintro e w1 ⟨rfl, hP⟩
  have hS1 := hS.later (hP.below hBb)
  have hb1 := hP.get (Array.getElem?_eq_some_iff.1 hb).1
  have hB1 : Below B w w1 := hP.below hBb
  have HS1 := Lib.hid hS1
  have Hb1 := Lib.hid hb1
  have HP1 := Lib.hid hP
  have Hbw := Lib.hid hb
  clear hP HTk hS hb hc hS1 hb1
  go_wp2_with fail
  with_reducible refine (HSh.out w1 HS1.out Hb1.out).mono ?_
  rintro e w2 ⟨rfl, hB2⟩
  go_wp2_with fail
  go_ret2
  exact ⟨rfl, hB1.trans (hB2.mono HS1.out.bs)⟩

set_option maxRecDepth 100000 in
set_option maxHeartbeats 4000000 in
theorem number_short4 (a0 b0 : Addr) (B b : Nat) (T : TypeId) (s : ByteArray) (hs : s.size ≤ 9223372036854775807) (h1 : 1 ≤ s.size) (hcl : firstOf s ≤ 240) (h2 : s.size < numL s) (w : World) (hS : Sent a0 b0 B w) (hBb : B ≤ b) (hb : w.heap[b]? = some (.cells #[.string s] T (0, 0))) :
    Calls Tryd.prog 54 #[.pointer (some ⟨b, 0, none⟩)] w fun e w' => e = .returned (.tuple #[.int .u64 0, .iface 122 (.pointer (some a0))]) ∧ Below B w w' := by
  have hc : w.cell? ⟨b, 0, none⟩ = some (.string s) := by simp [World.cell?, hb]
  have ht := take_ok b T s hs 1 (by omega) h1 w hb
  rw [takeN_one] at ht
  have HTk := Lib.hid ht
  have hf := firstOf_lt s
  have hU : U (byteOf s 0) = (firstOf s : Int) := rfl
  have hx : (s.extract 1 s.size).size = s.size - 1 := by simp [ByteArray.size_extract]
  unfold numL at h2
  have hsz : szOf (firstOf s) = 0 := by unfold szOf; rw [if_neg (by omega), if_neg (by omega), if_neg (by omega)]
  clear ht
  have hsh := fun W hS hb => take_short_at a0 b0 B b T (s.extract 1 s.size) (szOf (firstOf s)) (by omega) _ (show (0 : Int) = _ by rw [hsz]; rfl) W hS hb
  have HSh := Lib.hid hsh
  clear hsh h2
  have k1 : ¬ 250 ≤ U (byteOf s 0) := by rw [hU]; omega
  have k2 : (U (byteOf s 0) == 249) = false := by rw [beq_eq_false_iff_ne, ne_eq, hU]; omega
  have k3 : ¬ 241 ≤ U (byteOf s 0) := by rw [hU]; omega
  clear hU
  have HSz := Lib.hid hsz
  clear hsz hx
  go_enter Tryd.func54, Tryd.ntmps54
  go_wp2_with fail
  refine HTk.out.mono ?_
  rintro e w1 ⟨rfl, hP⟩
  have hS1 := hS.later (hP.below hBb)
  have hb1 := hP.get (Array.getElem?_eq_some_iff.1 hb).1
  have hB1 : Below B w w1 := hP.below hBb
  have HS1 := Lib.hid hS1
  have Hb1 := Lib.hid hb1
  have HP1 := Lib.hid hP
  have Hbw := Lib.hid hb
  clear hP HTk hS hb hc hS1 hb1
  go_wp2_with fail
  with_reducible refine (HSh.out w1 HS1.out Hb1.out).mono ?_
  rintro e w2 ⟨rfl, hB2⟩
  go_wp2_with fail
  go_ret2
  exact ⟨rfl, hB1.trans (hB2.mono HS1.out.bs)⟩

set_option maxRecDepth 100000 in
set_option maxHeartbeats 4000000 in
theorem number_bad1 (a0 b0 : Addr) (B b : Nat) (T : TypeId) (s : ByteArray) (hs : s.size ≤ 9223372036854775807) (h1 : 1 ≤ s.size) (hcl : 250 ≤ firstOf s) (h2 : numL s ≤ s.size) (hq : ((bytesF (numV s)).toList == (s.extract 0 (1 + szOf (firstOf s))).toList) = false) (w : World) (hS : Sent a0 b0 B w) (hBb : B ≤ b) (hb : w.heap[b]? = some (.cells #[.string s] T (0, 0))) :
    Calls Tryd.prog 54 #[.pointer (some ⟨b, 0, none⟩)] w fun e w' => e = .returned (.tuple #[.int .u64 0, .iface 122 (.pointer (some b0))]) ∧ Below B w w' := by
  have hc : w.cell? ⟨b, 0, none⟩ = some (.string s) := by simp [World.cell?, hb]
  have ht := take_ok b T s hs 1 (by omega) h1 w hb
  rw [takeN_one] at ht
  have HTk := Lib.hid ht
  have hf := firstOf_lt s
  have hU : U (byteOf s 0) = (firstOf s : Int) := rfl
  have hx : (s.extract 1 s.size).size = s.size - 1 := by simp [ByteArray.size_extract]
  unfold numL at h2
  have hsz : szOf (firstOf s) = firstOf s - 247 := by unfold szOf; rw [if_pos hcl]
  clear ht
  have h2' : 1 + szOf (firstOf s) ≤ s.size := by omega
  have hsh := fun W hb => take_ok_at b T (s.extract 1 s.size) (by omega) (szOf (firstOf s)) (by omega) (by omega) _ (show U (byteOf s 0) - 247 = _ by rw [hU, hsz]; omega) W hb
  have HSh := Lib.hid hsh
  have hR := extract_tail s (szOf (firstOf s))
  have hRs : (s.extract (1 + szOf (firstOf s)) s.size).size = s.size - (1 + szOf (firstOf s)) := by simp [ByteArray.size_extract]
  have hsum : IntKind.u64.wrap (U (takeN (s.extract 1 s.size) (szOf (firstOf s)))) = U (numV s) := by
    rw [IntKind.wrap_u64]
    have hv := numV_nat s
    have hb9 : baseOf (firstOf s) = 0#64 := by unfold baseOf; rw [if_pos hcl]
    rw [hb9] at hv
    have e9 : (0#64).toNat = 0 := rfl
    rw [e9] at hv
    unfold U at *
    omega
  have HR := Lib.hid hR
  have HSum := Lib.hid hsum
  have HRs := Lib.hid hRs
  have HQ := Lib.hid hq
  have hLs : s.size ≤ 9223372036854775807 := hs
  have HLs := Lib.hid hLs
  have H2 := Lib.hid h2'
  clear hsh h2 hR hsum hRs hq h2'
  have k1 : 250 ≤ U (byteOf s 0) := by rw [hU]; omega
  have k4 : U (byteOf s 0) ≤ 255 := by rw [hU]; omega
  have hw : IntKind.i64.wrap (U (byteOf s 0)) = U (byteOf s 0) := by rw [IntKind.wrap_i64] <;> (rw [hU]; omega)
  clear hU
  have HS := Lib.hid hS
  have HBs := Lib.hid hS.bs
  have HSz := Lib.hid hsz
  clear hsz hx
  go_enter Tryd.func54, Tryd.ntmps54
  go_wp2_with fail
  refine HTk.out.mono ?_
  rintro e w1 ⟨rfl, hP⟩
  have hS1 := hS.later (hP.below hBb)
  have hb1 := hP.get (Array.getElem?_eq_some_iff.1 hb).1
  have hB1 : Below B w w1 := hP.below hBb
  have HS1 := Lib.hid hS1
  have Hb1 := Lib.hid hb1
  have HP1 := Lib.hid hP
  have Hbw := Lib.hid hb
  clear hP HTk hS hb hc hS1 hb1
  go_wp2_with fail
  with_reducible refine (HSh.out w1 Hb1.out).mono ?_
  rintro e w2 ⟨rfl, hP2⟩
  rw [HR.out] at hP2
  have hb2 := hP2.get (by rw [HP1.out.size]; exact (Array.getElem?_eq_some_iff.1 Hbw.out).1)
  have hP12 := HP1.out.trans hP2
  have hB2 : Below B w w2 := hP12.below hBb
  have HP12 := Lib.hid hP12
  obtain ⟨R, hRe⟩ : ∃ R, s.extract (1 + szOf (firstOf s)) s.size = R := ⟨_, rfl⟩
  obtain ⟨L, hLe⟩ : ∃ L, 1 + szOf (firstOf s) = L := ⟨_, rfl⟩
  have hRs := HRs.out
  have hL2 := H2.out
  rw [hRe] at hb2 hRs
  rw [hLe] at hRs hL2
  have hd : IntKind.i64.wrap ((s.size : Int) - (R.size : Int)) = (L : Int) := by rw [IntKind.wrap_i64] <;> omega
  have hd2 : ((s.size : Int) - (R.size : Int)) = (L : Int) := by omega
  have g0 : (0 : Int) ≤ (L : Int) := by omega
  have g1 : (L : Int) ≤ (s.size : Int) := by omega
  have hl2 : ∀ s' : Later w2.heap.size w2, s'.W.cell? ⟨b, 0, none⟩ = some (.string R) := fun s' => s'.cell (by simp [World.cell?, hb2]) (Array.getElem?_eq_some_iff.1 hb2).1
  have hq := HQ.out
  have hqL : ((bytesF (numV s)).toList == (s.extract 0 L).toList) = false := by rw [← hLe]; exact hq
  have hsum := HSum.out
  have HRe := Lib.hid hRe
  have HLe := Lib.hid hLe
  have Hb2 := Lib.hid hb2
  clear hq hP2 hP12 hRe hLe hb2 hRs
  go_wp2_with fail
  refine wp_region_later w2.heap.size (by kernel_rfl) (by kernel_rfl) ?_
  repeat (go_big_quiet_step ((go_at_call 33; with_reducible exact Calls.later (Nat.le_refl _) (Put_at (numV s) _ rfl _))))
  refine wpQuiet_nil ?_
  rintro _ ⟨s', rfl⟩
  clear hl2
  have hB3 := hB2.trans (s'.below.mono (by rw [HP12.out.size]; exact HBs.out))
  have hS3 := HS.out.later hB3
  have hmm := hS3.none_
  have HS3 := Lib.hid hS3
  clear hS3
  go_wp2_with fail
  go_quiet (fail)
  go_wp2_with fail
  go_ret2
  exact ⟨rfl, by exact ⟨hB3.os, hB3.tape, hB3.output, hB3.size, hB3.block⟩⟩

set_option maxRecDepth 100000 in
set_option maxHeartbeats 4000000 in
theorem number_bad2 (a0 b0 : Addr) (B b : Nat) (T : TypeId) (s : ByteArray) (hs : s.size ≤ 9223372036854775807) (h1 : 1 ≤ s.size) (hcl : firstOf s = 249) (h2 : numL s ≤ s.size) (hq : ((bytesF (numV s)).toList == (s.extract 0 (1 + szOf (firstOf s))).toList) = false) (w : World) (hS : Sent a0 b0 B w) (hBb : B ≤ b) (hb : w.heap[b]? = some (.cells #[.string s] T (0, 0))) :
    Calls Tryd.prog 54 #[.pointer (some ⟨b, 0, none⟩)] w fun e w' => e = .returned (.tuple #[.int .u64 0, .iface 122 (.pointer (some b0))]) ∧ Below B w w' := by
  have hc : w.cell? ⟨b, 0, none⟩ = some (.string s) := by simp [World.cell?, hb]
  have ht := take_ok b T s hs 1 (by omega) h1 w hb
  rw [takeN_one] at ht
  have HTk := Lib.hid ht
  have hf := firstOf_lt s
  have hU : U (byteOf s 0) = (firstOf s : Int) := rfl
  have hx : (s.extract 1 s.size).size = s.size - 1 := by simp [ByteArray.size_extract]
  unfold numL at h2
  have hsz : szOf (firstOf s) = 2 := by unfold szOf; rw [if_neg (by omega), if_pos hcl]
  clear ht
  have h2' : 1 + szOf (firstOf s) ≤ s.size := by omega
  have hsh := fun W hb => take_ok_at b T (s.extract 1 s.size) (by omega) (szOf (firstOf s)) (by omega) (by omega) _ (show (2 : Int) = _ by rw [hsz]; rfl) W hb
  have HSh := Lib.hid hsh
  have hR := extract_tail s (szOf (firstOf s))
  have hRs : (s.extract (1 + szOf (firstOf s)) s.size).size = s.size - (1 + szOf (firstOf s)) := by simp [ByteArray.size_extract]
  have hsum : IntKind.u64.wrap (U (takeN (s.extract 1 s.size) (szOf (firstOf s))) + 2288) = U (numV s) := by
    rw [IntKind.wrap_u64]
    have hv := numV_nat s
    have hb9 : baseOf (firstOf s) = 2288#64 := by unfold baseOf; rw [if_neg (by omega), if_pos hcl]
    rw [hb9] at hv
    have e9 : (2288#64).toNat = 2288 := rfl
    rw [e9] at hv
    unfold U at *
    omega
  have HR := Lib.hid hR
  have HSum := Lib.hid hsum
  have HRs := Lib.hid hRs
  have HQ := Lib.hid hq
  have hLs : s.size ≤ 9223372036854775807 := hs
  have HLs := Lib.hid hLs
  have H2 := Lib.hid h2'
  clear hsh h2 hR hsum hRs hq h2'
  have k1 : ¬ 250 ≤ U (byteOf s 0) := by rw [hU]; omega
  have k2 : (U (byteOf s 0) == 249) = true := by rw [beq_iff_eq, hU]; omega
  clear hcl
  clear hU
  have HS := Lib.hid hS
  have HBs := Lib.hid hS.bs
  have HSz := Lib.hid hsz
  clear hsz hx
  go_enter Tryd.func54, Tryd.ntmps54
  go_wp2_with fail
  refine HTk.out.mono ?_
  rintro e w1 ⟨rfl, hP⟩
  have hS1 := hS.later (hP.below hBb)
  have hb1 := hP.get (Array.getElem?_eq_some_iff.1 hb).1
  have hB1 : Below B w w1 := hP.below hBb
  have HS1 := Lib.hid hS1
  have Hb1 := Lib.hid hb1
  have HP1 := Lib.hid hP
  have Hbw := Lib.hid hb
  clear hP HTk hS hb hc hS1 hb1
  go_wp2_with fail
  with_reducible refine (HSh.out w1 Hb1.out).mono ?_
  rintro e w2 ⟨rfl, hP2⟩
  rw [HR.out] at hP2
  have hb2 := hP2.get (by rw [HP1.out.size]; exact (Array.getElem?_eq_some_iff.1 Hbw.out).1)
  have hP12 := HP1.out.trans hP2
  have hB2 : Below B w w2 := hP12.below hBb
  have HP12 := Lib.hid hP12
  obtain ⟨R, hRe⟩ : ∃ R, s.extract (1 + szOf (firstOf s)) s.size = R := ⟨_, rfl⟩
  obtain ⟨L, hLe⟩ : ∃ L, 1 + szOf (firstOf s) = L := ⟨_, rfl⟩
  have hRs := HRs.out
  have hL2 := H2.out
  rw [hRe] at hb2 hRs
  rw [hLe] at hRs hL2
  have hd : IntKind.i64.wrap ((s.size : Int) - (R.size : Int)) = (L : Int) := by rw [IntKind.wrap_i64] <;> omega
  have hd2 : ((s.size : Int) - (R.size : Int)) = (L : Int) := by omega
  have g0 : (0 : Int) ≤ (L : Int) := by omega
  have g1 : (L : Int) ≤ (s.size : Int) := by omega
  have hl2 : ∀ s' : Later w2.heap.size w2, s'.W.cell? ⟨b, 0, none⟩ = some (.string R) := fun s' => s'.cell (by simp [World.cell?, hb2]) (Array.getElem?_eq_some_iff.1 hb2).1
  have hq := HQ.out
  have hqL : ((bytesF (numV s)).toList == (s.extract 0 L).toList) = false := by rw [← hLe]; exact hq
  have hsum := HSum.out
  have HRe := Lib.hid hRe
  have HLe := Lib.hid hLe
  have Hb2 := Lib.hid hb2
  clear hq hP2 hP12 hRe hLe hb2 hRs
  go_wp2_with fail
  refine wp_region_later w2.heap.size (by kernel_rfl) (by kernel_rfl) ?_
  repeat (go_big_quiet_step ((go_at_call 33; with_reducible exact Calls.later (Nat.le_refl _) (Put_at (numV s) _ rfl _))))
  refine wpQuiet_nil ?_
  rintro _ ⟨s', rfl⟩
  clear hl2
  have hB3 := hB2.trans (s'.below.mono (by rw [HP12.out.size]; exact HBs.out))
  have hS3 := HS.out.later hB3
  have hmm := hS3.none_
  have HS3 := Lib.hid hS3
  clear hS3
  go_wp2_with fail
  go_quiet (fail)
  go_wp2_with fail
  go_ret2
  exact ⟨rfl, by exact ⟨hB3.os, hB3.tape, hB3.output, hB3.size, hB3.block⟩⟩

set_option maxRecDepth 100000 in
set_option maxHeartbeats 4000000 in
theorem number_bad3 (a0 b0 : Addr) (B b : Nat) (T : TypeId) (s : ByteArray) (hs : s.size ≤ 9223372036854775807) (h1 : 1 ≤ s.size) (hcl : 241 ≤ firstOf s ∧ firstOf s ≤ 248) (h2 : numL s ≤ s.size) (hq : ((bytesF (numV s)).toList == (s.extract 0 (1 + szOf (firstOf s))).toList) = false) (w : World) (hS : Sent a0 b0 B w) (hBb : B ≤ b) (hb : w.heap[b]? = some (.cells #[.string s] T (0, 0))) :
    Calls Tryd.prog 54 #[.pointer (some ⟨b, 0, none⟩)] w fun e w' => e = .returned (.tuple #[.int .u64 0, .iface 122 (.pointer (some b0))]) ∧ Below B w w' := by
  have hc : w.cell? ⟨b, 0, none⟩ = some (.string s) := by simp [World.cell?, hb]
  have ht := take_ok b T s hs 1 (by omega) h1 w hb
  rw [takeN_one] at ht
  have HTk := Lib.hid ht
  have hf := firstOf_lt s
  have hU : U (byteOf s 0) = (firstOf s : Int) := rfl
  have hx : (s.extract 1 s.size).size = s.size - 1 := by simp [ByteArray.size_extract]
  unfold numL at h2
  have hsz : szOf (firstOf s) = 1 := by unfold szOf; rw [if_neg (by omega), if_neg (by omega), if_pos (by omega)]
  clear ht
  have h2' : 1 + szOf (firstOf s) ≤ s.size := by omega
  have hsh := fun W hb => take_ok_at b T (s.extract 1 s.size) (by omega) (szOf (firstOf s)) (by omega) (by omega) _ (show (1 : Int) = _ by rw [hsz]; rfl) W hb
  have HSh := Lib.hid hsh
  have hR := extract_tail s (szOf (firstOf s))
  have hRs : (s.extract (1 + szOf (firstOf s)) s.size).size = s.size - (1 + szOf (firstOf s)) := by simp [ByteArray.size_extract]
  have hsum : IntKind.u64.wrap (U (takeN (s.extract 1 s.size) (szOf (firstOf s))) + (240 + (U (byteOf s 0) - 241) * 256)) = U (numV s) := by
    rw [IntKind.wrap_u64]
    have hv := numV_nat s
    have hb9 : baseOf (firstOf s) = BitVec.ofNat 64 (240 + (firstOf s - 241) * 256) := by unfold baseOf; rw [if_neg (by omega), if_neg (by omega), if_pos (by omega)]
    have e9 : (BitVec.ofNat 64 (240 + (firstOf s - 241) * 256)).toNat = 240 + (firstOf s - 241) * 256 := by rw [BitVec.toNat_ofNat]; exact Nat.mod_eq_of_lt (by omega)
    rw [hb9, e9] at hv
    rw [hU]
    unfold U at *
    omega
  have HR := Lib.hid hR
  have HSum := Lib.hid hsum
  have HRs := Lib.hid hRs
  have HQ := Lib.hid hq
  have hLs : s.size ≤ 9223372036854775807 := hs
  have HLs := Lib.hid hLs
  have H2 := Lib.hid h2'
  clear hsh h2 hR hsum hRs hq h2'
  have k1 : ¬ 250 ≤ U (byteOf s 0) := by rw [hU]; omega
  have k2 : (U (byteOf s 0) == 249) = false := by rw [beq_eq_false_iff_ne, ne_eq, hU]; omega
  have k3 : 241 ≤ U (byteOf s 0) := by rw [hU]; omega
  have k4 : U (byteOf s 0) ≤ 248 := by rw [hU]; omega
  clear hU
  have HS := Lib.hid hS
  have HBs := Lib.hid hS.bs
  have HSz := Lib.hid hsz
  clear hsz hx
  go_enter Tryd.func54, Tryd.ntmps54
  go_wp2_with fail
  refine HTk.out.mono ?_
  rintro e w1 ⟨rfl, hP⟩
  have hS1 := hS.later (hP.below hBb)
  have hb1 := hP.get (Array.getElem?_eq_some_iff.1 hb).1
  have hB1 : Below B w w1 := hP.below hBb
  have HS1 := Lib.hid hS1
  have Hb1 := Lib.hid hb1
  have HP1 := Lib.hid hP
  have Hbw := Lib.hid hb
  clear hP HTk hS hb hc hS1 hb1
  go_wp2_with fail
  with_reducible refine (HSh.out w1 Hb1.out).mono ?_
  rintro e w2 ⟨rfl, hP2⟩
  rw [HR.out] at hP2
  have hb2 := hP2.get (by rw [HP1.out.size]; exact (Array.getElem?_eq_some_iff.1 Hbw.out).1)
  have hP12 := HP1.out.trans hP2
  have hB2 : Below B w w2 := hP12.below hBb
  have HP12 := Lib.hid hP12
  obtain ⟨R, hRe⟩ : ∃ R, s.extract (1 + szOf (firstOf s)) s.size = R := ⟨_, rfl⟩
  obtain ⟨L, hLe⟩ : ∃ L, 1 + szOf (firstOf s) = L := ⟨_, rfl⟩
  have hRs := HRs.out
  have hL2 := H2.out
  rw [hRe] at hb2 hRs
  rw [hLe] at hRs hL2
  have hd : IntKind.i64.wrap ((s.size : Int) - (R.size : Int)) = (L : Int) := by rw [IntKind.wrap_i64] <;> omega
  have hd2 : ((s.size : Int) - (R.size : Int)) = (L : Int) := by omega
  have g0 : (0 : Int) ≤ (L : Int) := by omega
  have g1 : (L : Int) ≤ (s.size : Int) := by omega
  have hl2 : ∀ s' : Later w2.heap.size w2, s'.W.cell? ⟨b, 0, none⟩ = some (.string R) := fun s' => s'.cell (by simp [World.cell?, hb2]) (Array.getElem?_eq_some_iff.1 hb2).1
  have hq := HQ.out
  have hqL : ((bytesF (numV s)).toList == (s.extract 0 L).toList) = false := by rw [← hLe]; exact hq
  have hsum := HSum.out
  have HRe := Lib.hid hRe
  have HLe := Lib.hid hLe
  have Hb2 := Lib.hid hb2
  clear hq hP2 hP12 hRe hLe hb2 hRs
  go_wp2_with fail
  refine wp_region_later w2.heap.size (by kernel_rfl) (by kernel_rfl) ?_
  repeat (go_big_quiet_step ((go_at_call 33; with_reducible exact Calls.later (Nat.le_refl _) (Put_at (numV s) _ rfl _))))
  refine wpQuiet_nil ?_
  rintro _ ⟨s', rfl⟩
  clear hl2
  have hB3 := hB2.trans (s'.below.mono (by rw [HP12.out.size]; exact HBs.out))
  have hS3 := HS.out.later hB3
  have hmm := hS3.none_
  have HS3 := Lib.hid hS3
  clear hS3
  go_wp2_with fail
  go_quiet (fail)
  go_wp2_with fail
  go_ret2
  exact ⟨rfl, by exact ⟨hB3.os, hB3.tape, hB3.output, hB3.size, hB3.block⟩⟩

set_option maxRecDepth 100000 in
set_option maxHeartbeats 4000000 in
theorem number_bad4 (a0 b0 : Addr) (B b : Nat) (T : TypeId) (s : ByteArray) (hs : s.size ≤ 9223372036854775807) (h1 : 1 ≤ s.size) (hcl : firstOf s ≤ 240) (h2 : numL s ≤ s.size) (hq : ((bytesF (numV s)).toList == (s.extract 0 (1 + szOf (firstOf s))).toList) = false) (w : World) (hS : Sent a0 b0 B w) (hBb : B ≤ b) (hb : w.heap[b]? = some (.cells #[.string s] T (0, 0))) :
    Calls Tryd.prog 54 #[.pointer (some ⟨b, 0, none⟩)] w fun e w' => e = .returned (.tuple #[.int .u64 0, .iface 122 (.pointer (some b0))]) ∧ Below B w w' := by
  have hc : w.cell? ⟨b, 0, none⟩ = some (.string s) := by simp [World.cell?, hb]
  have ht := take_ok b T s hs 1 (by omega) h1 w hb
  rw [takeN_one] at ht
  have HTk := Lib.hid ht
  have hf := firstOf_lt s
  have hU : U (byteOf s 0) = (firstOf s : Int) := rfl
  have hx : (s.extract 1 s.size).size = s.size - 1 := by simp [ByteArray.size_extract]
  unfold numL at h2
  have hsz : szOf (firstOf s) = 0 := by unfold szOf; rw [if_neg (by omega), if_neg (by omega), if_neg (by omega)]
  clear ht
  have h2' : 1 + szOf (firstOf s) ≤ s.size := by omega
  have hsh := fun W hb => take_ok_at b T (s.extract 1 s.size) (by omega) (szOf (firstOf s)) (by omega) (by omega) _ (show (0 : Int) = _ by rw [hsz]; rfl) W hb
  have HSh := Lib.hid hsh
  have hR := extract_tail s (szOf (firstOf s))
  have hRs : (s.extract (1 + szOf (firstOf s)) s.size).size = s.size - (1 + szOf (firstOf s)) := by simp [ByteArray.size_extract]
  have hsum : IntKind.u64.wrap (U (takeN (s.extract 1 s.size) (szOf (firstOf s))) + U (byteOf s 0)) = U (numV s) := by
    rw [IntKind.wrap_u64]
    have hv := numV_nat s
    have hb9 : baseOf (firstOf s) = BitVec.ofNat 64 (firstOf s) := by unfold baseOf; rw [if_neg (by omega), if_neg (by omega), if_neg (by omega)]
    have e9 : (BitVec.ofNat 64 (firstOf s)).toNat = firstOf s := by rw [BitVec.toNat_ofNat]; exact Nat.mod_eq_of_lt (by omega)
    rw [hb9, e9] at hv
    rw [hU]
    unfold U at *
    omega
  have HR := Lib.hid hR
  have HSum := Lib.hid hsum
  have HRs := Lib.hid hRs
  have HQ := Lib.hid hq
  have hLs : s.size ≤ 9223372036854775807 := hs
  have HLs := Lib.hid hLs
  have H2 := Lib.hid h2'
  clear hsh h2 hR hsum hRs hq h2'
  have k1 : ¬ 250 ≤ U (byteOf s 0) := by rw [hU]; omega
  have k2 : (U (byteOf s 0) == 249) = false := by rw [beq_eq_false_iff_ne, ne_eq, hU]; omega
  have k3 : ¬ 241 ≤ U (byteOf s 0) := by rw [hU]; omega
  clear hU
  have HS := Lib.hid hS
  have HBs := Lib.hid hS.bs
  have HSz := Lib.hid hsz
  clear hsz hx
  go_enter Tryd.func54, Tryd.ntmps54
  go_wp2_with fail
  refine HTk.out.mono ?_
  rintro e w1 ⟨rfl, hP⟩
  have hS1 := hS.later (hP.below hBb)
  have hb1 := hP.get (Array.getElem?_eq_some_iff.1 hb).1
  have hB1 : Below B w w1 := hP.below hBb
  have HS1 := Lib.hid hS1
  have Hb1 := Lib.hid hb1
  have HP1 := Lib.hid hP
  have Hbw := Lib.hid hb
  clear hP HTk hS hb hc hS1 hb1
  go_wp2_with fail
  with_reducible refine (HSh.out w1 Hb1.out).mono ?_
  rintro e w2 ⟨rfl, hP2⟩
  rw [HR.out] at hP2
  have hb2 := hP2.get (by rw [HP1.out.size]; exact (Array.getElem?_eq_some_iff.1 Hbw.out).1)
  have hP12 := HP1.out.trans hP2
  have hB2 : Below B w w2 := hP12.below hBb
  have HP12 := Lib.hid hP12
  obtain ⟨R, hRe⟩ : ∃ R, s.extract (1 + szOf (firstOf s)) s.size = R := ⟨_, rfl⟩
  obtain ⟨L, hLe⟩ : ∃ L, 1 + szOf (firstOf s) = L := ⟨_, rfl⟩
  have hRs := HRs.out
  have hL2 := H2.out
  rw [hRe] at hb2 hRs
  rw [hLe] at hRs hL2
  have hd : IntKind.i64.wrap ((s.size : Int) - (R.size : Int)) = (L : Int) := by rw [IntKind.wrap_i64] <;> omega
  have hd2 : ((s.size : Int) - (R.size : Int)) = (L : Int) := by omega
  have g0 : (0 : Int) ≤ (L : Int) := by omega
  have g1 : (L : Int) ≤ (s.size : Int) := by omega
  have hl2 : ∀ s' : Later w2.heap.size w2, s'.W.cell? ⟨b, 0, none⟩ = some (.string R) := fun s' => s'.cell (by simp [World.cell?, hb2]) (Array.getElem?_eq_some_iff.1 hb2).1
  have hq := HQ.out
  have hqL : ((bytesF (numV s)).toList == (s.extract 0 L).toList) = false := by rw [← hLe]; exact hq
  have hsum := HSum.out
  have HRe := Lib.hid hRe
  have HLe := Lib.hid hLe
  have Hb2 := Lib.hid hb2
  clear hq hP2 hP12 hRe hLe hb2 hRs
  go_wp2_with fail
  refine wp_region_later w2.heap.size (by kernel_rfl) (by kernel_rfl) ?_
  repeat (go_big_quiet_step ((go_at_call 33; with_reducible exact Calls.later (Nat.le_refl _) (Put_at (numV s) _ rfl _))))
  refine wpQuiet_nil ?_
  rintro _ ⟨s', rfl⟩
  clear hl2
  have hB3 := hB2.trans (s'.below.mono (by rw [HP12.out.size]; exact HBs.out))
  have hS3 := HS.out.later hB3
  have hmm := hS3.none_
  have HS3 := Lib.hid hS3
  clear hS3
  go_wp2_with fail
  go_quiet (fail)
  go_wp2_with fail
  go_ret2
  exact ⟨rfl, by exact ⟨hB3.os, hB3.tape, hB3.output, hB3.size, hB3.block⟩⟩

set_option maxRecDepth 100000 in
set_option maxHeartbeats 4000000 in
theorem number_ok1 (a0 b0 : Addr) (B b : Nat) (T : TypeId) (s : ByteArray) (hs : s.size ≤ 9223372036854775807) (h1 : 1 ≤ s.size) (hcl : 250 ≤ firstOf s) (h2 : numL s ≤ s.size) (hq : ((bytesF (numV s)).toList == (s.extract 0 (1 + szOf (firstOf s))).toList) = true) (w : World) (hS : Sent a0 b0 B w) (hBb : B ≤ b) (hb : w.heap[b]? = some (.cells #[.string s] T (0, 0))) :
    Calls Tryd.prog 54 #[.pointer (some ⟨b, 0, none⟩)] w fun e w' => e = .returned (.tuple #[.int .u64 (U (numV s)), .nilIface]) ∧ Puts w w' b (.cells #[.string (s.extract (numL s) s.size)] T (0, 0)) := by
  have hc : w.cell? ⟨b, 0, none⟩ = some (.string s) := by simp [World.cell?, hb]
  have ht := take_ok b T s hs 1 (by omega) h1 w hb
  rw [takeN_one] at ht
  have HTk := Lib.hid ht
  have hf := firstOf_lt s
  have hU : U (byteOf s 0) = (firstOf s : Int) := rfl
  have hx : (s.extract 1 s.size).size = s.size - 1 := by simp [ByteArray.size_extract]
  unfold numL at h2
  have hsz : szOf (firstOf s) = firstOf s - 247 := by unfold szOf; rw [if_pos hcl]
  clear ht
  have h2' : 1 + szOf (firstOf s) ≤ s.size := by omega
  have hsh := fun W hb => take_ok_at b T (s.extract 1 s.size) (by omega) (szOf (firstOf s)) (by omega) (by omega) _ (show U (byteOf s 0) - 247 = _ by rw [hU, hsz]; omega) W hb
  have HSh := Lib.hid hsh
  have hR := extract_tail s (szOf (firstOf s))
  have hRs : (s.extract (1 + szOf (firstOf s)) s.size).size = s.size - (1 + szOf (firstOf s)) := by simp [ByteArray.size_extract]
  have hsum : IntKind.u64.wrap (U (takeN (s.extract 1 s.size) (szOf (firstOf s)))) = U (numV s) := by
    rw [IntKind.wrap_u64]
    have hv := numV_nat s
    have hb9 : baseOf (firstOf s) = 0#64 := by unfold baseOf; rw [if_pos hcl]
    rw [hb9] at hv
    have e9 : (0#64).toNat = 0 := rfl
    rw [e9] at hv
    unfold U at *
    omega
  have HR := Lib.hid hR
  have HSum := Lib.hid hsum
  have HRs := Lib.hid hRs
  have HQ := Lib.hid hq
  have hLs : s.size ≤ 9223372036854775807 := hs
  have HLs := Lib.hid hLs
  have H2 := Lib.hid h2'
  clear hsh h2 hR hsum hRs hq h2'
  have k1 : 250 ≤ U (byteOf s 0) := by rw [hU]; omega
  have k4 : U (byteOf s 0) ≤ 255 := by rw [hU]; omega
  have hw : IntKind.i64.wrap (U (byteOf s 0)) = U (byteOf s 0) := by rw [IntKind.wrap_i64] <;> (rw [hU]; omega)
  clear hU
  have HSz := Lib.hid hsz
  clear hsz hx
  go_enter Tryd.func54, Tryd.ntmps54
  go_wp2_with fail
  refine HTk.out.mono ?_
  rintro e w1 ⟨rfl, hP⟩
  have hS1 := hS.later (hP.below hBb)
  have hb1 := hP.get (Array.getElem?_eq_some_iff.1 hb).1
  have hB1 : Below B w w1 := hP.below hBb
  have HS1 := Lib.hid hS1
  have Hb1 := Lib.hid hb1
  have HP1 := Lib.hid hP
  have Hbw := Lib.hid hb
  clear hP HTk hS hb hc hS1 hb1
  go_wp2_with fail
  with_reducible refine (HSh.out w1 Hb1.out).mono ?_
  rintro e w2 ⟨rfl, hP2⟩
  rw [HR.out] at hP2
  have hb2 := hP2.get (by rw [HP1.out.size]; exact (Array.getElem?_eq_some_iff.1 Hbw.out).1)
  have hP12 := HP1.out.trans hP2
  have hB2 : Below B w w2 := hP12.below hBb
  have HP12 := Lib.hid hP12
  obtain ⟨R, hRe⟩ : ∃ R, s.extract (1 + szOf (firstOf s)) s.size = R := ⟨_, rfl⟩
  obtain ⟨L, hLe⟩ : ∃ L, 1 + szOf (firstOf s) = L := ⟨_, rfl⟩
  have hRs := HRs.out
  have hL2 := H2.out
  rw [hRe] at hb2 hRs
  rw [hLe] at hRs hL2
  have hd : IntKind.i64.wrap ((s.size : Int) - (R.size : Int)) = (L : Int) := by rw [IntKind.wrap_i64] <;> omega
  have hd2 : ((s.size : Int) - (R.size : Int)) = (L : Int) := by omega
  have g0 : (0 : Int) ≤ (L : Int) := by omega
  have g1 : (L : Int) ≤ (s.size : Int) := by omega
  have hl2 : ∀ s' : Later w2.heap.size w2, s'.W.cell? ⟨b, 0, none⟩ = some (.string R) := fun s' => s'.cell (by simp [World.cell?, hb2]) (Array.getElem?_eq_some_iff.1 hb2).1
  have hq := HQ.out
  have hqL : ((bytesF (numV s)).toList == (s.extract 0 L).toList) = true := by rw [← hLe]; exact hq
  have hsum := HSum.out
  have HRe := Lib.hid hRe
  have HLe := Lib.hid hLe
  have Hb2 := Lib.hid hb2
  clear hq hP2 hP12 hRe hLe hb2 hRs
  go_wp2_with fail
  refine wp_region_later w2.heap.size (by kernel_rfl) (by kernel_rfl) ?_
  repeat (go_big_quiet_step ((go_at_call 33; with_reducible exact Calls.later (Nat.le_refl _) (Put_at (numV s) _ rfl _))))
  refine wpQuiet_nil ?_
  rintro _ ⟨s', rfl⟩
  clear hl2
  have hpp : Puts w s'.W b (.cells #[.string (s.extract (numL s) s.size)] T (0, 0)) := by
    refine ⟨w2, ?_, s'.below⟩
    have h := HP12.out
    exact h
  have HPP := Lib.hid hpp
  clear hpp
  go_wp2_with fail
  go_ret2
  exact ⟨rfl, HPP.out⟩

set_option maxRecDepth 100000 in
set_option maxHeartbeats 4000000 in
theorem number_ok2 (a0 b0 : Addr) (B b : Nat) (T : TypeId) (s : ByteArray) (hs : s.size ≤ 9223372036854775807) (h1 : 1 ≤ s.size) (hcl : firstOf s = 249) (h2 : numL s ≤ s.size) (hq : ((bytesF (numV s)).toList == (s.extract 0 (1 + szOf (firstOf s))).toList) = true) (w : World) (hS : Sent a0 b0 B w) (hBb : B ≤ b) (hb : w.heap[b]? = some (.cells #[.string s] T (0, 0))) :
    Calls Tryd.prog 54 #[.pointer (some ⟨b, 0, none⟩)] w fun e w' => e = .returned (.tuple #[.int .u64 (U (numV s)), .nilIface]) ∧ Puts w w' b (.cells #[.string (s.extract (numL s) s.size)] T (0, 0)) := by
  have hc : w.cell? ⟨b, 0, none⟩ = some (.string s) := by simp [World.cell?, hb]
  have ht := take_ok b T s hs 1 (by omega) h1 w hb
  rw [takeN_one] at ht
  have HTk := Lib.hid ht
  have hf := firstOf_lt s
  have hU : U (byteOf s 0) = (firstOf s : Int) := rfl
  have hx : (s.extract 1 s.size).size = s.size - 1 := by simp [ByteArray.size_extract]
  unfold numL at h2
  have hsz : szOf (firstOf s) = 2 := by unfold szOf; rw [if_neg (by omega), if_pos hcl]
  clear ht
  have h2' : 1 + szOf (firstOf s) ≤ s.size := by omega
  have hsh := fun W hb => take_ok_at b T (s.extract 1 s.size) (by omega) (szOf (firstOf s)) (by omega) (by omega) _ (show (2 : Int) = _ by rw [hsz]; rfl) W hb
  have HSh := Lib.hid hsh
  have hR := extract_tail s (szOf (firstOf s))
  have hRs : (s.extract (1 + szOf (firstOf s)) s.size).size = s.size - (1 + szOf (firstOf s)) := by simp [ByteArray.size_extract]
  have hsum : IntKind.u64.wrap (U (takeN (s.extract 1 s.size) (szOf (firstOf s))) + 2288) = U (numV s) := by
    rw [IntKind.wrap_u64]
    have hv := numV_nat s
    have hb9 : baseOf (firstOf s) = 2288#64 := by unfold baseOf; rw [if_neg (by omega), if_pos hcl]
    rw [hb9] at hv
    have e9 : (2288#64).toNat = 2288 := rfl
    rw [e9] at hv
    unfold U at *
    omega
  have HR := Lib.hid hR
  have HSum := Lib.hid hsum
  have HRs := Lib.hid hRs
  have HQ := Lib.hid hq
  have hLs : s.size ≤ 9223372036854775807 := hs
  have HLs := Lib.hid hLs
  have H2 := Lib.hid h2'
  clear hsh h2 hR hsum hRs hq h2'
  have k1 : ¬ 250 ≤ U (byteOf s 0) := by rw [hU]; omega
  have k2 : (U (byteOf s 0) == 249) = true := by rw [beq_iff_eq, hU]; omega
  clear hcl
  clear hU
  have HSz := Lib.hid hsz
  clear hsz hx
  go_enter Tryd.func54, Tryd.ntmps54
  go_wp2_with fail
  refine HTk.out.mono ?_
  rintro e w1 ⟨rfl, hP⟩
  have hS1 := hS.later (hP.below hBb)
  have hb1 := hP.get (Array.getElem?_eq_some_iff.1 hb).1
  have hB1 : Below B w w1 := hP.below hBb
  have HS1 := Lib.hid hS1
  have Hb1 := Lib.hid hb1
  have HP1 := Lib.hid hP
  have Hbw := Lib.hid hb
  clear hP HTk hS hb hc hS1 hb1
  go_wp2_with fail
  with_reducible refine (HSh.out w1 Hb1.out).mono ?_
  rintro e w2 ⟨rfl, hP2⟩
  rw [HR.out] at hP2
  have hb2 := hP2.get (by rw [HP1.out.size]; exact (Array.getElem?_eq_some_iff.1 Hbw.out).1)
  have hP12 := HP1.out.trans hP2
  have hB2 : Below B w w2 := hP12.below hBb
  have HP12 := Lib.hid hP12
  obtain ⟨R, hRe⟩ : ∃ R, s.extract (1 + szOf (firstOf s)) s.size = R := ⟨_, rfl⟩
  obtain ⟨L, hLe⟩ : ∃ L, 1 + szOf (firstOf s) = L := ⟨_, rfl⟩
  have hRs := HRs.out
  have hL2 := H2.out
  rw [hRe] at hb2 hRs
  rw [hLe] at hRs hL2
  have hd : IntKind.i64.wrap ((s.size : Int) - (R.size : Int)) = (L : Int) := by rw [IntKind.wrap_i64] <;> omega
  have hd2 : ((s.size : Int) - (R.size : Int)) = (L : Int) := by omega
  have g0 : (0 : Int) ≤ (L : Int) := by omega
  have g1 : (L : Int) ≤ (s.size : Int) := by omega
  have hl2 : ∀ s' : Later w2.heap.size w2, s'.W.cell? ⟨b, 0, none⟩ = some (.string R) := fun s' => s'.cell (by simp [World.cell?, hb2]) (Array.getElem?_eq_some_iff.1 hb2).1
  have hq := HQ.out
  have hqL : ((bytesF (numV s)).toList == (s.extract 0 L).toList) = true := by rw [← hLe]; exact hq
  have hsum := HSum.out
  have HRe := Lib.hid hRe
  have HLe := Lib.hid hLe
  have Hb2 := Lib.hid hb2
  clear hq hP2 hP12 hRe hLe hb2 hRs
  go_wp2_with fail
  refine wp_region_later w2.heap.size (by kernel_rfl) (by kernel_rfl) ?_
  repeat (go_big_quiet_step ((go_at_call 33; with_reducible exact Calls.later (Nat.le_refl _) (Put_at (numV s) _ rfl _))))
  refine wpQuiet_nil ?_
  rintro _ ⟨s', rfl⟩
  clear hl2
  have hpp : Puts w s'.W b (.cells #[.string (s.extract (numL s) s.size)] T (0, 0)) := by
    refine ⟨w2, ?_, s'.below⟩
    have h := HP12.out
    exact h
  have HPP := Lib.hid hpp
  clear hpp
  go_wp2_with fail
  go_ret2
  exact ⟨rfl, HPP.out⟩

set_option maxRecDepth 100000 in
set_option maxHeartbeats 4000000 in
theorem number_ok3 (a0 b0 : Addr) (B b : Nat) (T : TypeId) (s : ByteArray) (hs : s.size ≤ 9223372036854775807) (h1 : 1 ≤ s.size) (hcl : 241 ≤ firstOf s ∧ firstOf s ≤ 248) (h2 : numL s ≤ s.size) (hq : ((bytesF (numV s)).toList == (s.extract 0 (1 + szOf (firstOf s))).toList) = true) (w : World) (hS : Sent a0 b0 B w) (hBb : B ≤ b) (hb : w.heap[b]? = some (.cells #[.string s] T (0, 0))) :
    Calls Tryd.prog 54 #[.pointer (some ⟨b, 0, none⟩)] w fun e w' => e = .returned (.tuple #[.int .u64 (U (numV s)), .nilIface]) ∧ Puts w w' b (.cells #[.string (s.extract (numL s) s.size)] T (0, 0)) := by
  have hc : w.cell? ⟨b, 0, none⟩ = some (.string s) := by simp [World.cell?, hb]
  have ht := take_ok b T s hs 1 (by omega) h1 w hb
  rw [takeN_one] at ht
  have HTk := Lib.hid ht
  have hf := firstOf_lt s
  have hU : U (byteOf s 0) = (firstOf s : Int) := rfl
  have hx : (s.extract 1 s.size).size = s.size - 1 := by simp [ByteArray.size_extract]
  unfold numL at h2
  have hsz : szOf (firstOf s) = 1 := by unfold szOf; rw [if_neg (by omega), if_neg (by omega), if_pos (by omega)]
  clear ht
  have h2' : 1 + szOf (firstOf s) ≤ s.size := by omega
  have hsh := fun W hb => take_ok_at b T (s.extract 1 s.size) (by omega) (szOf (firstOf s)) (by omega) (by omega) _ (show (1 : Int) = _ by rw [hsz]; rfl) W hb
  have HSh := Lib.hid hsh
  have hR := extract_tail s (szOf (firstOf s))
  have hRs : (s.extract (1 + szOf (firstOf s)) s.size).size = s.size - (1 + szOf (firstOf s)) := by simp [ByteArray.size_extract]
  have hsum : IntKind.u64.wrap (U (takeN (s.extract 1 s.size) (szOf (firstOf s))) + (240 + (U (byteOf s 0) - 241) * 256)) = U (numV s) := by
    rw [IntKind.wrap_u64]
    have hv := numV_nat s
    have hb9 : baseOf (firstOf s) = BitVec.ofNat 64 (240 + (firstOf s - 241) * 256) := by unfold baseOf; rw [if_neg (by omega), if_neg (by omega), if_pos (by omega)]
    have e9 : (BitVec.ofNat 64 (240 + (firstOf s - 241) * 256)).toNat = 240 + (firstOf s - 241) * 256 := by rw [BitVec.toNat_ofNat]; exact Nat.mod_eq_of_lt (by omega)
    rw [hb9, e9] at hv
    rw [hU]
    unfold U at *
    omega
  have HR := Lib.hid hR
  have HSum := Lib.hid hsum
  have HRs := Lib.hid hRs
  have HQ := Lib.hid hq
  have hLs : s.size ≤ 9223372036854775807 := hs
  have HLs := Lib.hid hLs
  have H2 := Lib.hid h2'
  clear hsh h2 hR hsum hRs hq h2'
  have k1 : ¬ 250 ≤ U (byteOf s 0) := by rw [hU]; omega
  have k2 : (U (byteOf s 0) == 249) = false := by rw [beq_eq_false_iff_ne, ne_eq, hU]; omega
  have k3 : 241 ≤ U (byteOf s 0) := by rw [hU]; omega
  have k4 : U (byteOf s 0) ≤ 248 := by rw [hU]; omega
  clear hU
  have HSz := Lib.hid hsz
  clear hsz hx
  go_enter Tryd.func54, Tryd.ntmps54
  go_wp2_with fail
  refine HTk.out.mono ?_
  rintro e w1 ⟨rfl, hP⟩
  have hS1 := hS.later (hP.below hBb)
  have hb1 := hP.get (Array.getElem?_eq_some_iff.1 hb).1
  have hB1 : Below B w w1 := hP.below hBb
  have HS1 := Lib.hid hS1
  have Hb1 := Lib.hid hb1
  have HP1 := Lib.hid hP
  have Hbw := Lib.hid hb
  clear hP HTk hS hb hc hS1 hb1
  go_wp2_with fail
  with_reducible refine (HSh.out w1 Hb1.out).mono ?_
  rintro e w2 ⟨rfl, hP2⟩
  rw [HR.out] at hP2
  have hb2 := hP2.get (by rw [HP1.out.size]; exact (Array.getElem?_eq_some_iff.1 Hbw.out).1)
  have hP12 := HP1.out.trans hP2
  have hB2 : Below B w w2 := hP12.below hBb
  have HP12 := Lib.hid hP12
  obtain ⟨R, hRe⟩ : ∃ R, s.extract (1 + szOf (firstOf s)) s.size = R := ⟨_, rfl⟩
  obtain ⟨L, hLe⟩ : ∃ L, 1 + szOf (firstOf s) = L := ⟨_, rfl⟩
  have hRs := HRs.out
  have hL2 := H2.out
  rw [hRe] at hb2 hRs
  rw [hLe] at hRs hL2
  have hd : IntKind.i64.wrap ((s.size : Int) - (R.size : Int)) = (L : Int) := by rw [IntKind.wrap_i64] <;> omega
  have hd2 : ((s.size : Int) - (R.size : Int)) = (L : Int) := by omega
  have g0 : (0 : Int) ≤ (L : Int) := by omega
  have g1 : (L : Int) ≤ (s.size : Int) := by omega
  have hl2 : ∀ s' : Later w2.heap.size w2, s'.W.cell? ⟨b, 0, none⟩ = some (.string R) := fun s' => s'.cell (by simp [World.cell?, hb2]) (Array.getElem?_eq_some_iff.1 hb2).1
  have hq := HQ.out
  have hqL : ((bytesF (numV s)).toList == (s.extract 0 L).toList) = true := by rw [← hLe]; exact hq
  have hsum := HSum.out
  have HRe := Lib.hid hRe
  have HLe := Lib.hid hLe
  have Hb2 := Lib.hid hb2
  clear hq hP2 hP12 hRe hLe hb2 hRs
  go_wp2_with fail
  refine wp_region_later w2.heap.size (by kernel_rfl) (by kernel_rfl) ?_
  repeat (go_big_quiet_step ((go_at_call 33; with_reducible exact Calls.later (Nat.le_refl _) (Put_at (numV s) _ rfl _))))
  refine wpQuiet_nil ?_
  rintro _ ⟨s', rfl⟩
  clear hl2
  have hpp : Puts w s'.W b (.cells #[.string (s.extract (numL s) s.size)] T (0, 0)) := by
    refine ⟨w2, ?_, s'.below⟩
    have h := HP12.out
    exact h
  have HPP := Lib.hid hpp
  clear hpp
  go_wp2_with fail
  go_ret2
  exact ⟨rfl, HPP.out⟩

set_option maxRecDepth 100000 in
set_option maxHeartbeats 4000000 in
theorem number_ok4 (a0 b0 : Addr) (B b : Nat) (T : TypeId) (s : ByteArray) (hs : s.size ≤ 9223372036854775807) (h1 : 1 ≤ s.size) (hcl : firstOf s ≤ 240) (h2 : numL s ≤ s.size) (hq : ((bytesF (numV s)).toList == (s.extract 0 (1 + szOf (firstOf s))).toList) = true) (w : World) (hS : Sent a0 b0 B w) (hBb : B ≤ b) (hb : w.heap[b]? = some (.cells #[.string s] T (0, 0))) :
    Calls Tryd.prog 54 #[.pointer (some ⟨b, 0, none⟩)] w fun e w' => e = .returned (.tuple #[.int .u64 (U (numV s)), .nilIface]) ∧ Puts w w' b (.cells #[.string (s.extract (numL s) s.size)] T (0, 0)) := by
  have hc : w.cell? ⟨b, 0, none⟩ = some (.string s) := by simp [World.cell?, hb]
  have ht := take_ok b T s hs 1 (by omega) h1 w hb
  rw [takeN_one] at ht
  have HTk := Lib.hid ht
  have hf := firstOf_lt s
  have hU : U (byteOf s 0) = (firstOf s : Int) := rfl
  have hx : (s.extract 1 s.size).size = s.size - 1 := by simp [ByteArray.size_extract]
  unfold numL at h2
  have hsz : szOf (firstOf s) = 0 := by unfold szOf; rw [if_neg (by omega), if_neg (by omega), if_neg (by omega)]
  clear ht
  have h2' : 1 + szOf (firstOf s) ≤ s.size := by omega
  have hsh := fun W hb => take_ok_at b T (s.extract 1 s.size) (by omega) (szOf (firstOf s)) (by omega) (by omega) _ (show (0 : Int) = _ by rw [hsz]; rfl) W hb
  have HSh := Lib.hid hsh
  have hR := extract_tail s (szOf (firstOf s))
  have hRs : (s.extract (1 + szOf (firstOf s)) s.size).size = s.size - (1 + szOf (firstOf s)) := by simp [ByteArray.size_extract]
  have hsum : IntKind.u64.wrap (U (takeN (s.extract 1 s.size) (szOf (firstOf s))) + U (byteOf s 0)) = U (numV s) := by
    rw [IntKind.wrap_u64]
    have hv := numV_nat s
    have hb9 : baseOf (firstOf s) = BitVec.ofNat 64 (firstOf s) := by unfold baseOf; rw [if_neg (by omega), if_neg (by omega), if_neg (by omega)]
    have e9 : (BitVec.ofNat 64 (firstOf s)).toNat = firstOf s := by rw [BitVec.toNat_ofNat]; exact Nat.mod_eq_of_lt (by omega)
    rw [hb9, e9] at hv
    rw [hU]
    unfold U at *
    omega
  have HR := Lib.hid hR
  have HSum := Lib.hid hsum
  have HRs := Lib.hid hRs
  have HQ := Lib.hid hq
  have hLs : s.size ≤ 9223372036854775807 := hs
  have HLs := Lib.hid hLs
  have H2 := Lib.hid h2'
  clear hsh h2 hR hsum hRs hq h2'
  have k1 : ¬ 250 ≤ U (byteOf s 0) := by rw [hU]; omega
  have k2 : (U (byteOf s 0) == 249) = false := by rw [beq_eq_false_iff_ne, ne_eq, hU]; omega
  have k3 : ¬ 241 ≤ U (byteOf s 0) := by rw [hU]; omega
  clear hU
  have HSz := Lib.hid hsz
  clear hsz hx
  go_enter Tryd.func54, Tryd.ntmps54
  go_wp2_with fail
  refine HTk.out.mono ?_
  rintro e w1 ⟨rfl, hP⟩
  have hS1 := hS.later (hP.below hBb)
  have hb1 := hP.get (Array.getElem?_eq_some_iff.1 hb).1
  have hB1 : Below B w w1 := hP.below hBb
  have HS1 := Lib.hid hS1
  have Hb1 := Lib.hid hb1
  have HP1 := Lib.hid hP
  have Hbw := Lib.hid hb
  clear hP HTk hS hb hc hS1 hb1
  go_wp2_with fail
  with_reducible refine (HSh.out w1 Hb1.out).mono ?_
  rintro e w2 ⟨rfl, hP2⟩
  rw [HR.out] at hP2
  have hb2 := hP2.get (by rw [HP1.out.size]; exact (Array.getElem?_eq_some_iff.1 Hbw.out).1)
  have hP12 := HP1.out.trans hP2
  have hB2 : Below B w w2 := hP12.below hBb
  have HP12 := Lib.hid hP12
  obtain ⟨R, hRe⟩ : ∃ R, s.extract (1 + szOf (firstOf s)) s.size = R := ⟨_, rfl⟩
  obtain ⟨L, hLe⟩ : ∃ L, 1 + szOf (firstOf s) = L := ⟨_, rfl⟩
  have hRs := HRs.out
  have hL2 := H2.out
  rw [hRe] at hb2 hRs
  rw [hLe] at hRs hL2
  have hd : IntKind.i64.wrap ((s.size : Int) - (R.size : Int)) = (L : Int) := by rw [IntKind.wrap_i64] <;> omega
  have hd2 : ((s.size : Int) - (R.size : Int)) = (L : Int) := by omega
  have g0 : (0 : Int) ≤ (L : Int) := by omega
  have g1 : (L : Int) ≤ (s.size : Int) := by omega
  have hl2 : ∀ s' : Later w2.heap.size w2, s'.W.cell? ⟨b, 0, none⟩ = some (.string R) := fun s' => s'.cell (by simp [World.cell?, hb2]) (Array.getElem?_eq_some_iff.1 hb2).1
  have hq := HQ.out
  have hqL : ((bytesF (numV s)).toList == (s.extract 0 L).toList) = true := by rw [← hLe]; exact hq
  have hsum := HSum.out
  have HRe := Lib.hid hRe
  have HLe := Lib.hid hLe
  have Hb2 := Lib.hid hb2
  clear hq hP2 hP12 hRe hLe hb2 hRs
  go_wp2_with fail
  refine wp_region_later w2.heap.size (by kernel_rfl) (by kernel_rfl) ?_
  repeat (go_big_quiet_step ((go_at_call 33; with_reducible exact Calls.later (Nat.le_refl _) (Put_at (numV s) _ rfl _))))
  refine wpQuiet_nil ?_
  rintro _ ⟨s', rfl⟩
  clear hl2
  have hpp : Puts w s'.W b (.cells #[.string (s.extract (numL s) s.size)] T (0, 0)) := by
    refine ⟨w2, ?_, s'.below⟩
    have h := HP12.out
    exact h
  have HPP := Lib.hid hpp
  clear hpp
  go_wp2_with fail
  go_ret2
  exact ⟨rfl, HPP.out⟩

theorem toList_beq (a b : ByteArray) : (a.toList == b.toList) = decide (a = b) := by
  rw [Bool.eq_iff_iff, beq_iff_eq, decide_eq_true_iff]
  exact ⟨fun h => by have h2 := congrArg List.toArray h; apply ByteArray.ext; simpa [ByteArray.toList_eq] using h2, fun h => by rw [h]⟩
section
variable (a0 b0 : Addr) (B b : Nat) (T : TypeId) (s : ByteArray) (hs : s.size ≤ 9223372036854775807) (w : World) (hS : Sent a0 b0 B w) (hBb : B ≤ b) (hb : w.heap[b]? = some (.cells #[.string s] T (0, 0)))
include hs hS hBb hb
theorem number_more (he : numE s = 20) : Calls Tryd.prog 54 #[.pointer (some ⟨b, 0, none⟩)] w fun e w' => e = .returned (.tuple #[.int .u64 0, .iface 122 (.pointer (some a0))]) ∧ Below B w w' := by
  have hf := firstOf_lt s
  by_cases h0 : s.size = 0
  · exact (number_empty a0 b0 B b T s h0 w hS hb).mono fun e w' ⟨h, hB⟩ => ⟨h, hB.mono hS.bs⟩
  have h2 : s.size < numL s := by
    unfold numE at he
    rw [if_neg h0] at he
    by_cases h2 : s.size < numL s
    · exact h2
    · rw [if_neg h2] at he
      split at he <;> omega
  by_cases c1 : 250 ≤ firstOf s
  · exact number_short1 a0 b0 B b T s hs (by omega) c1 h2 w hS hBb hb
  by_cases c2 : firstOf s = 249
  · exact number_short2 a0 b0 B b T s hs (by omega) c2 h2 w hS hBb hb
  by_cases c3 : 241 ≤ firstOf s
  · exact number_short3 a0 b0 B b T s hs (by omega) ⟨c3, by omega⟩ h2 w hS hBb hb
  · have h9 : szOf (firstOf s) = 0 := by unfold szOf; rw [if_neg c1, if_neg c2, if_neg c3]
    unfold numL at h2
    omega
theorem number_none (he : numE s = 21) : Calls Tryd.prog 54 #[.pointer (some ⟨b, 0, none⟩)] w fun e w' => e = .returned (.tuple #[.int .u64 0, .iface 122 (.pointer (some b0))]) ∧ Below B w w' := by
  have hf := firstOf_lt s
  unfold numE at he
  by_cases h0 : s.size = 0
  · rw [if_pos h0] at he; omega
  rw [if_neg h0] at he
  by_cases h2 : s.size < numL s
  · rw [if_pos h2] at he; omega
  rw [if_neg h2] at he
  have hq : ((bytesF (numV s)).toList == (s.extract 0 (1 + szOf (firstOf s))).toList) = false := by
    rw [toList_beq, decide_eq_false_iff_not]
    intro h
    rw [if_pos (show bytesF (numV s) = s.extract 0 (numL s) from h)] at he
    omega
  by_cases c1 : 250 ≤ firstOf s
  · exact number_bad1 a0 b0 B b T s hs (by omega) c1 (by omega) hq w hS hBb hb
  by_cases c2 : firstOf s = 249
  · exact number_bad2 a0 b0 B b T s hs (by omega) c2 (by omega) hq w hS hBb hb
  by_cases c3 : 241 ≤ firstOf s
  · exact number_bad3 a0 b0 B b T s hs (by omega) ⟨c3, by omega⟩ (by omega) hq w hS hBb hb
  · exact number_bad4 a0 b0 B b T s hs (by omega) (by omega) (by omega) hq w hS hBb hb
theorem number_ok (he : numE s = 0) : Calls Tryd.prog 54 #[.pointer (some ⟨b, 0, none⟩)] w fun e w' => e = .returned (.tuple #[.int .u64 (U (numV s)), .nilIface]) ∧ Puts w w' b (.cells #[.string (s.extract (numL s) s.size)] T (0, 0)) := by
  have hf := firstOf_lt s
  unfold numE at he
  by_cases h0 : s.size = 0
  · rw [if_pos h0] at he; omega
  rw [if_neg h0] at he
  by_cases h2 : s.size < numL s
  · rw [if_pos h2] at he; omega
  rw [if_neg h2] at he
  have hq : ((bytesF (numV s)).toList == (s.extract 0 (1 + szOf (firstOf s))).toList) = true := by
    rw [toList_beq, decide_eq_true_iff]
    by_cases h : bytesF (numV s) = s.extract 0 (numL s)
    · exact h
    · rw [if_neg h] at he
      omega
  by_cases c1 : 250 ≤ firstOf s
  · exact number_ok1 a0 b0 B b T s hs (by omega) c1 (by omega) hq w hS hBb hb
  by_cases c2 : firstOf s = 249
  · exact number_ok2 a0 b0 B b T s hs (by omega) c2 (by omega) hq w hS hBb hb
  by_cases c3 : 241 ≤ firstOf s
  · exact number_ok3 a0 b0 B b T s hs (by omega) ⟨c3, by omega⟩ (by omega) hq w hS hBb hb
  · exact number_ok4 a0 b0 B b T s hs (by omega) (by omega) (by omega) hq w hS hBb hb
end
end Go.Proofs.YtpekedldoplmmaaDoor
