/-
  Reading a token: number, claim of package token. Printed by gen_tok.py.
-/
import Derived.Test.YtpekedldoplmmaaDoorTokC
import Derived.Test.YtpekedldoplmmaaDoorFldJ
namespace Go.Proofs.YtpekedldoplmmaaDoor
open Go.RowKit Go.Shelf

theorem frz_at {w : World} {b : Nat} {cs : Array Value} {T : TypeId} (h : w.heap[b]? = some (.cells cs T (0, 0))) (i : Nat) : w.frozen? ⟨b, i, none⟩ = false := by simp [World.frozen?, h]
theorem Puts.of_below {w w1 w2 : World} {b : Nat} {o1 o2 : Obj} (hb : w.heap[b]? = some o1) (h : Below w.heap.size w w1) (k : Put w1 w2 b o2) : Puts w w2 b o2 :=
  Puts.trans (Array.getElem?_eq_some_iff.1 hb).1 ⟨w, Put.refl hb, h⟩ ⟨w2, k, Below.refl _ _⟩
/-- What is wrong with a token: the error's value. -/
abbrev wrongV (x : Int) : Value := .iface 45 (.agg #[.int .i64 x])
section
variable (a0 b0 : Addr) (B b : Nat) (T : TypeId) (s : ByteArray) (hs : s.size ≤ 9223372036854775807) (w : World) (hS : Sent a0 b0 B w) (hBb : B ≤ b) (hb : w.heap[b]? = some (.cells #[.string s] T (0, 0)))
include hs hS hb
set_option maxRecDepth 100000 in
theorem tnumber_bad (he : numE s ≠ 0) : Calls Tryd.prog 44 #[.pointer (some ⟨b, 0, none⟩)] w fun e w' => e = .returned (.tuple #[.int .u64 0, wrongV 170]) ∧ Below w.heap.size w w' := by
  have HC := Lib.hid (Get_any a0 b0 s hs B w hS)
  have hc := cell_at hb 0
  rcases numE_cases s with h | h | h
  · rw [h] at HC
    clear h he hS hb hs
    go_enter Tryd.func44, Tryd.ntmps44
    go_wp2_with fail
    with_reducible refine HC.out.mono ?_
    rintro e w1 ⟨rfl, hB1⟩
    have HB1 := Lib.hid hB1
    clear hB1 hc
    go_wp2_with fail
    go_ret2
    exact ⟨rfl, HB1.out⟩
  · rw [h] at HC
    clear h he hS hb hs
    go_enter Tryd.func44, Tryd.ntmps44
    go_wp2_with fail
    with_reducible refine HC.out.mono ?_
    rintro e w1 ⟨rfl, hB1⟩
    have HB1 := Lib.hid hB1
    clear hB1 hc
    go_wp2_with fail
    go_ret2
    exact ⟨rfl, HB1.out⟩
  · exact absurd h he
set_option maxRecDepth 100000 in
theorem tnumber_ok (he : numE s = 0) : Calls Tryd.prog 44 #[.pointer (some ⟨b, 0, none⟩)] w fun e w' => e = .returned (.tuple #[.int .u64 (U (getN s)), .nilIface]) ∧ Puts w w' b (.cells #[.string (getR s)] T (0, 0)) := by
  have HC := Lib.hid (Get_any a0 b0 s hs B w hS)
  have hc := cell_at hb 0
  have Hb := Lib.hid hb
  rw [he] at HC
  clear he hS hs hb
  generalize getN s = n at *
  generalize getR s = R at *
  go_enter Tryd.func44, Tryd.ntmps44
  go_wp2_with fail
  with_reducible refine HC.out.mono ?_
  rintro e w1 ⟨rfl, hB1⟩
  have hb1 := (hB1.block b (Array.getElem?_eq_some_iff.1 Hb.out).1).trans Hb.out
  have hc1 := cell_at hb1 0
  have hf1 := frz_at hb1 0
  have HP := Lib.hid (Puts.of_below Hb.out hB1 ((Put.refl hb1).set 0 (.string R)))
  clear hB1 hc hb1
  go_wp2_with fail
  go_ret2
  exact ⟨rfl, HP.out⟩
end
/-- Is a claim read, and are just eight bytes behind it? -/
def clB (s : ByteArray) : Bool := decide (numE s = 0) && (decide (numE (getR s) = 0) && (decide (numE (getR (getR s)) = 0) && (decide (1 ≤ (getN (getR s)).toNat) && (decide ((getN (getR s)).toNat ≤ 3) && decide ((getR (getR (getR s))).size = 8)))))
def clT (s : ByteArray) : BitVec 64 := getN s
def clR (s : ByteArray) : BitVec 64 := getN (getR s)
def clU (s : ByteArray) : BitVec 64 := getN (getR (getR s))
def clE (s : ByteArray) : ByteArray := getR (getR (getR s))
theorem clB_true {s : ByteArray} (h : clB s = true) : numE s = 0 ∧ numE (getR s) = 0 ∧ numE (getR (getR s)) = 0 ∧ 1 ≤ (clR s).toNat ∧ (clR s).toNat ≤ 3 ∧ (clE s).size = 8 := by
  unfold clB at h
  simp only [Bool.and_eq_true, decide_eq_true_iff] at h
  exact h
theorem clB_of {s : ByteArray} (h : numE s = 0 ∧ numE (getR s) = 0 ∧ numE (getR (getR s)) = 0 ∧ 1 ≤ (clR s).toNat ∧ (clR s).toNat ≤ 3 ∧ (clE s).size = 8) : clB s = true := by
  unfold clB
  simp only [Bool.and_eq_true, decide_eq_true_iff]
  exact h

/-- As the world was, but for block b and what is above its blocks. -/
def But (w : World) (b : Nat) (w' : World) : Prop := w'.os = w.os ∧ w'.tape = w.tape ∧ w'.output = w.output ∧ w.heap.size ≤ w'.heap.size ∧ ∀ k, k < w.heap.size → k ≠ b → w'.heap[k]? = w.heap[k]?
theorem But.of {w w' : World} {b : Nat} (h : Below w.heap.size w w') : But w b w' := ⟨h.os, h.tape, h.output, h.size, fun k hk _ => h.block k hk⟩
theorem But.puts {w w1 w2 : World} {b : Nat} {o : Obj} (h : But w b w1) (hP : Puts w1 w2 b o) : But w b w2 := by
  obtain ⟨u, hp, hB⟩ := hP
  obtain ⟨h1, h2, h3, h4, h5⟩ := h
  refine ⟨hB.os.trans (hp.os.trans h1), hB.tape.trans (hp.tape.trans h2), hB.output.trans (hp.output.trans h3), ?_, fun k hk hkb => ?_⟩
  · have := hB.size; rw [hp.size] at this; omega
  · rw [hB.block k (by rw [hp.size]; omega), hp.other hkb, h5 k hk hkb]
theorem But.put {w w1 w2 : World} {b c : Nat} {o : Obj} (h : But w b w1) (hc : w.heap.size ≤ c) (hp : Put w1 w2 c o) : But w b w2 := by
  obtain ⟨h1, h2, h3, h4, h5⟩ := h
  exact ⟨hp.os.trans h1, hp.tape.trans h2, hp.output.trans h3, by rw [hp.size]; exact h4, fun k hk hkb => by rw [hp.other (by omega), h5 k hk hkb]⟩
theorem But.set {w w1 : World} {b c : Nat} (h : But w b w1) (hc : w.heap.size ≤ c) (i : Nat) (v : Value) : But w b (w1.setCell ⟨c, i, none⟩ v) := by
  obtain ⟨h1, h2, h3, h4, h5⟩ := h
  refine ⟨h1, h2, h3, by simpa using h4, fun k hk hkb => ?_⟩
  rw [Below.heap_setCell w1 ⟨c, i, none⟩ v k (by show k ≠ c; omega), h5 k hk hkb]
theorem But.toPuts {w w' : World} {b : Nat} {o o1 : Obj} (h : But w b w') (hb : w.heap[b]? = some o1) (hg : w'.heap[b]? = some o) : Puts w w' b o := by
  obtain ⟨h1, h2, h3, h4, h5⟩ := h
  refine ⟨{ w with heap := w.heap.setIfInBounds b o }, ⟨rfl, rfl, rfl, rfl⟩, h1, h2, h3, ?_, fun k hk => ?_⟩
  · show (w.heap.setIfInBounds b o).size ≤ _
    rw [Array.size_setIfInBounds]
    exact h4
  · have hk2 : k < w.heap.size := by simpa using hk
    show _ = (w.heap.setIfInBounds b o)[k]?
    by_cases e : k = b
    · subst e
      rw [Array.getElem?_setIfInBounds_self_of_lt hk2]
      exact hg
    · rw [Array.getElem?_setIfInBounds_ne (Ne.symm e)]
      exact h5 k hk2 e

set_option maxRecDepth 100000 in
set_option maxHeartbeats 8000000 in
theorem claim_bad0 (a0 b0 : Addr) (B b : Nat) (s : ByteArray) (hs : s.size ≤ 9223372036854775807) (h0 : numE s ≠ 0) (w : World) (hS : Sent a0 b0 B w) (_hBb : B ≤ b) (hb : w.heap[b]? = some (.cells #[.string s] 66 (0, 0))) :
    Calls Tryd.prog 31 #[.pointer (some ⟨b, 0, none⟩)] w fun e w' => e = .returned (.tuple #[.agg #[.int .u64 0, .int .i64 0, .int .u64 0], wrongV 170]) ∧ Below B w w' := by
  have hlt := (Array.getElem?_eq_some_iff.1 hb).1
  have hBw := hS.bs
  have Hb := Lib.hid hb
  have hRs := getR_size s
  have hRs2 := getR_size (getR s)
  go_enter Tryd.func31, Tryd.ntmps31
  go_wp2_with fail
  have q0 : ((w.alloc (.cells #[.int .u64 0, .int .i64 0, .int .u64 0] 26)).alloc (.cells #[.int .u64 0, .int .u64 0, .int .u64 0] 88)).heap[w.heap.size]? = some (.cells #[.int .u64 0, .int .i64 0, .int .u64 0] 26 (0, 0)) := old_at (new_at _ _ _ rfl)
  have p0 : ((w.alloc (.cells #[.int .u64 0, .int .i64 0, .int .u64 0] 26)).alloc (.cells #[.int .u64 0, .int .u64 0, .int .u64 0] 88)).heap[w.heap.size + 1]? = some (.cells #[.int .u64 0, .int .u64 0, .int .u64 0] 88 (0, 0)) := new_at _ _ _ (by simp)
  have k0 := old_at (o := .cells #[.int .u64 0, .int .u64 0, .int .u64 0] 88) (old_at (o := .cells #[.int .u64 0, .int .i64 0, .int .u64 0] 26) hb)
  have hB0 : Below w.heap.size w ((w.alloc (.cells #[.int .u64 0, .int .i64 0, .int .u64 0] 26)).alloc (.cells #[.int .u64 0, .int .u64 0, .int .u64 0] 88)) := ((Below.refl _ w).alloc (Nat.le_refl _) _).alloc (by simp) _
  have hS0 := hS.later (hB0.mono hBw)
  have hB00 := hB0.mono hBw
  generalize (w.alloc (.cells #[.int .u64 0, .int .i64 0, .int .u64 0] 26)).alloc (.cells #[.int .u64 0, .int .u64 0, .int .u64 0] 88) = u0 at *
  have P0 := Lib.hid p0
  have Q0 := Lib.hid q0
  have K0 := Lib.hid k0
  have S0 := Lib.hid hS0
  have B0 := Lib.hid hB00
  have Z0 : Hid (But w b u0) := Lib.hid (But.of hB0)
  clear p0 q0 k0 hS0 hB00 hS hb hB0
  refine wp_loop_rounds 4 ?_
  rw [rounds_succ]
  go_wp2_with fail
  refine (tnumber_bad a0 b0 B b 66 s (by omega) u0 S0.out K0.out h0).mono ?_
  rintro e v0 ⟨rfl, hBv⟩
  have qv := (hBv.block _ (Array.getElem?_eq_some_iff.1 Q0.out).1).trans Q0.out
  have HB := Lib.hid (B0.out.trans (hBv.mono S0.out.bs))
  have g0 := cell_at qv 0
  have g1 := cell_at qv 1
  have g2 := cell_at qv 2
  have e0 := frz_at qv 0
  have e1 := frz_at qv 1
  have e2 := frz_at qv 2
  clear hBv qv
  go_wp2_with fail
  refine bodyPost_ret (v := .tuple #[.agg #[.int .u64 0, .int .i64 0, .int .u64 0], wrongV 170]) (by simp [results, Tryd.results31, go_sem, g0, g1, g2]) rfl ⟨rfl, ?_⟩
  exact ((HB.out.setCell (by show B ≤ w.heap.size; omega) _).setCell (by show B ≤ w.heap.size; omega) _).setCell (by show B ≤ w.heap.size; omega) _

set_option maxRecDepth 100000 in
set_option maxHeartbeats 8000000 in
theorem claim_bad1 (a0 b0 : Addr) (B b : Nat) (s : ByteArray) (hs : s.size ≤ 9223372036854775807) (h0 : numE s = 0) (h1 : numE (getR s) ≠ 0) (w : World) (hS : Sent a0 b0 B w) (hBb : B ≤ b) (hb : w.heap[b]? = some (.cells #[.string s] 66 (0, 0))) :
    Calls Tryd.prog 31 #[.pointer (some ⟨b, 0, none⟩)] w fun e w' => e = .returned (.tuple #[.agg #[.int .u64 0, .int .i64 0, .int .u64 0], wrongV 170]) ∧ Below B w w' := by
  have hlt := (Array.getElem?_eq_some_iff.1 hb).1
  have hBw := hS.bs
  have Hb := Lib.hid hb
  have hRs := getR_size s
  have hRs2 := getR_size (getR s)
  go_enter Tryd.func31, Tryd.ntmps31
  go_wp2_with fail
  have q0 : ((w.alloc (.cells #[.int .u64 0, .int .i64 0, .int .u64 0] 26)).alloc (.cells #[.int .u64 0, .int .u64 0, .int .u64 0] 88)).heap[w.heap.size]? = some (.cells #[.int .u64 0, .int .i64 0, .int .u64 0] 26 (0, 0)) := old_at (new_at _ _ _ rfl)
  have p0 : ((w.alloc (.cells #[.int .u64 0, .int .i64 0, .int .u64 0] 26)).alloc (.cells #[.int .u64 0, .int .u64 0, .int .u64 0] 88)).heap[w.heap.size + 1]? = some (.cells #[.int .u64 0, .int .u64 0, .int .u64 0] 88 (0, 0)) := new_at _ _ _ (by simp)
  have k0 := old_at (o := .cells #[.int .u64 0, .int .u64 0, .int .u64 0] 88) (old_at (o := .cells #[.int .u64 0, .int .i64 0, .int .u64 0] 26) hb)
  have hB0 : Below w.heap.size w ((w.alloc (.cells #[.int .u64 0, .int .i64 0, .int .u64 0] 26)).alloc (.cells #[.int .u64 0, .int .u64 0, .int .u64 0] 88)) := ((Below.refl _ w).alloc (Nat.le_refl _) _).alloc (by simp) _
  have hS0 := hS.later (hB0.mono hBw)
  have hB00 := hB0.mono hBw
  generalize (w.alloc (.cells #[.int .u64 0, .int .i64 0, .int .u64 0] 26)).alloc (.cells #[.int .u64 0, .int .u64 0, .int .u64 0] 88) = u0 at *
  have P0 := Lib.hid p0
  have Q0 := Lib.hid q0
  have K0 := Lib.hid k0
  have S0 := Lib.hid hS0
  have B0 := Lib.hid hB00
  have Z0 : Hid (But w b u0) := Lib.hid (But.of hB0)
  clear p0 q0 k0 hS0 hB00 hS hb hB0
  refine wp_loop_rounds 4 ?_
  rw [rounds_succ]
  go_wp2_with fail
  refine (tnumber_ok a0 b0 B b 66 s (by omega) u0 S0.out K0.out h0).mono ?_
  rintro e v0 ⟨rfl, hP⟩
  have hBv := hP.below hBb S0.out.bs
  have kv := hP.get (Array.getElem?_eq_some_iff.1 K0.out).1
  have pv := hP.other (show w.heap.size + 1 ≠ b by omega) P0.out
  have qv := hP.other (show w.heap.size ≠ b by omega) Q0.out
  have hPz := hP.size
  have hx := (Put.refl pv).set 0 (.int .u64 (U (getN s)))
  have hxk := hx.other (show b ≠ w.heap.size + 1 by omega)
  have hxq := hx.other (show w.heap.size ≠ w.heap.size + 1 by omega)
  have hxp := hx.get (Array.getElem?_eq_some_iff.1 pv).1
  have hxb := hx.below (show B ≤ w.heap.size + 1 by omega)
  have f0 := frz_at pv 0
  have c0 := cell_at pv 0
  have K1 := Lib.hid (hxk.trans kv)
  have Q1 := Lib.hid (hxq.trans qv)
  have P1 := Lib.hid (show _ = some (Obj.cells #[.int .u64 (U (getN s)), .int .u64 0, .int .u64 0] 88 (0, 0)) from hxp)
  have S1 := Lib.hid ((S0.out.later hBv).later hxb)
  have B1 := Lib.hid ((B0.out.trans hBv).trans hxb)
  have Z1 := Lib.hid (Z0.out.puts hP |>.put (Nat.le_succ _) hx)
  clear hP hBv kv pv qv hPz hx hxk hxq hxp hxb
  go_wp2_with fail
  clear f0 c0
  generalize (v0.setCell ⟨w.heap.size + 1, 0, none⟩ (.int .u64 (U (getN s)))) = u1 at *
  rw [rounds_succ]
  go_wp2_with fail
  refine (tnumber_bad a0 b0 B b 66 (getR s) (by omega) u1 S1.out K1.out h1).mono ?_
  rintro e v1 ⟨rfl, hBv⟩
  have qv := (hBv.block _ (Array.getElem?_eq_some_iff.1 Q1.out).1).trans Q1.out
  have HB := Lib.hid (B1.out.trans (hBv.mono S1.out.bs))
  have g0 := cell_at qv 0
  have g1 := cell_at qv 1
  have g2 := cell_at qv 2
  have e0 := frz_at qv 0
  have e1 := frz_at qv 1
  have e2 := frz_at qv 2
  clear hBv qv
  go_wp2_with fail
  refine bodyPost_ret (v := .tuple #[.agg #[.int .u64 0, .int .i64 0, .int .u64 0], wrongV 170]) (by simp [results, Tryd.results31, go_sem, g0, g1, g2]) rfl ⟨rfl, ?_⟩
  exact ((HB.out.setCell (by show B ≤ w.heap.size; omega) _).setCell (by show B ≤ w.heap.size; omega) _).setCell (by show B ≤ w.heap.size; omega) _

set_option maxRecDepth 100000 in
set_option maxHeartbeats 8000000 in
theorem claim_bad2 (a0 b0 : Addr) (B b : Nat) (s : ByteArray) (hs : s.size ≤ 9223372036854775807) (h0 : numE s = 0) (h1 : numE (getR s) = 0) (h2 : numE (getR (getR s)) ≠ 0) (w : World) (hS : Sent a0 b0 B w) (hBb : B ≤ b) (hb : w.heap[b]? = some (.cells #[.string s] 66 (0, 0))) :
    Calls Tryd.prog 31 #[.pointer (some ⟨b, 0, none⟩)] w fun e w' => e = .returned (.tuple #[.agg #[.int .u64 0, .int .i64 0, .int .u64 0], wrongV 170]) ∧ Below B w w' := by
  have hlt := (Array.getElem?_eq_some_iff.1 hb).1
  have hBw := hS.bs
  have Hb := Lib.hid hb
  have hRs := getR_size s
  have hRs2 := getR_size (getR s)
  go_enter Tryd.func31, Tryd.ntmps31
  go_wp2_with fail
  have q0 : ((w.alloc (.cells #[.int .u64 0, .int .i64 0, .int .u64 0] 26)).alloc (.cells #[.int .u64 0, .int .u64 0, .int .u64 0] 88)).heap[w.heap.size]? = some (.cells #[.int .u64 0, .int .i64 0, .int .u64 0] 26 (0, 0)) := old_at (new_at _ _ _ rfl)
  have p0 : ((w.alloc (.cells #[.int .u64 0, .int .i64 0, .int .u64 0] 26)).alloc (.cells #[.int .u64 0, .int .u64 0, .int .u64 0] 88)).heap[w.heap.size + 1]? = some (.cells #[.int .u64 0, .int .u64 0, .int .u64 0] 88 (0, 0)) := new_at _ _ _ (by simp)
  have k0 := old_at (o := .cells #[.int .u64 0, .int .u64 0, .int .u64 0] 88) (old_at (o := .cells #[.int .u64 0, .int .i64 0, .int .u64 0] 26) hb)
  have hB0 : Below w.heap.size w ((w.alloc (.cells #[.int .u64 0, .int .i64 0, .int .u64 0] 26)).alloc (.cells #[.int .u64 0, .int .u64 0, .int .u64 0] 88)) := ((Below.refl _ w).alloc (Nat.le_refl _) _).alloc (by simp) _
  have hS0 := hS.later (hB0.mono hBw)
  have hB00 := hB0.mono hBw
  generalize (w.alloc (.cells #[.int .u64 0, .int .i64 0, .int .u64 0] 26)).alloc (.cells #[.int .u64 0, .int .u64 0, .int .u64 0] 88) = u0 at *
  have P0 := Lib.hid p0
  have Q0 := Lib.hid q0
  have K0 := Lib.hid k0
  have S0 := Lib.hid hS0
  have B0 := Lib.hid hB00
  have Z0 : Hid (But w b u0) := Lib.hid (But.of hB0)
  clear p0 q0 k0 hS0 hB00 hS hb hB0
  refine wp_loop_rounds 4 ?_
  rw [rounds_succ]
  go_wp2_with fail
  refine (tnumber_ok a0 b0 B b 66 s (by omega) u0 S0.out K0.out h0).mono ?_
  rintro e v0 ⟨rfl, hP⟩
  have hBv := hP.below hBb S0.out.bs
  have kv := hP.get (Array.getElem?_eq_some_iff.1 K0.out).1
  have pv := hP.other (show w.heap.size + 1 ≠ b by omega) P0.out
  have qv := hP.other (show w.heap.size ≠ b by omega) Q0.out
  have hPz := hP.size
  have hx := (Put.refl pv).set 0 (.int .u64 (U (getN s)))
  have hxk := hx.other (show b ≠ w.heap.size + 1 by omega)
  have hxq := hx.other (show w.heap.size ≠ w.heap.size + 1 by omega)
  have hxp := hx.get (Array.getElem?_eq_some_iff.1 pv).1
  have hxb := hx.below (show B ≤ w.heap.size + 1 by omega)
  have f0 := frz_at pv 0
  have c0 := cell_at pv 0
  have K1 := Lib.hid (hxk.trans kv)
  have Q1 := Lib.hid (hxq.trans qv)
  have P1 := Lib.hid (show _ = some (Obj.cells #[.int .u64 (U (getN s)), .int .u64 0, .int .u64 0] 88 (0, 0)) from hxp)
  have S1 := Lib.hid ((S0.out.later hBv).later hxb)
  have B1 := Lib.hid ((B0.out.trans hBv).trans hxb)
  have Z1 := Lib.hid (Z0.out.puts hP |>.put (Nat.le_succ _) hx)
  clear hP hBv kv pv qv hPz hx hxk hxq hxp hxb
  go_wp2_with fail
  clear f0 c0
  generalize (v0.setCell ⟨w.heap.size + 1, 0, none⟩ (.int .u64 (U (getN s)))) = u1 at *
  rw [rounds_succ]
  go_wp2_with fail
  refine (tnumber_ok a0 b0 B b 66 (getR s) (by omega) u1 S1.out K1.out h1).mono ?_
  rintro e v1 ⟨rfl, hP⟩
  have hBv := hP.below hBb S1.out.bs
  have kv := hP.get (Array.getElem?_eq_some_iff.1 K1.out).1
  have pv := hP.other (show w.heap.size + 1 ≠ b by omega) P1.out
  have qv := hP.other (show w.heap.size ≠ b by omega) Q1.out
  have hPz := hP.size
  have hx := (Put.refl pv).set 1 (.int .u64 (U (getN (getR s))))
  have hxk := hx.other (show b ≠ w.heap.size + 1 by omega)
  have hxq := hx.other (show w.heap.size ≠ w.heap.size + 1 by omega)
  have hxp := hx.get (Array.getElem?_eq_some_iff.1 pv).1
  have hxb := hx.below (show B ≤ w.heap.size + 1 by omega)
  have f1 := frz_at pv 1
  have c1 := cell_at pv 1
  have K2 := Lib.hid (hxk.trans kv)
  have Q2 := Lib.hid (hxq.trans qv)
  have P2 := Lib.hid (show _ = some (Obj.cells #[.int .u64 (U (getN s)), .int .u64 (U (getN (getR s))), .int .u64 0] 88 (0, 0)) from hxp)
  have S2 := Lib.hid ((S1.out.later hBv).later hxb)
  have B2 := Lib.hid ((B1.out.trans hBv).trans hxb)
  have Z2 := Lib.hid (Z1.out.puts hP |>.put (Nat.le_succ _) hx)
  clear hP hBv kv pv qv hPz hx hxk hxq hxp hxb
  go_wp2_with fail
  clear f1 c1
  generalize (v1.setCell ⟨w.heap.size + 1, 1, none⟩ (.int .u64 (U (getN (getR s))))) = u2 at *
  rw [rounds_succ]
  go_wp2_with fail
  refine (tnumber_bad a0 b0 B b 66 (getR (getR s)) (by omega) u2 S2.out K2.out h2).mono ?_
  rintro e v2 ⟨rfl, hBv⟩
  have qv := (hBv.block _ (Array.getElem?_eq_some_iff.1 Q2.out).1).trans Q2.out
  have HB := Lib.hid (B2.out.trans (hBv.mono S2.out.bs))
  have g0 := cell_at qv 0
  have g1 := cell_at qv 1
  have g2 := cell_at qv 2
  have e0 := frz_at qv 0
  have e1 := frz_at qv 1
  have e2 := frz_at qv 2
  clear hBv qv
  go_wp2_with fail
  refine bodyPost_ret (v := .tuple #[.agg #[.int .u64 0, .int .i64 0, .int .u64 0], wrongV 170]) (by simp [results, Tryd.results31, go_sem, g0, g1, g2]) rfl ⟨rfl, ?_⟩
  exact ((HB.out.setCell (by show B ≤ w.heap.size; omega) _).setCell (by show B ≤ w.heap.size; omega) _).setCell (by show B ≤ w.heap.size; omega) _

set_option maxRecDepth 100000 in
set_option maxHeartbeats 8000000 in
theorem claim_lo (a0 b0 : Addr) (B b : Nat) (s : ByteArray) (hs : s.size ≤ 9223372036854775807) (h0 : numE s = 0) (h1 : numE (getR s) = 0) (h2 : numE (getR (getR s)) = 0) (h3 : (clR s).toNat < 1) (w : World) (hS : Sent a0 b0 B w) (hBb : B ≤ b) (hb : w.heap[b]? = some (.cells #[.string s] 66 (0, 0))) :
    Calls Tryd.prog 31 #[.pointer (some ⟨b, 0, none⟩)] w fun e w' => e = .returned (.tuple #[.agg #[.int .u64 0, .int .i64 0, .int .u64 0], wrongV 170]) ∧ Below B w w' := by
  have hlt := (Array.getElem?_eq_some_iff.1 hb).1
  have hBw := hS.bs
  have Hb := Lib.hid hb
  have hRs := getR_size s
  have hRs2 := getR_size (getR s)
  go_enter Tryd.func31, Tryd.ntmps31
  go_wp2_with fail
  have q0 : ((w.alloc (.cells #[.int .u64 0, .int .i64 0, .int .u64 0] 26)).alloc (.cells #[.int .u64 0, .int .u64 0, .int .u64 0] 88)).heap[w.heap.size]? = some (.cells #[.int .u64 0, .int .i64 0, .int .u64 0] 26 (0, 0)) := old_at (new_at _ _ _ rfl)
  have p0 : ((w.alloc (.cells #[.int .u64 0, .int .i64 0, .int .u64 0] 26)).alloc (.cells #[.int .u64 0, .int .u64 0, .int .u64 0] 88)).heap[w.heap.size + 1]? = some (.cells #[.int .u64 0, .int .u64 0, .int .u64 0] 88 (0, 0)) := new_at _ _ _ (by simp)
  have k0 := old_at (o := .cells #[.int .u64 0, .int .u64 0, .int .u64 0] 88) (old_at (o := .cells #[.int .u64 0, .int .i64 0, .int .u64 0] 26) hb)
  have hB0 : Below w.heap.size w ((w.alloc (.cells #[.int .u64 0, .int .i64 0, .int .u64 0] 26)).alloc (.cells #[.int .u64 0, .int .u64 0, .int .u64 0] 88)) := ((Below.refl _ w).alloc (Nat.le_refl _) _).alloc (by simp) _
  have hS0 := hS.later (hB0.mono hBw)
  have hB00 := hB0.mono hBw
  generalize (w.alloc (.cells #[.int .u64 0, .int .i64 0, .int .u64 0] 26)).alloc (.cells #[.int .u64 0, .int .u64 0, .int .u64 0] 88) = u0 at *
  have P0 := Lib.hid p0
  have Q0 := Lib.hid q0
  have K0 := Lib.hid k0
  have S0 := Lib.hid hS0
  have B0 := Lib.hid hB00
  have Z0 : Hid (But w b u0) := Lib.hid (But.of hB0)
  clear p0 q0 k0 hS0 hB00 hS hb hB0
  refine wp_loop_rounds 4 ?_
  rw [rounds_succ]
  go_wp2_with fail
  refine (tnumber_ok a0 b0 B b 66 s (by omega) u0 S0.out K0.out h0).mono ?_
  rintro e v0 ⟨rfl, hP⟩
  have hBv := hP.below hBb S0.out.bs
  have kv := hP.get (Array.getElem?_eq_some_iff.1 K0.out).1
  have pv := hP.other (show w.heap.size + 1 ≠ b by omega) P0.out
  have qv := hP.other (show w.heap.size ≠ b by omega) Q0.out
  have hPz := hP.size
  have hx := (Put.refl pv).set 0 (.int .u64 (U (getN s)))
  have hxk := hx.other (show b ≠ w.heap.size + 1 by omega)
  have hxq := hx.other (show w.heap.size ≠ w.heap.size + 1 by omega)
  have hxp := hx.get (Array.getElem?_eq_some_iff.1 pv).1
  have hxb := hx.below (show B ≤ w.heap.size + 1 by omega)
  have f0 := frz_at pv 0
  have c0 := cell_at pv 0
  have K1 := Lib.hid (hxk.trans kv)
  have Q1 := Lib.hid (hxq.trans qv)
  have P1 := Lib.hid (show _ = some (Obj.cells #[.int .u64 (U (getN s)), .int .u64 0, .int .u64 0] 88 (0, 0)) from hxp)
  have S1 := Lib.hid ((S0.out.later hBv).later hxb)
  have B1 := Lib.hid ((B0.out.trans hBv).trans hxb)
  have Z1 := Lib.hid (Z0.out.puts hP |>.put (Nat.le_succ _) hx)
  clear hP hBv kv pv qv hPz hx hxk hxq hxp hxb
  go_wp2_with fail
  clear f0 c0
  generalize (v0.setCell ⟨w.heap.size + 1, 0, none⟩ (.int .u64 (U (getN s)))) = u1 at *
  rw [rounds_succ]
  go_wp2_with fail
  refine (tnumber_ok a0 b0 B b 66 (getR s) (by omega) u1 S1.out K1.out h1).mono ?_
  rintro e v1 ⟨rfl, hP⟩
  have hBv := hP.below hBb S1.out.bs
  have kv := hP.get (Array.getElem?_eq_some_iff.1 K1.out).1
  have pv := hP.other (show w.heap.size + 1 ≠ b by omega) P1.out
  have qv := hP.other (show w.heap.size ≠ b by omega) Q1.out
  have hPz := hP.size
  have hx := (Put.refl pv).set 1 (.int .u64 (U (getN (getR s))))
  have hxk := hx.other (show b ≠ w.heap.size + 1 by omega)
  have hxq := hx.other (show w.heap.size ≠ w.heap.size + 1 by omega)
  have hxp := hx.get (Array.getElem?_eq_some_iff.1 pv).1
  have hxb := hx.below (show B ≤ w.heap.size + 1 by omega)
  have f1 := frz_at pv 1
  have c1 := cell_at pv 1
  have K2 := Lib.hid (hxk.trans kv)
  have Q2 := Lib.hid (hxq.trans qv)
  have P2 := Lib.hid (show _ = some (Obj.cells #[.int .u64 (U (getN s)), .int .u64 (U (getN (getR s))), .int .u64 0] 88 (0, 0)) from hxp)
  have S2 := Lib.hid ((S1.out.later hBv).later hxb)
  have B2 := Lib.hid ((B1.out.trans hBv).trans hxb)
  have Z2 := Lib.hid (Z1.out.puts hP |>.put (Nat.le_succ _) hx)
  clear hP hBv kv pv qv hPz hx hxk hxq hxp hxb
  go_wp2_with fail
  clear f1 c1
  generalize (v1.setCell ⟨w.heap.size + 1, 1, none⟩ (.int .u64 (U (getN (getR s))))) = u2 at *
  rw [rounds_succ]
  go_wp2_with fail
  refine (tnumber_ok a0 b0 B b 66 (getR (getR s)) (by omega) u2 S2.out K2.out h2).mono ?_
  rintro e v2 ⟨rfl, hP⟩
  have hBv := hP.below hBb S2.out.bs
  have kv := hP.get (Array.getElem?_eq_some_iff.1 K2.out).1
  have pv := hP.other (show w.heap.size + 1 ≠ b by omega) P2.out
  have qv := hP.other (show w.heap.size ≠ b by omega) Q2.out
  have hPz := hP.size
  have hx := (Put.refl pv).set 2 (.int .u64 (U (getN (getR (getR s)))))
  have hxk := hx.other (show b ≠ w.heap.size + 1 by omega)
  have hxq := hx.other (show w.heap.size ≠ w.heap.size + 1 by omega)
  have hxp := hx.get (Array.getElem?_eq_some_iff.1 pv).1
  have hxb := hx.below (show B ≤ w.heap.size + 1 by omega)
  have f2 := frz_at pv 2
  have c2 := cell_at pv 2
  have K3 := Lib.hid (hxk.trans kv)
  have Q3 := Lib.hid (hxq.trans qv)
  have P3 := Lib.hid (show _ = some (Obj.cells #[.int .u64 (U (getN s)), .int .u64 (U (getN (getR s))), .int .u64 (U (getN (getR (getR s))))] 88 (0, 0)) from hxp)
  have S3 := Lib.hid ((S2.out.later hBv).later hxb)
  have B3 := Lib.hid ((B2.out.trans hBv).trans hxb)
  have Z3 := Lib.hid (Z2.out.puts hP |>.put (Nat.le_succ _) hx)
  clear hP hBv kv pv qv hPz hx hxk hxq hxp hxb
  go_wp2_with fail
  clear f2 c2
  generalize (v2.setCell ⟨w.heap.size + 1, 2, none⟩ (.int .u64 (U (getN (getR (getR s)))))) = u3 at *
  have eT : getN s = clT s := rfl
  have eR : getN (getR s) = clR s := rfl
  have eU : getN (getR (getR s)) = clU s := rfl
  have eE : getR (getR (getR s)) = clE s := rfl
  rw [eT, eR, eU] at P3
  rw [eE] at K3
  have hU : U (clR s) = ((clR s).toNat : Int) := rfl
  have a0' := cell_at P3.out 0
  have a1' := cell_at P3.out 1
  have a2' := cell_at P3.out 2
  have kk := cell_at K3.out 0
  have g0 := cell_at Q3.out 0
  have g1 := cell_at Q3.out 1
  have g2 := cell_at Q3.out 2
  have e0 := frz_at Q3.out 0
  have e1 := frz_at Q3.out 1
  have e2 := frz_at Q3.out 2
  have m1 : U (clR s) < 1 := by omega
  clear eT eR eU eE hU h0 h1 h2 h3
  rw [rounds_succ]
  go_wp2_with fail
  refine bodyPost_ret (v := .tuple #[.agg #[.int .u64 0, .int .i64 0, .int .u64 0], wrongV 170]) (by simp [results, Tryd.results31, go_sem, g0, g1, g2]) rfl ⟨rfl, ?_⟩
  exact ((B3.out.setCell (by show B ≤ w.heap.size; omega) _).setCell (by show B ≤ w.heap.size; omega) _).setCell (by show B ≤ w.heap.size; omega) _

set_option maxRecDepth 100000 in
set_option maxHeartbeats 8000000 in
theorem claim_hi (a0 b0 : Addr) (B b : Nat) (s : ByteArray) (hs : s.size ≤ 9223372036854775807) (h0 : numE s = 0) (h1 : numE (getR s) = 0) (h2 : numE (getR (getR s)) = 0) (h3 : 3 < (clR s).toNat) (w : World) (hS : Sent a0 b0 B w) (hBb : B ≤ b) (hb : w.heap[b]? = some (.cells #[.string s] 66 (0, 0))) :
    Calls Tryd.prog 31 #[.pointer (some ⟨b, 0, none⟩)] w fun e w' => e = .returned (.tuple #[.agg #[.int .u64 0, .int .i64 0, .int .u64 0], wrongV 170]) ∧ Below B w w' := by
  have hlt := (Array.getElem?_eq_some_iff.1 hb).1
  have hBw := hS.bs
  have Hb := Lib.hid hb
  have hRs := getR_size s
  have hRs2 := getR_size (getR s)
  go_enter Tryd.func31, Tryd.ntmps31
  go_wp2_with fail
  have q0 : ((w.alloc (.cells #[.int .u64 0, .int .i64 0, .int .u64 0] 26)).alloc (.cells #[.int .u64 0, .int .u64 0, .int .u64 0] 88)).heap[w.heap.size]? = some (.cells #[.int .u64 0, .int .i64 0, .int .u64 0] 26 (0, 0)) := old_at (new_at _ _ _ rfl)
  have p0 : ((w.alloc (.cells #[.int .u64 0, .int .i64 0, .int .u64 0] 26)).alloc (.cells #[.int .u64 0, .int .u64 0, .int .u64 0] 88)).heap[w.heap.size + 1]? = some (.cells #[.int .u64 0, .int .u64 0, .int .u64 0] 88 (0, 0)) := new_at _ _ _ (by simp)
  have k0 := old_at (o := .cells #[.int .u64 0, .int .u64 0, .int .u64 0] 88) (old_at (o := .cells #[.int .u64 0, .int .i64 0, .int .u64 0] 26) hb)
  have hB0 : Below w.heap.size w ((w.alloc (.cells #[.int .u64 0, .int .i64 0, .int .u64 0] 26)).alloc (.cells #[.int .u64 0, .int .u64 0, .int .u64 0] 88)) := ((Below.refl _ w).alloc (Nat.le_refl _) _).alloc (by simp) _
  have hS0 := hS.later (hB0.mono hBw)
  have hB00 := hB0.mono hBw
  generalize (w.alloc (.cells #[.int .u64 0, .int .i64 0, .int .u64 0] 26)).alloc (.cells #[.int .u64 0, .int .u64 0, .int .u64 0] 88) = u0 at *
  have P0 := Lib.hid p0
  have Q0 := Lib.hid q0
  have K0 := Lib.hid k0
  have S0 := Lib.hid hS0
  have B0 := Lib.hid hB00
  have Z0 : Hid (But w b u0) := Lib.hid (But.of hB0)
  clear p0 q0 k0 hS0 hB00 hS hb hB0
  refine wp_loop_rounds 4 ?_
  rw [rounds_succ]
  go_wp2_with fail
  refine (tnumber_ok a0 b0 B b 66 s (by omega) u0 S0.out K0.out h0).mono ?_
  rintro e v0 ⟨rfl, hP⟩
  have hBv := hP.below hBb S0.out.bs
  have kv := hP.get (Array.getElem?_eq_some_iff.1 K0.out).1
  have pv := hP.other (show w.heap.size + 1 ≠ b by omega) P0.out
  have qv := hP.other (show w.heap.size ≠ b by omega) Q0.out
  have hPz := hP.size
  have hx := (Put.refl pv).set 0 (.int .u64 (U (getN s)))
  have hxk := hx.other (show b ≠ w.heap.size + 1 by omega)
  have hxq := hx.other (show w.heap.size ≠ w.heap.size + 1 by omega)
  have hxp := hx.get (Array.getElem?_eq_some_iff.1 pv).1
  have hxb := hx.below (show B ≤ w.heap.size + 1 by omega)
  have f0 := frz_at pv 0
  have c0 := cell_at pv 0
  have K1 := Lib.hid (hxk.trans kv)
  have Q1 := Lib.hid (hxq.trans qv)
  have P1 := Lib.hid (show _ = some (Obj.cells #[.int .u64 (U (getN s)), .int .u64 0, .int .u64 0] 88 (0, 0)) from hxp)
  have S1 := Lib.hid ((S0.out.later hBv).later hxb)
  have B1 := Lib.hid ((B0.out.trans hBv).trans hxb)
  have Z1 := Lib.hid (Z0.out.puts hP |>.put (Nat.le_succ _) hx)
  clear hP hBv kv pv qv hPz hx hxk hxq hxp hxb
  go_wp2_with fail
  clear f0 c0
  generalize (v0.setCell ⟨w.heap.size + 1, 0, none⟩ (.int .u64 (U (getN s)))) = u1 at *
  rw [rounds_succ]
  go_wp2_with fail
  refine (tnumber_ok a0 b0 B b 66 (getR s) (by omega) u1 S1.out K1.out h1).mono ?_
  rintro e v1 ⟨rfl, hP⟩
  have hBv := hP.below hBb S1.out.bs
  have kv := hP.get (Array.getElem?_eq_some_iff.1 K1.out).1
  have pv := hP.other (show w.heap.size + 1 ≠ b by omega) P1.out
  have qv := hP.other (show w.heap.size ≠ b by omega) Q1.out
  have hPz := hP.size
  have hx := (Put.refl pv).set 1 (.int .u64 (U (getN (getR s))))
  have hxk := hx.other (show b ≠ w.heap.size + 1 by omega)
  have hxq := hx.other (show w.heap.size ≠ w.heap.size + 1 by omega)
  have hxp := hx.get (Array.getElem?_eq_some_iff.1 pv).1
  have hxb := hx.below (show B ≤ w.heap.size + 1 by omega)
  have f1 := frz_at pv 1
  have c1 := cell_at pv 1
  have K2 := Lib.hid (hxk.trans kv)
  have Q2 := Lib.hid (hxq.trans qv)
  have P2 := Lib.hid (show _ = some (Obj.cells #[.int .u64 (U (getN s)), .int .u64 (U (getN (getR s))), .int .u64 0] 88 (0, 0)) from hxp)
  have S2 := Lib.hid ((S1.out.later hBv).later hxb)
  have B2 := Lib.hid ((B1.out.trans hBv).trans hxb)
  have Z2 := Lib.hid (Z1.out.puts hP |>.put (Nat.le_succ _) hx)
  clear hP hBv kv pv qv hPz hx hxk hxq hxp hxb
  go_wp2_with fail
  clear f1 c1
  generalize (v1.setCell ⟨w.heap.size + 1, 1, none⟩ (.int .u64 (U (getN (getR s))))) = u2 at *
  rw [rounds_succ]
  go_wp2_with fail
  refine (tnumber_ok a0 b0 B b 66 (getR (getR s)) (by omega) u2 S2.out K2.out h2).mono ?_
  rintro e v2 ⟨rfl, hP⟩
  have hBv := hP.below hBb S2.out.bs
  have kv := hP.get (Array.getElem?_eq_some_iff.1 K2.out).1
  have pv := hP.other (show w.heap.size + 1 ≠ b by omega) P2.out
  have qv := hP.other (show w.heap.size ≠ b by omega) Q2.out
  have hPz := hP.size
  have hx := (Put.refl pv).set 2 (.int .u64 (U (getN (getR (getR s)))))
  have hxk := hx.other (show b ≠ w.heap.size + 1 by omega)
  have hxq := hx.other (show w.heap.size ≠ w.heap.size + 1 by omega)
  have hxp := hx.get (Array.getElem?_eq_some_iff.1 pv).1
  have hxb := hx.below (show B ≤ w.heap.size + 1 by omega)
  have f2 := frz_at pv 2
  have c2 := cell_at pv 2
  have K3 := Lib.hid (hxk.trans kv)
  have Q3 := Lib.hid (hxq.trans qv)
  have P3 := Lib.hid (show _ = some (Obj.cells #[.int .u64 (U (getN s)), .int .u64 (U (getN (getR s))), .int .u64 (U (getN (getR (getR s))))] 88 (0, 0)) from hxp)
  have S3 := Lib.hid ((S2.out.later hBv).later hxb)
  have B3 := Lib.hid ((B2.out.trans hBv).trans hxb)
  have Z3 := Lib.hid (Z2.out.puts hP |>.put (Nat.le_succ _) hx)
  clear hP hBv kv pv qv hPz hx hxk hxq hxp hxb
  go_wp2_with fail
  clear f2 c2
  generalize (v2.setCell ⟨w.heap.size + 1, 2, none⟩ (.int .u64 (U (getN (getR (getR s)))))) = u3 at *
  have eT : getN s = clT s := rfl
  have eR : getN (getR s) = clR s := rfl
  have eU : getN (getR (getR s)) = clU s := rfl
  have eE : getR (getR (getR s)) = clE s := rfl
  rw [eT, eR, eU] at P3
  rw [eE] at K3
  have hU : U (clR s) = ((clR s).toNat : Int) := rfl
  have a0' := cell_at P3.out 0
  have a1' := cell_at P3.out 1
  have a2' := cell_at P3.out 2
  have kk := cell_at K3.out 0
  have g0 := cell_at Q3.out 0
  have g1 := cell_at Q3.out 1
  have g2 := cell_at Q3.out 2
  have e0 := frz_at Q3.out 0
  have e1 := frz_at Q3.out 1
  have e2 := frz_at Q3.out 2
  have m1 : ¬ U (clR s) < 1 := by omega
  have m2 : 3 < U (clR s) := by omega
  clear eT eR eU eE hU h0 h1 h2 h3
  rw [rounds_succ]
  go_wp2_with fail
  refine bodyPost_ret (v := .tuple #[.agg #[.int .u64 0, .int .i64 0, .int .u64 0], wrongV 170]) (by simp [results, Tryd.results31, go_sem, g0, g1, g2]) rfl ⟨rfl, ?_⟩
  exact ((B3.out.setCell (by show B ≤ w.heap.size; omega) _).setCell (by show B ≤ w.heap.size; omega) _).setCell (by show B ≤ w.heap.size; omega) _

set_option maxRecDepth 100000 in
set_option maxHeartbeats 8000000 in
theorem claim_len (a0 b0 : Addr) (B b : Nat) (s : ByteArray) (hs : s.size ≤ 9223372036854775807) (h0 : numE s = 0) (h1 : numE (getR s) = 0) (h2 : numE (getR (getR s)) = 0) (h3 : 1 ≤ (clR s).toNat) (h4 : (clR s).toNat ≤ 3) (h5 : (clE s).size ≠ 8) (w : World) (hS : Sent a0 b0 B w) (hBb : B ≤ b) (hb : w.heap[b]? = some (.cells #[.string s] 66 (0, 0))) :
    Calls Tryd.prog 31 #[.pointer (some ⟨b, 0, none⟩)] w fun e w' => e = .returned (.tuple #[.agg #[.int .u64 0, .int .i64 0, .int .u64 0], wrongV 170]) ∧ Below B w w' := by
  have hlt := (Array.getElem?_eq_some_iff.1 hb).1
  have hBw := hS.bs
  have Hb := Lib.hid hb
  have hRs := getR_size s
  have hRs2 := getR_size (getR s)
  go_enter Tryd.func31, Tryd.ntmps31
  go_wp2_with fail
  have q0 : ((w.alloc (.cells #[.int .u64 0, .int .i64 0, .int .u64 0] 26)).alloc (.cells #[.int .u64 0, .int .u64 0, .int .u64 0] 88)).heap[w.heap.size]? = some (.cells #[.int .u64 0, .int .i64 0, .int .u64 0] 26 (0, 0)) := old_at (new_at _ _ _ rfl)
  have p0 : ((w.alloc (.cells #[.int .u64 0, .int .i64 0, .int .u64 0] 26)).alloc (.cells #[.int .u64 0, .int .u64 0, .int .u64 0] 88)).heap[w.heap.size + 1]? = some (.cells #[.int .u64 0, .int .u64 0, .int .u64 0] 88 (0, 0)) := new_at _ _ _ (by simp)
  have k0 := old_at (o := .cells #[.int .u64 0, .int .u64 0, .int .u64 0] 88) (old_at (o := .cells #[.int .u64 0, .int .i64 0, .int .u64 0] 26) hb)
  have hB0 : Below w.heap.size w ((w.alloc (.cells #[.int .u64 0, .int .i64 0, .int .u64 0] 26)).alloc (.cells #[.int .u64 0, .int .u64 0, .int .u64 0] 88)) := ((Below.refl _ w).alloc (Nat.le_refl _) _).alloc (by simp) _
  have hS0 := hS.later (hB0.mono hBw)
  have hB00 := hB0.mono hBw
  generalize (w.alloc (.cells #[.int .u64 0, .int .i64 0, .int .u64 0] 26)).alloc (.cells #[.int .u64 0, .int .u64 0, .int .u64 0] 88) = u0 at *
  have P0 := Lib.hid p0
  have Q0 := Lib.hid q0
  have K0 := Lib.hid k0
  have S0 := Lib.hid hS0
  have B0 := Lib.hid hB00
  have Z0 : Hid (But w b u0) := Lib.hid (But.of hB0)
  clear p0 q0 k0 hS0 hB00 hS hb hB0
  refine wp_loop_rounds 4 ?_
  rw [rounds_succ]
  go_wp2_with fail
  refine (tnumber_ok a0 b0 B b 66 s (by omega) u0 S0.out K0.out h0).mono ?_
  rintro e v0 ⟨rfl, hP⟩
  have hBv := hP.below hBb S0.out.bs
  have kv := hP.get (Array.getElem?_eq_some_iff.1 K0.out).1
  have pv := hP.other (show w.heap.size + 1 ≠ b by omega) P0.out
  have qv := hP.other (show w.heap.size ≠ b by omega) Q0.out
  have hPz := hP.size
  have hx := (Put.refl pv).set 0 (.int .u64 (U (getN s)))
  have hxk := hx.other (show b ≠ w.heap.size + 1 by omega)
  have hxq := hx.other (show w.heap.size ≠ w.heap.size + 1 by omega)
  have hxp := hx.get (Array.getElem?_eq_some_iff.1 pv).1
  have hxb := hx.below (show B ≤ w.heap.size + 1 by omega)
  have f0 := frz_at pv 0
  have c0 := cell_at pv 0
  have K1 := Lib.hid (hxk.trans kv)
  have Q1 := Lib.hid (hxq.trans qv)
  have P1 := Lib.hid (show _ = some (Obj.cells #[.int .u64 (U (getN s)), .int .u64 0, .int .u64 0] 88 (0, 0)) from hxp)
  have S1 := Lib.hid ((S0.out.later hBv).later hxb)
  have B1 := Lib.hid ((B0.out.trans hBv).trans hxb)
  have Z1 := Lib.hid (Z0.out.puts hP |>.put (Nat.le_succ _) hx)
  clear hP hBv kv pv qv hPz hx hxk hxq hxp hxb
  go_wp2_with fail
  clear f0 c0
  generalize (v0.setCell ⟨w.heap.size + 1, 0, none⟩ (.int .u64 (U (getN s)))) = u1 at *
  rw [rounds_succ]
  go_wp2_with fail
  refine (tnumber_ok a0 b0 B b 66 (getR s) (by omega) u1 S1.out K1.out h1).mono ?_
  rintro e v1 ⟨rfl, hP⟩
  have hBv := hP.below hBb S1.out.bs
  have kv := hP.get (Array.getElem?_eq_some_iff.1 K1.out).1
  have pv := hP.other (show w.heap.size + 1 ≠ b by omega) P1.out
  have qv := hP.other (show w.heap.size ≠ b by omega) Q1.out
  have hPz := hP.size
  have hx := (Put.refl pv).set 1 (.int .u64 (U (getN (getR s))))
  have hxk := hx.other (show b ≠ w.heap.size + 1 by omega)
  have hxq := hx.other (show w.heap.size ≠ w.heap.size + 1 by omega)
  have hxp := hx.get (Array.getElem?_eq_some_iff.1 pv).1
  have hxb := hx.below (show B ≤ w.heap.size + 1 by omega)
  have f1 := frz_at pv 1
  have c1 := cell_at pv 1
  have K2 := Lib.hid (hxk.trans kv)
  have Q2 := Lib.hid (hxq.trans qv)
  have P2 := Lib.hid (show _ = some (Obj.cells #[.int .u64 (U (getN s)), .int .u64 (U (getN (getR s))), .int .u64 0] 88 (0, 0)) from hxp)
  have S2 := Lib.hid ((S1.out.later hBv).later hxb)
  have B2 := Lib.hid ((B1.out.trans hBv).trans hxb)
  have Z2 := Lib.hid (Z1.out.puts hP |>.put (Nat.le_succ _) hx)
  clear hP hBv kv pv qv hPz hx hxk hxq hxp hxb
  go_wp2_with fail
  clear f1 c1
  generalize (v1.setCell ⟨w.heap.size + 1, 1, none⟩ (.int .u64 (U (getN (getR s))))) = u2 at *
  rw [rounds_succ]
  go_wp2_with fail
  refine (tnumber_ok a0 b0 B b 66 (getR (getR s)) (by omega) u2 S2.out K2.out h2).mono ?_
  rintro e v2 ⟨rfl, hP⟩
  have hBv := hP.below hBb S2.out.bs
  have kv := hP.get (Array.getElem?_eq_some_iff.1 K2.out).1
  have pv := hP.other (show w.heap.size + 1 ≠ b by omega) P2.out
  have qv := hP.other (show w.heap.size ≠ b by omega) Q2.out
  have hPz := hP.size
  have hx := (Put.refl pv).set 2 (.int .u64 (U (getN (getR (getR s)))))
  have hxk := hx.other (show b ≠ w.heap.size + 1 by omega)
  have hxq := hx.other (show w.heap.size ≠ w.heap.size + 1 by omega)
  have hxp := hx.get (Array.getElem?_eq_some_iff.1 pv).1
  have hxb := hx.below (show B ≤ w.heap.size + 1 by omega)
  have f2 := frz_at pv 2
  have c2 := cell_at pv 2
  have K3 := Lib.hid (hxk.trans kv)
  have Q3 := Lib.hid (hxq.trans qv)
  have P3 := Lib.hid (show _ = some (Obj.cells #[.int .u64 (U (getN s)), .int .u64 (U (getN (getR s))), .int .u64 (U (getN (getR (getR s))))] 88 (0, 0)) from hxp)
  have S3 := Lib.hid ((S2.out.later hBv).later hxb)
  have B3 := Lib.hid ((B2.out.trans hBv).trans hxb)
  have Z3 := Lib.hid (Z2.out.puts hP |>.put (Nat.le_succ _) hx)
  clear hP hBv kv pv qv hPz hx hxk hxq hxp hxb
  go_wp2_with fail
  clear f2 c2
  generalize (v2.setCell ⟨w.heap.size + 1, 2, none⟩ (.int .u64 (U (getN (getR (getR s)))))) = u3 at *
  have eT : getN s = clT s := rfl
  have eR : getN (getR s) = clR s := rfl
  have eU : getN (getR (getR s)) = clU s := rfl
  have eE : getR (getR (getR s)) = clE s := rfl
  rw [eT, eR, eU] at P3
  rw [eE] at K3
  have hU : U (clR s) = ((clR s).toNat : Int) := rfl
  have a0' := cell_at P3.out 0
  have a1' := cell_at P3.out 1
  have a2' := cell_at P3.out 2
  have kk := cell_at K3.out 0
  have g0 := cell_at Q3.out 0
  have g1 := cell_at Q3.out 1
  have g2 := cell_at Q3.out 2
  have e0 := frz_at Q3.out 0
  have e1 := frz_at Q3.out 1
  have e2 := frz_at Q3.out 2
  have m1 : ¬ U (clR s) < 1 := by omega
  have m2 : ¬ 3 < U (clR s) := by omega
  have m3 : ((((clE s).size : Nat) : Int) != 8) = true := by rw [bne_iff_ne]; omega
  clear eT eR eU eE hU h0 h1 h2 h3 h4 h5
  rw [rounds_succ]
  go_wp2_with fail
  refine bodyPost_ret (v := .tuple #[.agg #[.int .u64 0, .int .i64 0, .int .u64 0], wrongV 170]) (by simp [results, Tryd.results31, go_sem, g0, g1, g2]) rfl ⟨rfl, ?_⟩
  exact ((B3.out.setCell (by show B ≤ w.heap.size; omega) _).setCell (by show B ≤ w.heap.size; omega) _).setCell (by show B ≤ w.heap.size; omega) _

set_option maxRecDepth 100000 in
set_option maxHeartbeats 8000000 in
theorem claim_ok (a0 b0 : Addr) (B b : Nat) (s : ByteArray) (hs : s.size ≤ 9223372036854775807) (h0 : numE s = 0) (h1 : numE (getR s) = 0) (h2 : numE (getR (getR s)) = 0) (h3 : 1 ≤ (clR s).toNat) (h4 : (clR s).toNat ≤ 3) (h5 : (clE s).size = 8) (w : World) (hS : Sent a0 b0 B w) (hBb : B ≤ b) (hb : w.heap[b]? = some (.cells #[.string s] 66 (0, 0))) :
    Calls Tryd.prog 31 #[.pointer (some ⟨b, 0, none⟩)] w fun e w' => e = .returned (.tuple #[.agg #[.int .u64 (U (clT s)), .int .i64 (U (clR s)), .int .u64 (U (clU s))], .nilIface]) ∧ Puts w w' b (.cells #[.string (clE s)] 66 (0, 0)) := by
  have hlt := (Array.getElem?_eq_some_iff.1 hb).1
  have hBw := hS.bs
  have Hb := Lib.hid hb
  have hRs := getR_size s
  have hRs2 := getR_size (getR s)
  go_enter Tryd.func31, Tryd.ntmps31
  go_wp2_with fail
  have q0 : ((w.alloc (.cells #[.int .u64 0, .int .i64 0, .int .u64 0] 26)).alloc (.cells #[.int .u64 0, .int .u64 0, .int .u64 0] 88)).heap[w.heap.size]? = some (.cells #[.int .u64 0, .int .i64 0, .int .u64 0] 26 (0, 0)) := old_at (new_at _ _ _ rfl)
  have p0 : ((w.alloc (.cells #[.int .u64 0, .int .i64 0, .int .u64 0] 26)).alloc (.cells #[.int .u64 0, .int .u64 0, .int .u64 0] 88)).heap[w.heap.size + 1]? = some (.cells #[.int .u64 0, .int .u64 0, .int .u64 0] 88 (0, 0)) := new_at _ _ _ (by simp)
  have k0 := old_at (o := .cells #[.int .u64 0, .int .u64 0, .int .u64 0] 88) (old_at (o := .cells #[.int .u64 0, .int .i64 0, .int .u64 0] 26) hb)
  have hB0 : Below w.heap.size w ((w.alloc (.cells #[.int .u64 0, .int .i64 0, .int .u64 0] 26)).alloc (.cells #[.int .u64 0, .int .u64 0, .int .u64 0] 88)) := ((Below.refl _ w).alloc (Nat.le_refl _) _).alloc (by simp) _
  have hS0 := hS.later (hB0.mono hBw)
  have hB00 := hB0.mono hBw
  generalize (w.alloc (.cells #[.int .u64 0, .int .i64 0, .int .u64 0] 26)).alloc (.cells #[.int .u64 0, .int .u64 0, .int .u64 0] 88) = u0 at *
  have P0 := Lib.hid p0
  have Q0 := Lib.hid q0
  have K0 := Lib.hid k0
  have S0 := Lib.hid hS0
  have B0 := Lib.hid hB00
  have Z0 : Hid (But w b u0) := Lib.hid (But.of hB0)
  clear p0 q0 k0 hS0 hB00 hS hb hB0
  refine wp_loop_rounds 4 ?_
  rw [rounds_succ]
  go_wp2_with fail
  refine (tnumber_ok a0 b0 B b 66 s (by omega) u0 S0.out K0.out h0).mono ?_
  rintro e v0 ⟨rfl, hP⟩
  have hBv := hP.below hBb S0.out.bs
  have kv := hP.get (Array.getElem?_eq_some_iff.1 K0.out).1
  have pv := hP.other (show w.heap.size + 1 ≠ b by omega) P0.out
  have qv := hP.other (show w.heap.size ≠ b by omega) Q0.out
  have hPz := hP.size
  have hx := (Put.refl pv).set 0 (.int .u64 (U (getN s)))
  have hxk := hx.other (show b ≠ w.heap.size + 1 by omega)
  have hxq := hx.other (show w.heap.size ≠ w.heap.size + 1 by omega)
  have hxp := hx.get (Array.getElem?_eq_some_iff.1 pv).1
  have hxb := hx.below (show B ≤ w.heap.size + 1 by omega)
  have f0 := frz_at pv 0
  have c0 := cell_at pv 0
  have K1 := Lib.hid (hxk.trans kv)
  have Q1 := Lib.hid (hxq.trans qv)
  have P1 := Lib.hid (show _ = some (Obj.cells #[.int .u64 (U (getN s)), .int .u64 0, .int .u64 0] 88 (0, 0)) from hxp)
  have S1 := Lib.hid ((S0.out.later hBv).later hxb)
  have B1 := Lib.hid ((B0.out.trans hBv).trans hxb)
  have Z1 := Lib.hid (Z0.out.puts hP |>.put (Nat.le_succ _) hx)
  clear hP hBv kv pv qv hPz hx hxk hxq hxp hxb
  go_wp2_with fail
  clear f0 c0
  generalize (v0.setCell ⟨w.heap.size + 1, 0, none⟩ (.int .u64 (U (getN s)))) = u1 at *
  rw [rounds_succ]
  go_wp2_with fail
  refine (tnumber_ok a0 b0 B b 66 (getR s) (by omega) u1 S1.out K1.out h1).mono ?_
  rintro e v1 ⟨rfl, hP⟩
  have hBv := hP.below hBb S1.out.bs
  have kv := hP.get (Array.getElem?_eq_some_iff.1 K1.out).1
  have pv := hP.other (show w.heap.size + 1 ≠ b by omega) P1.out
  have qv := hP.other (show w.heap.size ≠ b by omega) Q1.out
  have hPz := hP.size
  have hx := (Put.refl pv).set 1 (.int .u64 (U (getN (getR s))))
  have hxk := hx.other (show b ≠ w.heap.size + 1 by omega)
  have hxq := hx.other (show w.heap.size ≠ w.heap.size + 1 by omega)
  have hxp := hx.get (Array.getElem?_eq_some_iff.1 pv).1
  have hxb := hx.below (show B ≤ w.heap.size + 1 by omega)
  have f1 := frz_at pv 1
  have c1 := cell_at pv 1
  have K2 := Lib.hid (hxk.trans kv)
  have Q2 := Lib.hid (hxq.trans qv)
  have P2 := Lib.hid (show _ = some (Obj.cells #[.int .u64 (U (getN s)), .int .u64 (U (getN (getR s))), .int .u64 0] 88 (0, 0)) from hxp)
  have S2 := Lib.hid ((S1.out.later hBv).later hxb)
  have B2 := Lib.hid ((B1.out.trans hBv).trans hxb)
  have Z2 := Lib.hid (Z1.out.puts hP |>.put (Nat.le_succ _) hx)
  clear hP hBv kv pv qv hPz hx hxk hxq hxp hxb
  go_wp2_with fail
  clear f1 c1
  generalize (v1.setCell ⟨w.heap.size + 1, 1, none⟩ (.int .u64 (U (getN (getR s))))) = u2 at *
  rw [rounds_succ]
  go_wp2_with fail
  refine (tnumber_ok a0 b0 B b 66 (getR (getR s)) (by omega) u2 S2.out K2.out h2).mono ?_
  rintro e v2 ⟨rfl, hP⟩
  have hBv := hP.below hBb S2.out.bs
  have kv := hP.get (Array.getElem?_eq_some_iff.1 K2.out).1
  have pv := hP.other (show w.heap.size + 1 ≠ b by omega) P2.out
  have qv := hP.other (show w.heap.size ≠ b by omega) Q2.out
  have hPz := hP.size
  have hx := (Put.refl pv).set 2 (.int .u64 (U (getN (getR (getR s)))))
  have hxk := hx.other (show b ≠ w.heap.size + 1 by omega)
  have hxq := hx.other (show w.heap.size ≠ w.heap.size + 1 by omega)
  have hxp := hx.get (Array.getElem?_eq_some_iff.1 pv).1
  have hxb := hx.below (show B ≤ w.heap.size + 1 by omega)
  have f2 := frz_at pv 2
  have c2 := cell_at pv 2
  have K3 := Lib.hid (hxk.trans kv)
  have Q3 := Lib.hid (hxq.trans qv)
  have P3 := Lib.hid (show _ = some (Obj.cells #[.int .u64 (U (getN s)), .int .u64 (U (getN (getR s))), .int .u64 (U (getN (getR (getR s))))] 88 (0, 0)) from hxp)
  have S3 := Lib.hid ((S2.out.later hBv).later hxb)
  have B3 := Lib.hid ((B2.out.trans hBv).trans hxb)
  have Z3 := Lib.hid (Z2.out.puts hP |>.put (Nat.le_succ _) hx)
  clear hP hBv kv pv qv hPz hx hxk hxq hxp hxb
  go_wp2_with fail
  clear f2 c2
  generalize (v2.setCell ⟨w.heap.size + 1, 2, none⟩ (.int .u64 (U (getN (getR (getR s)))))) = u3 at *
  have eT : getN s = clT s := rfl
  have eR : getN (getR s) = clR s := rfl
  have eU : getN (getR (getR s)) = clU s := rfl
  have eE : getR (getR (getR s)) = clE s := rfl
  rw [eT, eR, eU] at P3
  rw [eE] at K3
  have hU : U (clR s) = ((clR s).toNat : Int) := rfl
  have a0' := cell_at P3.out 0
  have a1' := cell_at P3.out 1
  have a2' := cell_at P3.out 2
  have kk := cell_at K3.out 0
  have g0 := cell_at Q3.out 0
  have g1 := cell_at Q3.out 1
  have g2 := cell_at Q3.out 2
  have e0 := frz_at Q3.out 0
  have e1 := frz_at Q3.out 1
  have e2 := frz_at Q3.out 2
  have m1 : ¬ U (clR s) < 1 := by omega
  have m2 : ¬ 3 < U (clR s) := by omega
  have m3 : ((((clE s).size : Nat) : Int) != 8) = false := by rw [bne_eq_false_iff_eq]; omega
  have m4 : IntKind.i64.wrap (U (clR s)) = U (clR s) := by rw [IntKind.wrap_i64] <;> omega
  clear eT eR eU eE hU h0 h1 h2 h3 h4 h5
  rw [rounds_succ]
  go_wp2_with fail
  refine bodyPost_ret (v := .tuple #[.agg #[.int .u64 (U (clT s)), .int .i64 (U (clR s)), .int .u64 (U (clU s))], .nilIface]) (by simp [results, Tryd.results31, go_sem, g0, g1, g2]) rfl ⟨rfl, ?_⟩
  have hz := ((Z3.out.set (Nat.le_refl _) 0 (.int .u64 (U (clT s)))).set (Nat.le_refl _) 1 (.int .i64 (U (clR s)))).set (Nat.le_refl _) 2 (.int .u64 (U (clU s)))
  refine hz.toPuts Hb.out ?_
  rw [Below.heap_setCell _ ⟨w.heap.size, 2, none⟩ _ b (by show b ≠ w.heap.size; omega), Below.heap_setCell _ ⟨w.heap.size, 1, none⟩ _ b (by show b ≠ w.heap.size; omega), Below.heap_setCell _ ⟨w.heap.size, 0, none⟩ _ b (by show b ≠ w.heap.size; omega)]
  exact K3.out
end Go.Proofs.YtpekedldoplmmaaDoor
