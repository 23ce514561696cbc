/-
  A text of bytes: text and GetText of package field.
-/
import Derived.Test.YtbibnfchmffhaaaDoorFldR
namespace Go.Proofs.YtbibnfchmffhaaaDoor
open Go.RowKit Go.Lib

/-- What text tells: 20, 21, 0. -/
def txtE (s : ByteArray) : Int := if numE s = 20 then 20 else if numE s = 21 then 21 else if 400 < (numV s).toNat then 21 else if (getR s).size < (numV s).toNat then 20 else 0
def txtV (s : ByteArray) : ByteArray := (getR s).extract 0 (numV s).toNat
def txtR (s : ByteArray) : ByteArray := (getR s).extract (numV s).toNat (getR s).size
/-- What GetText tells. -/
def gtV (s : ByteArray) : ByteArray := if txtE s = 0 then txtV s else ⟨#[]⟩
def gtR (s : ByteArray) : ByteArray := if txtE s = 0 then txtR s else s
theorem txtE_cases (s : ByteArray) : txtE s = 20 ∨ txtE s = 21 ∨ txtE s = 0 := by
  unfold txtE
  (repeat' split) <;> simp

theorem txt_ok (s : ByteArray) (he : txtE s = 0) : numE s = 0 ∧ (numV s).toNat ≤ 400 ∧ (numV s).toNat ≤ (getR s).size := by
  unfold txtE at he
  by_cases h1 : numE s = 20
  · rw [if_pos h1] at he; omega
  rw [if_neg h1] at he
  by_cases h2 : numE s = 21
  · rw [if_pos h2] at he; omega
  rw [if_neg h2] at he
  by_cases h3 : 400 < (numV s).toNat
  · rw [if_pos h3] at he; omega
  rw [if_neg h3] at he
  by_cases h4 : (getR s).size < (numV s).toNat
  · rw [if_pos h4] at he; omega
  · exact ⟨by rcases numE_cases s with h | h | h <;> omega, by omega, by omega⟩
section
variable (a0 b0 : Addr) (B b : Nat) (T : TypeId) (s : ByteArray) (hs : s.size ≤ 9223372036854775807) (w : World) (hS : Sent a0 b0 B w) (hBb : B ≤ b) (hb : w.heap[b]? = some (.cells #[.string s] T (0, 0)))
include hs hS hBb hb
set_option maxRecDepth 100000 in
theorem text_more (he : txtE s = 20) : Calls Tryd.prog 35 #[.pointer (some ⟨b, 0, none⟩)] w fun e w' => e = .returned (.tuple #[.string ⟨#[]⟩, .iface 94 (.pointer (some a0))]) ∧ Below B w w' := by
  by_cases h1 : numE s = 20
  · have HC := Lib.hid (number_more a0 b0 B b T s hs w hS hBb hb h1)
    clear hs hS hBb hb he h1
    go_enter Tryd.func35, Tryd.ntmps35
    go_wp2_with fail
    with_reducible refine HC.out.mono ?_
    rintro e w1 ⟨rfl, hB1⟩
    have HB1 := Lib.hid hB1
    clear hB1
    go_wp2_with fail
    go_ret2
    exact ⟨rfl, HB1.out⟩
  · unfold txtE at he
    rw [if_neg h1] at he
    by_cases h2 : numE s = 21
    · rw [if_pos h2] at he; omega
    rw [if_neg h2] at he
    by_cases h3 : 400 < (numV s).toNat
    · rw [if_pos h3] at he; omega
    rw [if_neg h3] at he
    by_cases h4 : (getR s).size < (numV s).toNat
    · have h0 : numE s = 0 := by rcases numE_cases s with h | h | h <;> omega
      have hR : getR s = s.extract (numL s) s.size := by unfold getR; rw [if_pos h0]
      have hC := number_ok a0 b0 B b T s hs w hS hBb hb h0
      rw [← hR] at hC
      have HC := Lib.hid hC
      have hRs := getR_size s
      have hBw := Lib.hid hS.bs
      have HS := Lib.hid hS
      have Hb := Lib.hid hb
      have hU : U (numV s) = ((numV s).toNat : Int) := rfl
      generalize numV s = V at *
      generalize getR s = R at *
      have g1 : ¬ (400 : Int) < U V := by omega
      have g2 : ((R.size : Nat) : Int) < U V := by omega
      have g3 : ((R.size : Nat) : Int) ≤ 9223372036854775807 := by omega
      clear hS hb he h1 h2 h3 h4 h0 hR hC hU hRs
      go_enter Tryd.func35, Tryd.ntmps35
      go_wp2_with fail
      with_reducible refine HC.out.mono ?_
      rintro e w1 ⟨rfl, hP⟩
      have hb1 := hP.get (Array.getElem?_eq_some_iff.1 Hb.out).1
      have hB1 := hP.below hBb hBw.out
      have hm := (HS.out.later hB1).more
      have hc1 : w1.cell? ⟨b, 0, none⟩ = some (.string R) := by simp [World.cell?, hb1]
      have HB1 := Lib.hid hB1
      clear hP hb1 hB1
      go_wp2_with fail
      go_quiet (fail)
      go_wp2_with fail
      go_ret2
      exact ⟨rfl, dn HB1.out _⟩
    · rw [if_neg h4] at he; omega
set_option maxRecDepth 100000 in
theorem text_none (he : txtE s = 21) : Calls Tryd.prog 35 #[.pointer (some ⟨b, 0, none⟩)] w fun e w' => e = .returned (.tuple #[.string ⟨#[]⟩, .iface 94 (.pointer (some b0))]) ∧ Below B w w' := by
  unfold txtE at he
  by_cases h1 : numE s = 20
  · rw [if_pos h1] at he; omega
  rw [if_neg h1] at he
  by_cases h2 : numE s = 21
  · have HC := Lib.hid (number_none a0 b0 B b T s hs w hS hBb hb h2)
    clear hs hS hBb hb he h1 h2
    go_enter Tryd.func35, Tryd.ntmps35
    go_wp2_with fail
    with_reducible refine HC.out.mono ?_
    rintro e w1 ⟨rfl, hB1⟩
    have HB1 := Lib.hid hB1
    clear hB1
    go_wp2_with fail
    go_ret2
    exact ⟨rfl, HB1.out⟩
  rw [if_neg h2] at he
  by_cases h3 : 400 < (numV s).toNat
  · have h0 : numE s = 0 := by rcases numE_cases s with h | h | h <;> omega
    have HC := Lib.hid (number_ok a0 b0 B b T s hs w hS hBb hb h0)
    have hBw := Lib.hid hS.bs
    have HS := Lib.hid hS
    have hU : U (numV s) = ((numV s).toNat : Int) := rfl
    generalize numV s = V at *
    have g1 : (400 : Int) < U V := by omega
    clear hS hb he h1 h2 h3 h0 hU
    go_enter Tryd.func35, Tryd.ntmps35
    go_wp2_with fail
    with_reducible refine HC.out.mono ?_
    rintro e w1 ⟨rfl, hP⟩
    have hB1 := hP.below hBb hBw.out
    have hm := (HS.out.later hB1).none_
    have HB1 := Lib.hid hB1
    clear hP hB1
    go_wp2_with fail
    go_quiet (fail)
    go_wp2_with fail
    go_ret2
    exact ⟨rfl, dn HB1.out _⟩
  · rw [if_neg h3] at he
    by_cases h4 : (getR s).size < (numV s).toNat
    · rw [if_pos h4] at he; omega
    · rw [if_neg h4] at he; omega
set_option maxRecDepth 100000 in
theorem text_ok (he : txtE s = 0) : Calls Tryd.prog 35 #[.pointer (some ⟨b, 0, none⟩)] w fun e w' => e = .returned (.tuple #[.string (txtV s), .nilIface]) ∧ Puts w w' b (.cells #[.string (txtR s)] T (0, 0)) := by
  obtain ⟨h0, h3, h4⟩ := txt_ok s he
  have hR : getR s = s.extract (numL s) s.size := by unfold getR; rw [if_pos h0]
  have hC := number_ok a0 b0 B b T s hs w hS hBb hb h0
  rw [← hR] at hC
  have HC := Lib.hid hC
  have hRs := getR_size s
  have Hb := Lib.hid hb
  have hU : U (numV s) = ((numV s).toNat : Int) := rfl
  unfold txtV txtR
  generalize numV s = V at *
  generalize getR s = R at *
  obtain ⟨N, hN⟩ : ∃ N, V.toNat = N := ⟨_, rfl⟩
  rw [hN] at hU h3 h4 ⊢
  have g1 : ¬ (400 : Int) < (N : Int) := by omega
  have g2 : ¬ ((R.size : Nat) : Int) < (N : Int) := by omega
  have g3 : ((R.size : Nat) : Int) ≤ 9223372036854775807 := by omega
  have g4 : (N : Int) ≤ ((R.size : Nat) : Int) := by omega
  rw [hU] at HC
  have hbl := Lib.hid (Array.getElem?_eq_some_iff.1 hb).1
  clear hS hb he h0 hR hC hRs hN hU
  go_enter Tryd.func35, Tryd.ntmps35
  go_wp2_with fail
  with_reducible refine HC.out.mono ?_
  rintro e w1 ⟨rfl, hP⟩
  have hb1 := hP.get hbl.out
  have hc1 : w1.cell? ⟨b, 0, none⟩ = some (.string R) := by simp [World.cell?, hb1]
  have hf1 : w1.frozen? ⟨b, 0, none⟩ = false := by simp [World.frozen?, hb1]
  have hP2 := (Put.refl hb1).set 0 (.string (R.extract N R.size))
  have HP2 := Lib.hid hP2
  have HP := Lib.hid hP
  clear hP hb1 hP2
  go_wp2_with fail
  go_ret2
  exact ⟨rfl, HP.out.trans hbl.out ⟨_, HP2.out, Below.refl _ _⟩⟩
end
set_option maxRecDepth 100000 in
set_option maxHeartbeats 4000000 in
theorem GetText_any (a0 b0 : Addr) (s : ByteArray) (hs : s.size ≤ 9223372036854775807) (B : Nat) (w : World) (hS : Sent a0 b0 B w) :
    Calls Tryd.prog 19 #[.string s] w fun e w' => e = .returned (.tuple #[.string (gtV s), .string (gtR s), .int .i64 (txtE s)]) ∧ Below w.heap.size w w' := by
  have hS0 : Sent a0 b0 w.heap.size (w.alloc (.cells #[.string s] 49)) := by
    refine Sent.later ?_ ((Below.refl _ w).alloc (Nat.le_refl _) _)
    exact ⟨hS.more, hS.none_, hS.ne, hS.ca, hS.cb, Nat.lt_of_lt_of_le hS.ba hS.bs, Nat.lt_of_lt_of_le hS.bb hS.bs, Nat.le_trans hS.b0 hS.bs, Nat.le_refl _⟩
  have hb : (w.alloc (.cells #[.string s] 49)).heap[w.heap.size]? = some (.cells #[.string s] 49 (0, 0)) := new_at w _ _ rfl
  have hB0 : Below w.heap.size w (w.alloc (.cells #[.string s] 49)) := (Below.refl _ w).alloc (Nat.le_refl _) _
  have HB0 := Lib.hid hB0
  have HS0 := Lib.hid hS0
  have Hb := Lib.hid hb
  clear hS0 hb hB0 hS
  rcases txtE_cases s with he | he | he
  · have hn : gtV s = ⟨#[]⟩ := by unfold gtV; rw [if_neg (by omega)]
    have hr : gtR s = s := by unfold gtR; rw [if_neg (by omega)]
    have HC := Lib.hid (text_more a0 b0 w.heap.size w.heap.size 49 s hs _ HS0.out (Nat.le_refl _) Hb.out he)
    rw [hn, hr, he]
    clear hn hr he
    go_enter Tryd.func19, Tryd.ntmps19
    go_wp2_with fail
    with_reducible refine HC.out.mono ?_
    rintro e w1 ⟨rfl, hB1⟩
    have hS1 := HS0.out.later hB1
    have HS1 := Lib.hid hS1
    clear hS1
    go_wp2_with fail
    refine (told_more a0 b0 w.heap.size _ HS1.out).mono ?_
    rintro e w2 ⟨rfl, rfl⟩
    go_wp2_with fail
    refine bodyPost_ret (v := .tuple #[.string ⟨#[]⟩, .string s, .int .i64 20]) (by simp [results, Tryd.results19, go_sem]) rfl ⟨rfl, HB0.out.trans hB1⟩
  · have hn : gtV s = ⟨#[]⟩ := by unfold gtV; rw [if_neg (by omega)]
    have hr : gtR s = s := by unfold gtR; rw [if_neg (by omega)]
    have HC := Lib.hid (text_none a0 b0 w.heap.size w.heap.size 49 s hs _ HS0.out (Nat.le_refl _) Hb.out he)
    rw [hn, hr, he]
    clear hn hr he
    go_enter Tryd.func19, Tryd.ntmps19
    go_wp2_with fail
    with_reducible refine HC.out.mono ?_
    rintro e w1 ⟨rfl, hB1⟩
    have hS1 := HS0.out.later hB1
    have HS1 := Lib.hid hS1
    clear hS1
    go_wp2_with fail
    refine (told_none a0 b0 w.heap.size _ HS1.out).mono ?_
    rintro e w2 ⟨rfl, rfl⟩
    go_wp2_with fail
    refine bodyPost_ret (v := .tuple #[.string ⟨#[]⟩, .string s, .int .i64 21]) (by simp [results, Tryd.results19, go_sem]) rfl ⟨rfl, HB0.out.trans hB1⟩
  · have hn : gtV s = txtV s := by unfold gtV; rw [if_pos he]
    have hr : gtR s = txtR s := by unfold gtR; rw [if_pos he]
    have HC := Lib.hid (text_ok a0 b0 w.heap.size w.heap.size 49 s hs _ HS0.out (Nat.le_refl _) Hb.out he)
    rw [hn, hr, he]
    generalize txtV s = V at *
    generalize txtR s = R at *
    clear hn hr he
    go_enter Tryd.func19, Tryd.ntmps19
    go_wp2_with fail
    with_reducible refine HC.out.mono ?_
    rintro e w1 ⟨rfl, hP⟩
    have hb1 := hP.get (Array.getElem?_eq_some_iff.1 Hb.out).1
    have hB1 := hP.below (Nat.le_refl _) HB0.out.size
    have HB1 := Lib.hid hB1
    have hc1 : w1.cell? ⟨w.heap.size, 0, none⟩ = some (.string R) := by simp [World.cell?, hb1]
    clear hP hb1 hB1
    go_wp2_with fail
    go_quiet (fail)
    go_wp2_with fail
    refine bodyPost_ret (v := .tuple #[.string V, .string R, .int .i64 0]) (by simp [results, Tryd.results19, go_sem]) rfl ⟨rfl, dn (HB0.out.trans HB1.out) _⟩
end Go.Proofs.YtbibnfchmffhaaaDoor
