/-
  The walk of the statement on blocks.
-/
import Derived.Test.YtjbbilnennhamaaSums
namespace Go.Proofs.Ytjbbilnennhamaa
open Go.RowKit Go.Shelf
attribute [local go_sem] U_add U_sub U_xor U_or U_and

theorem or_len (x : BitVec 64) (n : Nat) : bits .or .u64 (U x) ((n : Int) % 256 * 72057594037927936) = U (x ||| BitVec.ofNat 64 n <<< 56) := by
  have e := U_shl (BitVec.ofNat 64 (n % 256)) 56
  have e2 : U (BitVec.ofNat 64 (n % 256)) = (n : Int) % 256 := by
    rw [U_lit, IntKind.wrap_u64]; omega
  rw [e2] at e
  have e3 : IntKind.u64.wrap ((n : Int) % 256 * 2 ^ 56) = (n : Int) % 256 * 72057594037927936 := by rw [IntKind.wrap_u64]; omega
  rw [e3] at e
  have h := shl_len n
  simp only [Nat.reduceMul] at h
  rw [e, U_or, h]

set_option maxRecDepth 100000 in
set_option maxHeartbeats 4000000 in
theorem walk_SipBlocks (a b : BitVec 64) (s : ByteArray) (hs : s.size ≤ 9223372036854775807) (w : World) : Calls Try.prog 9 #[.agg #[.int .u64 (U a), .int .u64 (U b)], .string s] w fun e w' =>
    e = .returned (.bool true) ∧ Below w.heap.size w w' := by
  have x0 : bits .xor .u64 (U a) 8317987319222330741 = U (a ^^^ 8317987319222330741#64) := lit_xor a 8317987319222330741 (by decide)
  have x1 : bits .xor .u64 (U b) 7237128888997146477 = U (b ^^^ 7237128888997146477#64) := lit_xor b 7237128888997146477 (by decide)
  have x2 : bits .xor .u64 (U a) 7816392313619706465 = U (a ^^^ 7816392313619706465#64) := lit_xor a 7816392313619706465 (by decide)
  have x3 : bits .xor .u64 (U b) 8387220255154660723 = U (b ^^^ 8387220255154660723#64) := lit_xor b 8387220255154660723 (by decide)
  have hsz := cut_size s
  have Hcut := Lib.hid (fun w => cut_any s hs w)
  generalize s.extract 0 (min s.size 300) = cs at *
  clear hs
  go_enter Try.func9, Try.ntmps9
  go_wp2_with fail
  refine abs_call (fun u => Below w.heap.size w u ∧ KeyAt u w.heap.size 24 a b) ⟨(Below.refl _ w).alloc (Nat.le_refl _) _, new_at _ _ _ rfl⟩ ?_
  rintro w0 ⟨hB0, h0⟩
  refine (shown_any w0).mono ?_
  rintro e w1 ⟨rfl, hB1⟩
  have h1 : KeyAt w1 w.heap.size 24 a b := (hB1.block _ h0.lt).trans h0
  have hBw1 := hB0.trans (hB1.mono hB0.size)
  obtain ⟨⟨c0, c1⟩, -⟩ := h1.facts
  clear h0 hB0 hB1
  go_wp2_with fail
  refine (Hcut.out _).mono ?_
  rintro e w1' ⟨rfl, rfl⟩
  go_wp2_with fail
  refine abs_code (fun u => Below w1'.heap.size w1' u ∧ FourV u w1'.heap.size 32 (sumTo a b cs 0)) ⟨(Below.refl _ w1').alloc (Nat.le_refl _) _, new_at _ _ _ (by simp)⟩ ?_
  rintro W1 ⟨hB1, g1⟩
  have h1lt := h1.lt
  clear x0 x1 x2 x3 c0 c1
  go_loopw [7] (fun iv wr => ∃ t : Nat, t ≤ cs.size / 8 + 1 ∧ iv = .int .i64 t ∧ Below w1'.heap.size w1' wr ∧ FourV wr w1'.heap.size 32 (sumTo a b cs t)) (fun iv _ => 40 - (intOf iv).toNat)
  case atStart => exact ⟨0, Nat.zero_le _, rfl, hB1, g1⟩
  case round =>
    obtain ⟨t, htle, rfl, hB2, h2⟩ := hrel
    obtain ⟨wo, rfl⟩ : ∃ wo : World, wo = wr := ⟨_, rfl⟩
    by_cases hlast : t ≤ cs.size / 8
    · have hd : decide ((t : Int) ≤ (cs.size : Int) / 8) = true := by simp; omega
      go_wp2_with fail
      have HX0 := Lib.hid (show sumTo a b cs t = sumTo a b cs t from rfl)
      obtain ⟨X, hX⟩ : ∃ X, sumTo a b cs t = X := ⟨_, rfl⟩
      have HX := Lib.hid hX
      rw [hX] at h2
      clear hX HX0
      go_loop [8, 9] (fun m jv => ∃ j : Nat, j ≤ 8 ∧ 8 * t + j ≤ cs.size ∧ jv = .int .i64 j ∧ m = .int .u64 (U (orTo cs (8 * t) j))) (fun _ jv => 8 - (intOf jv).toNat)
      case atStart => exact ⟨0, Nat.zero_le _, by omega, rfl, rfl⟩
      case round =>
        obtain ⟨j, hj, hjs, rfl, rfl⟩ := hrel
        by_cases hj8 : j < 8
        · have hd8 : decide ((j : Int) < 8) = true := by simp; omega
          by_cases hjk : 8 * t + j < cs.size
          · have hdl : decide (8 * (t : Int) + (j : Int) < (cs.size : Int)) = true := by simp; omega
            go_wp2_with fail
            go_round
            case rel => exact ⟨j + 1, by omega, by omega, by go_num, by rw [byte_shl3 cs (8 * t + j) j hjk, U_or]; rfl⟩
            case measure => simp [intOf]; omega
          · have hdl : decide (8 * (t : Int) + (j : Int) < (cs.size : Int)) = false := by simp; omega
            have htq : t = cs.size / 8 := by omega
            have hde : ((t : Int) == (cs.size : Int) / 8) = true := by rw [beq_iff_eq]; omega
            have hjm : j = cs.size % 8 := by omega
            have hor : bits .or .u64 (U (orTo cs (8 * t) j)) ((cs.size : Int) % 256 * 72057594037927936) = U (eightAt cs t) := by
              rw [or_len, eightAt, if_pos htq, ← hjm]
            clear hjm htq hjk hlast
            obtain ⟨M, hM⟩ : ∃ M, eightAt cs t = M := ⟨_, rfl⟩
            rw [hM] at hor
            have HM := Lib.hid hM
            clear hM
            obtain ⟨⟨c0, c1, c2, c3⟩, f0, f1, f2, f3⟩ := Four.facts h2
            have h2lt := Four.lt h2
            have HB2 := Lib.hid hB2
            have HP2 := Lib.hid (show PutV wo wo w1'.heap.size 32 X from Put.refl h2)
            clear hB2 h2
            go_wp2_with fail
            refine abs_call (fun u => Below w1'.heap.size w1' u ∧ FourV u w1'.heap.size 32 (X.1, X.2.1, X.2.2.1, X.2.2.2 ^^^ M)) ⟨HB2.out.trans ((HP2.out.set 3 _).below (Nat.le_refl _)), (HP2.out.set 3 _).get h2lt⟩ ?_
            rintro w3 ⟨hB3, h3⟩
            clear c0 c1 c2 c3 f0 f1 f2 f3 HP2 HB2
            refine (Round_any (X.1, X.2.1, X.2.2.1, X.2.2.2 ^^^ M) w3).mono ?_
            rintro e w4 ⟨rfl, hB4⟩
            go_wp2_with fail
            refine (Round_any (rnd (X.1, X.2.1, X.2.2.1, X.2.2.2 ^^^ M)) w4).mono ?_
            rintro e w5 ⟨rfl, hB5⟩
            have hB35 := hB4.trans (hB5.mono hB4.size)
            have h5 : FourV w5 _ _ _ := (hB35.block _ (Four.lt h3)).trans h3
            obtain ⟨⟨c0, c1, c2, c3⟩, f0, f1, f2, f3⟩ := Four.facts h5
            have HB5 := Lib.hid (hB3.trans (hB35.mono hB3.size))
            have HP5 := Lib.hid (show PutV w5 w5 w1'.heap.size 32 _ from Put.refl h5)
            have h5lt := Four.lt h5
            clear hB3 h3 hB4 hB5 hB35 h5
            go_wp2_with fail
            go_roundw
            case rel =>
              have e : sumTo a b cs (t + 1) = addm X M := by rw [← HX.out, ← HM.out, sumTo_succ]
              refine ⟨t + 1, by omega, by go_num, ?_, ?_⟩
              · exact HB5.out.trans ((((((HP5.out.set 0 _).set 1 _).set 2 _).set 3 _).set 0 _).below (Nat.le_refl _))
              · rw [e]; exact (((((HP5.out.set 0 _).set 1 _).set 2 _).set 3 _).set 0 _).get h5lt
            case measure => simp [intOf]; omega
        · have hd8 : decide ((j : Int) < 8) = false := by simp; omega
          have hj8e : j = 8 := by omega
          subst hj8e
          have hde : ((t : Int) == (cs.size : Int) / 8) = false := by rw [beq_eq_false_iff_ne]; omega
          obtain ⟨M, hM⟩ : ∃ M, eightAt cs t = M := ⟨_, rfl⟩
          have hM2 : orTo cs (8 * t) 8 = M := by rw [← hM, eightAt, if_neg (by omega)]
          rw [hM2]
          have HM := Lib.hid hM
          clear hM hM2 hj8
          obtain ⟨⟨c0, c1, c2, c3⟩, f0, f1, f2, f3⟩ := Four.facts h2
          have h2lt := Four.lt h2
          have HB2 := Lib.hid hB2
          have HP2 := Lib.hid (show PutV wo wo w1'.heap.size 32 X from Put.refl h2)
          clear hB2 h2
          go_wp2_with fail
          refine abs_call (fun u => Below w1'.heap.size w1' u ∧ FourV u w1'.heap.size 32 (X.1, X.2.1, X.2.2.1, X.2.2.2 ^^^ M)) ⟨HB2.out.trans ((HP2.out.set 3 _).below (Nat.le_refl _)), (HP2.out.set 3 _).get h2lt⟩ ?_
          rintro w3 ⟨hB3, h3⟩
          clear c0 c1 c2 c3 f0 f1 f2 f3 HP2 HB2
          refine (Round_any (X.1, X.2.1, X.2.2.1, X.2.2.2 ^^^ M) w3).mono ?_
          rintro e w4 ⟨rfl, hB4⟩
          go_wp2_with fail
          refine (Round_any (rnd (X.1, X.2.1, X.2.2.1, X.2.2.2 ^^^ M)) w4).mono ?_
          rintro e w5 ⟨rfl, hB5⟩
          have hB35 := hB4.trans (hB5.mono hB4.size)
          have h5 : FourV w5 _ _ _ := (hB35.block _ (Four.lt h3)).trans h3
          obtain ⟨⟨c0, c1, c2, c3⟩, f0, f1, f2, f3⟩ := Four.facts h5
          have HB5 := Lib.hid (hB3.trans (hB35.mono hB3.size))
          have HP5 := Lib.hid (show PutV w5 w5 w1'.heap.size 32 _ from Put.refl h5)
          have h5lt := Four.lt h5
          clear hB3 h3 hB4 hB5 hB35 h5
          go_wp2_with fail
          go_roundw
          case rel =>
            have e : sumTo a b cs (t + 1) = addm X M := by rw [← HX.out, ← HM.out, sumTo_succ]
            refine ⟨t + 1, by omega, by go_num, ?_, ?_⟩
            · exact HB5.out.trans ((((((HP5.out.set 0 _).set 1 _).set 2 _).set 3 _).set 0 _).below (Nat.le_refl _))
            · rw [e]; exact (((((HP5.out.set 0 _).set 1 _).set 2 _).set 3 _).set 0 _).get h5lt
          case measure => simp [intOf]; omega
    · have hd : decide ((t : Int) ≤ (cs.size : Int) / 8) = false := by simp; omega
      have ht' : t = cs.size / 8 + 1 := by omega
      obtain ⟨X, hX⟩ : ∃ X, sumTo a b cs t = X := ⟨_, rfl⟩
      have hF := sumF_to a b cs
      rw [← ht', hX] at hF
      have HF := Lib.hid hF
      rw [hX] at h2
      clear hX hF ht' hlast
      obtain ⟨⟨c0, c1, c2, c3⟩, f0, f1, f2, f3⟩ := Four.facts h2
      have h2lt := Four.lt h2
      have HB2 := Lib.hid hB2
      have HP2 := Lib.hid (show PutV wo wo w1'.heap.size 32 X from Put.refl h2)
      have y0 : bits .xor .u64 (U X.2.2.1) 255 = U (X.2.2.1 ^^^ 255#64) := lit_xor _ 255 (by decide)
      have hk2 : KeyAt wo w.heap.size 24 a b := (hB2.block _ h1lt).trans h1
      have hbo := hB2.size
      clear hB2 h2
      go_wp2_with fail
      have hset := HP2.out.set 2 (.int .u64 (U (X.2.2.1 ^^^ 255#64)))
      refine abs_call (fun u => Below w1'.heap.size w1' u ∧ FourV u w1'.heap.size 32 (X.1, X.2.1, X.2.2.1 ^^^ 255#64, X.2.2.2)) ⟨HB2.out.trans (hset.below (Nat.le_refl _)), hset.get h2lt⟩ ?_
      rintro w3 ⟨hB3, h3⟩
      clear c0 c1 c2 c3 f0 f1 f2 f3 HP2 HB2 y0 hset hk2 hbo
      refine (Round_any (X.1, X.2.1, X.2.2.1 ^^^ 255#64, X.2.2.2) w3).mono ?_
      rintro e w4 ⟨rfl, hB4⟩
      go_wp2_with fail
      refine (Round_any (rnd (X.1, X.2.1, X.2.2.1 ^^^ 255#64, X.2.2.2)) w4).mono ?_
      rintro e w5 ⟨rfl, hB5⟩
      go_wp2_with fail
      refine (Round_any (rnd (rnd (X.1, X.2.1, X.2.2.1 ^^^ 255#64, X.2.2.2))) w5).mono ?_
      rintro e w6 ⟨rfl, hB6⟩
      go_wp2_with fail
      refine (Round_any (rnd (rnd (rnd (X.1, X.2.1, X.2.2.1 ^^^ 255#64, X.2.2.2)))) w6).mono ?_
      rintro e w7 ⟨rfl, hB7⟩
      have hB37 := hB4.trans ((hB5.mono hB4.size).trans ((hB6.mono (Nat.le_trans hB4.size hB5.size)).trans (hB7.mono (Nat.le_trans hB4.size (Nat.le_trans hB5.size hB6.size)))))
      have h7 : FourV w7 _ _ _ := (hB37.block _ (Four.lt h3)).trans h3
      have hB17 := hB3.trans (hB37.mono hB3.size)
      generalize hR : rnd (rnd (rnd (rnd (X.1, X.2.1, X.2.2.1 ^^^ 255#64, X.2.2.2)))) = R at *
      have hF2 : sumF a b cs = R.1 ^^^ R.2.1 ^^^ R.2.2.1 ^^^ R.2.2.2 := by rw [HF.out, ← hR]; rfl
      have HF2 := Lib.hid hF2
      obtain ⟨⟨c0, c1, c2, c3⟩, f0, f1, f2, f3⟩ := Four.facts h7
      have h7lt := Four.lt h7
      have HP7 := Lib.hid (show PutV w7 w7 w1'.heap.size 32 _ from Put.refl h7)
      have HB17 := Lib.hid hB17
      clear hB3 h3 hB4 hB5 hB6 hB7 hB37 h7 hR hF2 HF hB17
      go_wp2_with fail
      have hset := (((HP7.out.set 0 (.int .u64 (U R.1))).set 1 (.int .u64 (U R.2.1))).set 2 (.int .u64 (U R.2.2.1))).set 3 (.int .u64 (U R.2.2.2))
      refine abs_code (fun u => Below w1'.heap.size w1' u ∧ FourV u w1'.heap.size 32 R) ⟨HB17.out.trans (hset.below (Nat.le_refl _)), hset.get h7lt⟩ ?_
      rintro w8 ⟨hB8, h8⟩
      clear c0 c1 c2 c3 f0 f1 f2 f3 HP7 hset HB17
      have hk : KeyAt w8 w.heap.size 24 a b := (hB8.block _ h1lt).trans h1
      obtain ⟨⟨c0, c1, c2, c3⟩, -⟩ := Four.facts h8
      obtain ⟨⟨d0, d1⟩, -⟩ := hk.facts
      have h8lt := Four.lt h8
      have hklt := hk.lt
      refine wp_region_later w8.heap.size (by kernel_rfl) (by kernel_rfl) ?_
      have l0 : ∀ s : Later w8.heap.size w8, s.W.cell? ⟨w1'.heap.size, 0, none⟩ = some _ := fun s => s.cell c0 h8lt
      have l1 : ∀ s : Later w8.heap.size w8, s.W.cell? ⟨w1'.heap.size, 1, none⟩ = some _ := fun s => s.cell c1 h8lt
      have l2 : ∀ s : Later w8.heap.size w8, s.W.cell? ⟨w1'.heap.size, 2, none⟩ = some _ := fun s => s.cell c2 h8lt
      have l3 : ∀ s : Later w8.heap.size w8, s.W.cell? ⟨w1'.heap.size, 3, none⟩ = some _ := fun s => s.cell c3 h8lt
      have m0 : ∀ s : Later w8.heap.size w8, s.W.cell? ⟨w.heap.size, 0, none⟩ = some _ := fun s => s.cell d0 hklt
      have m1 : ∀ s : Later w8.heap.size w8, s.W.cell? ⟨w.heap.size, 1, none⟩ = some _ := fun s => s.cell d1 hklt
      have S0 : ∀ W, Calls Try.prog 11 #[.agg #[.int .u64 (U a), .int .u64 (U b)], .string cs] W fun e W' => e = .returned (.int .u64 (U (R.1 ^^^ R.2.1 ^^^ R.2.2.1 ^^^ R.2.2.2))) ∧ Below W.heap.size W W' := fun W => by rw [← HF2.out]; exact sum_any a b _ (by omega) W
      have T0 := Lib.hid S0
      clear S0 c0 c1 c2 c3 d0 d1 HF2 h8 hk
      repeat (go_big_quiet_step (first
        | (go_at_call 11; with_reducible exact Calls.later (Nat.le_refl _) (T0.out _))))
      refine wpQuiet_nil ?_
      rintro _ ⟨u, rfl⟩
      clear l0 l1 l2 l3 m0 m1
      go_wp2_with fail
      go_ret
      exact ⟨rfl, (hBw1.trans (hB8.mono hBw1.size)).trans (u.below.mono (Nat.le_trans hBw1.size hB8.size))⟩

end Go.Proofs.Ytjbbilnennhamaa
