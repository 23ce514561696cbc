/-
  The walk of the reference's sum and child.
-/
import Derived.Test.YtdhbomipffidlaaKeyG
import Derived.Test.YtdhbomipffidlaaRefG
import Derived.Test.YtdhbomipffidlaaEights
namespace Go.Proofs.Ytdhbomipffidlaa
open Go.RowKit Go.Shelf
attribute [local go_sem] U_add U_sub U_xor U_or U_and

theorem byte_shl3 (s : ByteArray) (i j : Nat) (h : i < s.size) : IntKind.u64.wrap (IntKind.u64.wrap ((s[i].toNat : Nat) : Int) * 2 ^ (8 * j)) = U (byteAt s i <<< (8 * j)) := by
  rw [byteAt_get s i h, ← U_shl]
  have e : IntKind.u64.wrap ((s[i].toNat : Nat) : Int) = U (BitVec.ofNat 64 s[i].toNat) := (U_lit _).symm
  rw [e]

/-- A text with zeros behind. -/
def Padded (s p : ByteArray) : Prop := s.size ≤ p.size ∧ (∀ k, k < s.size → byteAt p k = byteAt s k) ∧ ∀ k, s.size ≤ k → byteAt p k = 0
theorem byteAt_append (p c : ByteArray) (k : Nat) : byteAt (p ++ c) k = if k < p.size then byteAt p k else byteAt c (k - p.size) := by
  unfold byteAt
  rw [ByteArray.data_append, Array.toList_append, List.getD_eq_getElem?_getD, List.getD_eq_getElem?_getD, List.getD_eq_getElem?_getD, List.getElem?_append]
  have hp : p.data.toList.length = p.size := by simp
  rw [hp]
  split <;> rfl
theorem byteAt_ge (s : ByteArray) (k : Nat) (h : s.size ≤ k) : byteAt s k = 0 := by
  unfold byteAt
  rw [List.getD_eq_getElem?_getD, List.getElem?_eq_none (by simpa using h)]
  rfl
theorem Padded.refl (s : ByteArray) : Padded s s := ⟨Nat.le_refl _, fun _ _ => rfl, fun k hk => byteAt_ge s k hk⟩
theorem Padded.more {s p : ByteArray} (h : Padded s p) : Padded s (p ++ ⟨#[0]⟩) := by
  refine ⟨by rw [size_cat]; exact Nat.le_trans h.1 (Nat.le_add_right _ _), fun k hk => ?_, fun k hk => ?_⟩
  · rw [byteAt_append, if_pos (by have := h.1; omega)]; exact h.2.1 k hk
  · rw [byteAt_append]
    split
    · exact h.2.2 k hk
    · rename_i hn
      generalize k - p.size = x
      cases x with
      | zero => rfl
      | succ x => exact byteAt_ge _ _ (by show 1 ≤ x + 1; omega)
theorem shl_len (n : Nat) : BitVec.ofNat 64 (n % 256) <<< (8 * 7) = BitVec.ofNat 64 n <<< 56 := by
  apply BitVec.eq_of_getLsbD_eq
  intro t ht
  rw [BitVec.getLsbD_shiftLeft, BitVec.getLsbD_shiftLeft, BitVec.getLsbD_ofNat, BitVec.getLsbD_ofNat, show (256 : Nat) = 2 ^ 8 from rfl, Nat.testBit_mod_two_pow]
  by_cases h : t < 56
  · simp [h]
  · have h1 : t - 56 < 8 := by omega
    simp [h1]
theorem one_byte (n : Nat) : byteAt (strOfNums [((n : Int) % 256)]) 0 = BitVec.ofNat 64 (n % 256) := by
  unfold byteAt
  rw [strOfNums_data]
  have h : ((n : Int) % 256).toNat = n % 256 := by omega
  simp only [List.map_cons, List.map_nil, h, List.getD_cons_zero]
  rw [UInt8.toNat_ofNat']
  congr 1
  omega
theorem conv1 (w : World) (n : Int) : (convert 78 9 (.slice (some ⟨w.heap.size, 0, none⟩) 1 1)).run Try.prog (w.alloc (.cells #[.int .u8 n] 5)) = .ok (.string (strOfNums [n])) (w.alloc (.cells #[.int .u8 n] 5)) := by
  refine run_convert_bytes_arg _ 78 5 Try.underlying78 Try.underlying5 w.heap.size 0 1 1 [n] rfl ?_ 9 Try.underlying9
  intro i hi
  obtain rfl : i = 0 := by omega
  exact (Boxed.new w 5 (.int .u8 n)).cell
/-- The whole text that is summed: zeros, and how many bytes there were. -/
def Whole (s p : ByteArray) : Prop := p.size = 8 * (s.size / 8 + 1) ∧ (∀ k, k < s.size → byteAt p k = byteAt s k) ∧ (∀ k, s.size ≤ k → k + 1 < p.size → byteAt p k = 0) ∧ byteAt p (8 * (s.size / 8) + 7) = BitVec.ofNat 64 (s.size % 256)
theorem Whole.of {s p c : ByteArray} (h : Padded s p) (hp : p.size = 8 * (s.size / 8) + 7) (hc : c.size = 1) (hb : byteAt c 0 = BitVec.ofNat 64 (s.size % 256)) : Whole s (p ++ c) := by
  refine ⟨by rw [size_cat]; omega, fun k hk => ?_, fun k hk hk2 => ?_, ?_⟩
  · rw [byteAt_append, if_pos (by omega)]; exact h.2.1 k hk
  · rw [size_cat] at hk2
    rw [byteAt_append, if_pos (by omega)]; exact h.2.2 k hk
  · rw [byteAt_append, if_neg (by omega), hp, Nat.sub_self]; exact hb
theorem Whole.at {s p : ByteArray} (h : Whole s p) (t : Nat) (ht : t ≤ s.size / 8) : adTo p (8 * t) 8 = eightAt s t := by
  rw [adTo_eq, eightAt]
  by_cases hq : t = s.size / 8
  · rw [if_pos hq]
    subst hq
    have e7 : s.size % 8 + (7 - s.size % 8) = 7 := by omega
    have e : orTo p (8 * (s.size / 8)) 7 = orTo s (8 * (s.size / 8)) (s.size % 8) := by
      rw [← e7, orTo_zeros, orTo_congr (fun x hx => h.2.1 _ (by omega))]
      intro x h1 h2
      exact h.2.2.1 _ (by omega) (by rw [h.1]; omega)
    rw [show (8 : Nat) = 7 + 1 from rfl, orTo]
    rw [show (7 + 1 : Nat) = 8 from rfl, e, h.2.2.2, shl_len]
  · rw [if_neg hq]
    exact orTo_congr (fun x hx => h.2.1 _ (by omega))

set_option maxRecDepth 100000 in
set_option maxHeartbeats 4000000 in
theorem refSum_any (a b : BitVec 64) (s : ByteArray) (hs : s.size ≤ 65535) (w : World) :
    Calls Try.prog 37 #[.agg #[.int .u64 (U a), .int .u64 (U b)], .string s] w fun e w' => e = .returned (.int .u64 (U (sumF a b s))) ∧ Below w.heap.size w w' := by
  have x0 : bits .xor .u64 (U a) 8317987319222330741 = U (a ^^^ 8317987319222330741#64) := lit_xor a 8317987319222330741 (by decide)
  have x1 : bits .xor .u64 (U b) 7237128888997146477 = U (b ^^^ 7237128888997146477#64) := lit_xor b 7237128888997146477 (by decide)
  have x2 : bits .xor .u64 (U a) 7816392313619706465 = U (a ^^^ 7816392313619706465#64) := lit_xor a 7816392313619706465 (by decide)
  have x3 : bits .xor .u64 (U b) 8387220255154660723 = U (b ^^^ 8387220255154660723#64) := lit_xor b 8387220255154660723 (by decide)
  go_enter Try.func37, Try.ntmps37
  go_wp2_with fail
  clear x0 x1 x2 x3
  refine abs_code (fun W0 => Below w.heap.size w W0 ∧ FourV W0 (w.heap.size + 1) 70 (sumInit a b)) ⟨((Below.refl _ w).alloc (Nat.le_refl _) _).alloc (by simp) _, new_at _ _ _ (by simp)⟩ ?_
  rintro W0 ⟨hB0, h0⟩
  go_loop [6] (fun al => ∃ p : ByteArray, al = .string p ∧ p.size ≤ 8 * (s.size / 8) + 7 ∧ Padded s p) (fun al => match al with | .string p => 8 * (s.size / 8) + 7 - p.size | _ => 0)
  case atStart => exact ⟨s, rfl, by omega, Padded.refl s⟩
  case round =>
    obtain ⟨p, rfl, hp, hpad⟩ := hrel
    have HP := Lib.hid hpad
    have hle := hpad.1
    clear hpad
    by_cases h7 : p.size = 8 * (s.size / 8) + 7
    · have H7 := Lib.hid h7
      have hle7 : 8 * (s.size / 8) + 7 ≤ p.size := by omega
      have ht : ((p.size : Int) % 8 != 7) = false := by rw [bne_eq_false_iff_eq]; omega
      clear h7
      have hcv := conv1 W0 ((s.size : Int) % 256)
      have hsz1 : (strOfNums [((s.size : Int) % 256)]).size = 1 := strOfNums_size _
      go_wp2_with fail
      have hW : Whole s (p ++ strOfNums [((s.size : Int) % 256)]) := Whole.of HP.out H7.out hsz1 (one_byte _)
      generalize p ++ strOfNums [((s.size : Int) % 256)] = al at *
      have HW := Lib.hid hW
      clear hW hcv hsz1
      have hal : al.size ≤ 8 * (s.size / 8 + 1) := by have := HW.out.1; omega
      have hal' : 8 * (s.size / 8 + 1) ≤ al.size := by have := HW.out.1; omega
      refine abs_code (fun u => Below w.heap.size w u ∧ FourV u (w.heap.size + 1) 70 (sumTo a b s 0)) ⟨hB0.alloc hB0.size _, old_at h0⟩ ?_
      rintro W1 ⟨hB1, h1⟩
      clear hB0 h0 HP H7 hle hp hle7 ht
      go_loopw [7] (fun iv wr => ∃ t i : Nat, Hid (i = 8 * t) ∧ i ≤ al.size ∧ iv = .int .i64 i ∧ Below w.heap.size w wr ∧ FourV wr (w.heap.size + 1) 70 (sumTo a b s t)) (fun iv _ => al.size - (intOf iv).toNat)
      case atStart => exact ⟨0, 0, Lib.hid rfl, Nat.zero_le _, rfl, hB1, h1⟩
      case round =>
        obtain ⟨t, i, hi, hile, rfl, hB2, h2⟩ := hrel
        obtain ⟨wo, rfl⟩ : ∃ wo : World, wo = wr := ⟨_, rfl⟩
        by_cases hlast : i + 8 ≤ al.size
        · have hd : decide ((i : Int) + 8 ≤ (al.size : Int)) = true := by simp; omega
          go_wp2_with fail
          go_loop [8, 9] (fun m jv => ∃ j : Nat, j ≤ 8 ∧ jv = .int .i64 j ∧ m = .int .u64 (U (adTo al i j))) (fun _ jv => 8 - (intOf jv).toNat)
          case atStart => exact ⟨0, Nat.zero_le _, rfl, rfl⟩
          case round =>
            obtain ⟨j, hj, rfl, rfl⟩ := hrel
            by_cases hjk : j < 8
            · have hij : i + j < al.size := by omega
              go_wp2_with fail
              go_round
              case rel => exact ⟨j + 1, by omega, by go_num, by rw [byte_shl3 al (i + j) j hij, U_add]; rfl⟩
              case measure => simp [intOf]; omega
            · obtain rfl : j = 8 := by omega
              obtain ⟨⟨c0, c1, c2, c3⟩, f0, f1, f2, f3⟩ := Four.facts h2
              have h2lt := Four.lt h2
              have hp2 : PutV wo wo (w.heap.size + 1) 70 (sumTo a b s t) := Put.refl h2
              have hm : adTo al i 8 = eightAt s t := by rw [hi.out]; exact HW.out.at t (by have := hi.out; omega)
              have HB2 := Lib.hid hB2
              have HP2 := Lib.hid hp2
              have HM := Lib.hid hm
              clear hB2 hp2 hm h2
              go_wp2_with fail
              refine abs_call (fun u => Below w.heap.size w u ∧ FourV u (w.heap.size + 1) 70 ((sumTo a b s t).1, (sumTo a b s t).2.1, (sumTo a b s t).2.2.1, (sumTo a b s t).2.2.2 ^^^ adTo al i 8)) ⟨HB2.out.trans ((HP2.out.set 3 _).below (by omega)), (HP2.out.set 3 _).get h2lt⟩ ?_
              rintro w3 ⟨hB3, h3⟩
              clear c0 c1 c2 c3 f0 f1 f2 f3 HP2 HB2
              refine (refRound_any ((sumTo a b s t).1, (sumTo a b s t).2.1, (sumTo a b s t).2.2.1, (sumTo a b s t).2.2.2 ^^^ adTo al i 8) w3).mono ?_
              rintro e w4 ⟨rfl, hB4⟩
              go_wp2_with fail
              refine (refRound_any (rnd ((sumTo a b s t).1, (sumTo a b s t).2.1, (sumTo a b s t).2.2.1, (sumTo a b s t).2.2.2 ^^^ adTo al i 8)) w4).mono ?_
              rintro e w5 ⟨rfl, hB5⟩
              have hB35 := hB4.trans (hB5.mono hB4.size)
              have h5 : FourV w5 _ _ _ := (hB35.block _ (Four.lt h3)).trans h3
              obtain ⟨⟨c0, c1, c2, c3⟩, f0, f1, f2, f3⟩ := Four.facts h5
              have HB5 := Lib.hid (hB3.trans (hB35.mono hB3.size))
              have HP5 := Lib.hid (show PutV w5 w5 (w.heap.size + 1) 70 _ from Put.refl h5)
              have h5lt := Four.lt h5
              clear hB3 h3 hB4 hB5 hB35 h5
              go_wp2_with fail
              go_roundw
              case rel =>
                have e : sumTo a b s (t + 1) = addm (sumTo a b s t) (adTo al i 8) := by rw [sumTo_succ, HM.out]
                refine ⟨t + 1, i + 8, Lib.hid (by have := hi.out; omega), by omega, by go_num, ?_, ?_⟩
                · exact HB5.out.trans ((((((HP5.out.set 0 _).set 1 _).set 2 _).set 3 _).set 0 _).below (by omega))
                · rw [e]; exact (((((HP5.out.set 0 _).set 1 _).set 2 _).set 3 _).set 0 _).get h5lt
              case measure => simp [intOf]; omega
        · have ht' : t = s.size / 8 + 1 := by have := hi.out; omega
          obtain ⟨⟨c0, c1, c2, c3⟩, f0, f1, f2, f3⟩ := Four.facts h2
          have h2lt := Four.lt h2
          have HB2 := Lib.hid hB2
          have HP2 := Lib.hid (show PutV wo wo (w.heap.size + 1) 70 (sumTo a b s t) from Put.refl h2)
          have y0 : bits .xor .u64 (U (sumTo a b s t).2.2.1) 255 = U ((sumTo a b s t).2.2.1 ^^^ 255#64) := lit_xor _ 255 (by decide)
          have HS := Lib.hid (sumF_to a b s)
          rw [← ht'] at HS
          clear hB2 h2 ht'
          generalize sumTo a b s t = v at *
          go_wp2_with fail
          refine abs_call (fun u => Below w.heap.size w u ∧ FourV u (w.heap.size + 1) 70 (v.1, v.2.1, v.2.2.1 ^^^ 255#64, v.2.2.2)) ⟨HB2.out.trans ((HP2.out.set 2 _).below (by omega)), (HP2.out.set 2 _).get h2lt⟩ ?_
          rintro w3 ⟨hB3, h3⟩
          clear c0 c1 c2 c3 f0 f1 f2 f3 HP2 HB2 y0
          refine (refRound_any (v.1, v.2.1, v.2.2.1 ^^^ 255#64, v.2.2.2) w3).mono ?_
          rintro e w4 ⟨rfl, hB4⟩
          go_wp2_with fail
          refine (refRound_any (rnd (v.1, v.2.1, v.2.2.1 ^^^ 255#64, v.2.2.2)) w4).mono ?_
          rintro e w5 ⟨rfl, hB5⟩
          go_wp2_with fail
          refine (refRound_any (rnd (rnd (v.1, v.2.1, v.2.2.1 ^^^ 255#64, v.2.2.2))) w5).mono ?_
          rintro e w6 ⟨rfl, hB6⟩
          go_wp2_with fail
          refine (refRound_any (rnd (rnd (rnd (v.1, v.2.1, v.2.2.1 ^^^ 255#64, v.2.2.2)))) w6).mono ?_
          rintro e w7 ⟨rfl, hB7⟩
          have hB37 := hB4.trans ((hB5.mono hB4.size).trans ((hB6.mono (Nat.le_trans hB4.size hB5.size)).trans (hB7.mono (Nat.le_trans hB4.size (Nat.le_trans hB5.size hB6.size)))))
          have h7 : FourV w7 _ _ _ := (hB37.block _ (Four.lt h3)).trans h3
          obtain ⟨⟨c0, c1, c2, c3⟩, f0, f1, f2, f3⟩ := Four.facts h7
          have hBe := hB3.trans (hB37.mono hB3.size)
          have HBe := Lib.hid hBe
          clear hB3 h3 hB4 hB5 hB6 hB7 hB37 h7 hBe
          go_wp2_with fail
          go_ret
          exact ⟨by rw [HS.out]; rfl, (((HBe.out.setCell (by simp) _).setCell (by simp) _).setCell (by simp) _).setCell (by simp) _⟩
    · have hlt7 : p.size < 8 * (s.size / 8) + 7 := by omega
      have ht : ((p.size : Int) % 8 != 7) = true := by rw [bne_iff_ne]; omega
      clear h7
      go_wp2_with fail
      have hsz : (p ++ ⟨#[0]⟩ : ByteArray).size = p.size + 1 := by rw [size_cat]; rfl
      refine ⟨⟨_, rfl, by omega, HP.out.more⟩, ?_⟩
      show 8 * (s.size / 8) + 7 - (p ++ ⟨#[0]⟩ : ByteArray).size < 8 * (s.size / 8) + 7 - p.size
      omega

end Go.Proofs.Ytdhbomipffidlaa
