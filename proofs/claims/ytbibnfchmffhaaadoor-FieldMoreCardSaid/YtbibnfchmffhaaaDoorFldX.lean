/-
  A text, a list of bytes by the reference.
-/
import Derived.Test.YtbibnfchmffhaaaDoorFldW
namespace Go.Proofs.YtbibnfchmffhaaaDoor
open Go.RowKit

set_option maxRecDepth 100000 in
set_option maxHeartbeats 4000000 in
theorem refGetText_any (s : ByteArray) (hs : s.size ≤ 9223372036854775807) (w : World) :
    Calls Tryd.prog 26 #[.string s] w fun e w' => e = .returned (.tuple #[.string (gtV s), .string (gtR s), .int .i64 (txtE s)]) ∧ Below w.heap.size w w' := by
  have HC := Lib.hid (refGet_any s hs w)
  have hRs := getR_size s
  have bad : ∀ x : Int, x ≠ 0 → txtE s = x → gtV s = ⟨#[]⟩ ∧ gtR s = s := fun x h1 h2 => by unfold gtV gtR; rw [if_neg (by omega), if_neg (by omega)]; exact ⟨rfl, rfl⟩
  rcases numE_cases s with he | he | he
  · have ht : txtE s = 20 := by unfold txtE; rw [if_pos he]
    obtain ⟨h1, h2⟩ := bad 20 (by decide) ht
    rw [h1, h2, ht]
    rw [he] at HC
    clear bad h1 h2 ht he hRs
    go_enter Tryd.func26, Tryd.ntmps26
    go_wp2_with fail
    with_reducible refine HC.out.mono ?_
    rintro e w1 ⟨rfl, hB1⟩
    have HB1 := Lib.hid hB1
    clear hB1
    go_wp2_with fail
    refine bodyPost_ret (v := .tuple #[.string ⟨#[]⟩, .string s, .int .i64 20]) (by simp [results, Tryd.results26, go_sem]) rfl ⟨rfl, HB1.out⟩
  · have ht : txtE s = 21 := by unfold txtE; rw [if_neg (by omega), if_pos he]
    obtain ⟨h1, h2⟩ := bad 21 (by decide) ht
    rw [h1, h2, ht]
    rw [he] at HC
    clear bad h1 h2 ht he hRs
    go_enter Tryd.func26, Tryd.ntmps26
    go_wp2_with fail
    with_reducible refine HC.out.mono ?_
    rintro e w1 ⟨rfl, hB1⟩
    have HB1 := Lib.hid hB1
    clear hB1
    go_wp2_with fail
    refine bodyPost_ret (v := .tuple #[.string ⟨#[]⟩, .string s, .int .i64 21]) (by simp [results, Tryd.results26, go_sem]) rfl ⟨rfl, HB1.out⟩
  · have hn : getN s = numV s := by unfold getN; rw [if_pos he]
    rw [he, hn] at HC
    have hU : U (numV s) = ((numV s).toNat : Int) := rfl
    have htE : txtE s = if 400 < (numV s).toNat then 21 else if (getR s).size < (numV s).toNat then 20 else 0 := by unfold txtE; rw [if_neg (by omega), if_neg (by omega)]
    have good : txtE s = 0 → gtV s = (getR s).extract 0 (numV s).toNat ∧ gtR s = (getR s).extract (numV s).toNat (getR s).size := fun h => by unfold gtV gtR; rw [if_pos h, if_pos h]; exact ⟨rfl, rfl⟩
    generalize numV s = V at *
    generalize getR s = R at *
    obtain ⟨N, hN⟩ : ∃ N, V.toNat = N := ⟨_, rfl⟩
    rw [hN] at hU htE good
    rw [hU] at HC
    clear he hn hN hU
    by_cases h4 : 400 < N
    · have ht : txtE s = 21 := by rw [htE, if_pos h4]
      obtain ⟨h1, h2⟩ := bad 21 (by decide) ht
      rw [h1, h2, ht]
      have k1 : (400 : Int) < (N : Int) := by omega
      clear bad good htE h1 h2 ht h4
      go_enter Tryd.func26, Tryd.ntmps26
      go_wp2_with fail
      with_reducible refine HC.out.mono ?_
      rintro e w1 ⟨rfl, hB1⟩
      have HB1 := Lib.hid hB1
      clear hB1
      go_wp2_with fail
      refine bodyPost_ret (v := .tuple #[.string ⟨#[]⟩, .string s, .int .i64 21]) (by simp [results, Tryd.results26, go_sem]) rfl ⟨rfl, HB1.out⟩
    · have k1 : ¬ (400 : Int) < (N : Int) := by omega
      have k0 : ((R.size : Nat) : Int) ≤ 9223372036854775807 := by omega
      by_cases h5 : R.size < N
      · have ht : txtE s = 20 := by rw [htE, if_neg h4, if_pos h5]
        obtain ⟨h1, h2⟩ := bad 20 (by decide) ht
        rw [h1, h2, ht]
        have k2 : ((R.size : Nat) : Int) < (N : Int) := by omega
        clear bad good htE h1 h2 ht h4 h5
        go_enter Tryd.func26, Tryd.ntmps26
        go_wp2_with fail
        with_reducible refine HC.out.mono ?_
        rintro e w1 ⟨rfl, hB1⟩
        have HB1 := Lib.hid hB1
        clear hB1
        go_wp2_with fail
        refine bodyPost_ret (v := .tuple #[.string ⟨#[]⟩, .string s, .int .i64 20]) (by simp [results, Tryd.results26, go_sem]) rfl ⟨rfl, HB1.out⟩
      · have ht : txtE s = 0 := by rw [htE, if_neg h4, if_neg h5]
        obtain ⟨h1, h2⟩ := good ht
        rw [h1, h2, ht]
        have k2 : ¬ ((R.size : Nat) : Int) < (N : Int) := by omega
        have k3 : (N : Int) ≤ ((R.size : Nat) : Int) := by omega
        have k4 : (0 : Int) ≤ (N : Int) := by omega
        clear bad good htE h1 h2 ht h4 h5
        go_enter Tryd.func26, Tryd.ntmps26
        go_wp2_with fail
        with_reducible refine HC.out.mono ?_
        rintro e w1 ⟨rfl, hB1⟩
        have HB1 := Lib.hid hB1
        clear hB1
        go_wp2_with fail
        go_quiet (fail)
        go_wp2_with fail
        refine bodyPost_ret (v := .tuple #[.string (R.extract 0 N), .string (R.extract N R.size), .int .i64 0]) (by simp [results, Tryd.results26, go_sem]) rfl ⟨rfl, dn HB1.out _⟩

theorem lnE_gt (k : Nat) (s : ByteArray) : lnE (k + 1) s = if txtE s = 0 then lnE k (gtR s) else txtE s := by
  rw [lnE]
  by_cases h : txtE s = 0
  · rw [if_pos h, if_pos h]; unfold gtR; rw [if_pos h]
  · rw [if_neg h, if_neg h]

set_option maxRecDepth 100000 in
set_option maxHeartbeats 8000000 in
theorem refGetList_any (s : ByteArray) (hs : s.size ≤ 9223372036854775807) (w : World) :
    Calls Tryd.prog 27 #[.string s] w (ListRes s w) := by
  have HC := Lib.hid (refGet_any s hs w)
  have hRs := getR_size s
  rcases numE_cases s with he | he | he
  · have ht : glE s = 20 := by unfold glE; rw [if_pos he]
    have HT := Lib.hid ht
    rw [he] at HC
    clear ht he hRs
    go_enter Tryd.func27, Tryd.ntmps27
    go_wp2_with fail
    with_reducible refine HC.out.mono ?_
    rintro e w1 ⟨rfl, hB1⟩
    have HB1 := Lib.hid hB1
    clear hB1
    go_wp2_with fail
    refine bodyPost_ret (v := .tuple #[.slice none 0 0, .string s, .int .i64 20]) (by simp [results, Tryd.results27, go_sem]) rfl (listRes_bad 20 (by decide) HT.out HB1.out)
  · have ht : glE s = 21 := by unfold glE; rw [if_neg (by omega), if_pos he]
    have HT := Lib.hid ht
    rw [he] at HC
    clear ht he hRs
    go_enter Tryd.func27, Tryd.ntmps27
    go_wp2_with fail
    with_reducible refine HC.out.mono ?_
    rintro e w1 ⟨rfl, hB1⟩
    have HB1 := Lib.hid hB1
    clear hB1
    go_wp2_with fail
    refine bodyPost_ret (v := .tuple #[.slice none 0 0, .string s, .int .i64 21]) (by simp [results, Tryd.results27, go_sem]) rfl (listRes_bad 21 (by decide) HT.out HB1.out)
  · have hn : getN s = numV s := by unfold getN; rw [if_pos he]
    rw [he, hn] at HC
    have hU : U (numV s) = ((numV s).toNat : Int) := rfl
    have hgl : glE s = if 100 < (numV s).toNat then 21 else lnE (numV s).toNat (getR s) := by unfold glE; rw [if_neg (by omega), if_neg (by omega)]
    have hv1 : glE s = 0 → glV s = lnV (numV s).toNat (getR s) ∧ glR s = lnR (numV s).toNat (getR s) := fun h => by unfold glV glR; rw [if_pos h, if_pos h]; exact ⟨rfl, rfl⟩
    have HV1 := Lib.hid hv1
    have HGl := Lib.hid hgl
    generalize numV s = V at *
    generalize getR s = r0 at *
    obtain ⟨N, hN⟩ : ∃ N, V.toNat = N := ⟨_, rfl⟩
    rw [hN] at hU HV1 HGl
    rw [hU] at HC
    clear he hn hN hU hgl hv1
    by_cases h100 : 100 < N
    · have k1 : (100 : Int) < (N : Int) := by omega
      have HT : Hid (glE s = 21) := Lib.hid (by rw [HGl.out, if_pos h100])
      clear h100 HGl HV1
      go_enter Tryd.func27, Tryd.ntmps27
      go_wp2_with fail
      with_reducible refine HC.out.mono ?_
      rintro e w1 ⟨rfl, hB1⟩
      have HB1 := Lib.hid hB1
      clear hB1
      go_wp2_with fail
      refine bodyPost_ret (v := .tuple #[.slice none 0 0, .string s, .int .i64 21]) (by simp [results, Tryd.results27, go_sem]) rfl (listRes_bad 21 (by decide) HT.out HB1.out)
    · have k1 : ¬ (100 : Int) < (N : Int) := by omega
      have hN100 : N ≤ 100 := by omega
      have HG : Hid (glE s = lnE N r0) := Lib.hid (by rw [HGl.out, if_neg h100])
      clear h100 HGl
      go_enter Tryd.func27, Tryd.ntmps27
      go_wp2_with fail
      with_reducible refine HC.out.mono ?_
      rintro e w1 ⟨rfl, hB1⟩
      have HB1 := Lib.hid hB1
      clear hB1 HC
      go_wp2_with fail
      go_loopw [6, 8, 9] (fun rv vv iv wr => ∃ (k : Nat) (R : ByteArray) (acc : LS), k ≤ N ∧ iv = .int .u64 k ∧ rv = .string R ∧ Below w.heap.size w wr ∧ R.size ≤ s.size ∧ Hid (acc.length = k) ∧ OwnS wr w.heap.size vv acc ∧ Hid (lnE N r0 = lnE (N - k) R ∧ lnV N r0 = acc ++ lnV (N - k) R ∧ lnR N r0 = lnR (N - k) R)) (fun _ _ iv _ => N - (intOf iv).toNat)
      case atStart => exact ⟨0, r0, [], Nat.zero_le _, rfl, rfl, HB1.out, hRs, Lib.hid rfl, OwnS.nil _ _, Lib.hid ⟨rfl, rfl, rfl⟩⟩
      case round =>
        obtain ⟨k, R, acc, hk, rfl, rfl, hB, hRz, HA, hown, HL⟩ := hrel
        obtain ⟨A5, c5, rfl, hlc, -⟩ := hown.at_
        have HOwn := Lib.hid hown
        clear hown
        rw [HA.out] at hlc HOwn ⊢
        have hRz2 : R.size ≤ 9223372036854775807 := by omega
        by_cases hkn : k < N
        · have e1 : N - k = (N - (k + 1)) + 1 := by omega
          have hl := HL.out
          rw [e1, lnE, lnV, lnR] at hl
          have HL' := Lib.hid hl
          have hkI : (k : Int) < (N : Int) := by omega
          have HC := Lib.hid (refGetText_any R hRz2 wr)
          clear HL hl e1
          rcases txtE_cases R with ht | ht | ht
          · have HG2 : Hid (glE s = 20) := Lib.hid (by rw [HG.out, HL'.out.1, if_neg (by omega), ht])
            rw [ht] at HC
            clear ht
            go_wp2_with fail
            with_reducible refine HC.out.mono ?_
            rintro e w2 ⟨rfl, hB2⟩
            have HB2 := Lib.hid (hB.trans (hB2.mono hB.size))
            clear hB2
            go_wp2_with fail
            refine bodyPost_ret (v := .tuple #[.slice none 0 0, .string s, .int .i64 20]) (by simp [results, Tryd.results27, go_sem]) rfl (listRes_bad 20 (by decide) HG2.out HB2.out)
          · have HG2 : Hid (glE s = 21) := Lib.hid (by rw [HG.out, HL'.out.1, if_neg (by omega), ht])
            rw [ht] at HC
            clear ht
            go_wp2_with fail
            with_reducible refine HC.out.mono ?_
            rintro e w2 ⟨rfl, hB2⟩
            have HB2 := Lib.hid (hB.trans (hB2.mono hB.size))
            clear hB2
            go_wp2_with fail
            refine bodyPost_ret (v := .tuple #[.slice none 0 0, .string s, .int .i64 21]) (by simp [results, Tryd.results27, go_sem]) rfl (listRes_bad 21 (by decide) HG2.out HB2.out)
          · have HL2 : Hid (lnE N r0 = lnE (N - (k + 1)) (txtR R)) := Lib.hid (by rw [HL'.out.1, if_pos ht])
            have hrs := txtR_size R
            have hgv : gtV R = txtV R := by unfold gtV; rw [if_pos ht]
            have hgr : gtR R = txtR R := by unfold gtR; rw [if_pos ht]
            rw [ht, hgv, hgr] at HC
            clear ht hgv hgr
            generalize txtV R = X at *
            generalize txtR R = R' at *
            go_wp2_with fail
            with_reducible refine HC.out.mono ?_
            rintro e w2 ⟨rfl, hB2⟩
            have HB2 := Lib.hid (hB.trans (hB2.mono hB.size))
            have hz2 := HB2.out.size
            have hown2 := HOwn.out.later hB2
            clear hB2
            have ha : OwnS (w2.alloc (.cells #[.string X] 9)) w.heap.size (.slice A5 k c5) acc := hown2.of (fun k _ hk => Below.heap_alloc _ _ _ hk)
            obtain ⟨v1, W1, happ, hown1, hB1'⟩ := append_str (w2.alloc (.cells #[.string X] 9)) w.heap.size _ acc X w2.heap.size ha (cell_at (new_at w2 _ _ rfl) 0) (by simp; omega) (by rw [HA.out]; omega)
            have HApp := Lib.hid happ
            have hB3 : Below w.heap.size w2 W1 := ((Below.refl _ w2).alloc (by omega) _).trans hB1'
            have HB3 := Lib.hid (HB2.out.trans hB3)
            have HO := Lib.hid hown1
            clear happ hown1 hB3 hB1' ha hown2
            go_wp2_with (at_builtin; refine wpListS_append_run rfl (.tmp 44) (.tmp 46) _ rfl rfl rfl HApp.out ?_)
            go_roundw
            case rel =>
              refine ⟨k + 1, R', acc ++ [X], by omega, by go_num, rfl, HB3.out, by omega, Lib.hid (by rw [List.length_append, HA.out]; rfl), HO.out, Lib.hid ⟨HL2.out, ?_, HL'.out.2.2⟩⟩
              rw [HL'.out.2.1]
              simp
            case measure => simp [intOf]; omega
        · have hge : ¬ (k : Int) < (N : Int) := by omega
          have e1 : N - k = 0 := by omega
          have hl := HL.out
          rw [e1, lnE, lnV, lnR] at hl
          have h0 : glE s = 0 := by rw [HG.out, hl.1]
          have hv := HV1.out h0
          rw [hl.2.1, hl.2.2, List.append_nil] at hv
          have HV := Lib.hid hv
          have H0 := Lib.hid h0
          clear hl h0 hv e1 HL
          go_wp2_with fail
          refine bodyPost_ret (v := .tuple #[.slice A5 k c5, .string R, .int .i64 0]) (by simp [results, Tryd.results27, go_sem]) rfl ?_
          exact ⟨hB, _, by rw [H0.out, HV.out.2], by rw [HV.out.1]; exact HOwn.out⟩
end Go.Proofs.YtbibnfchmffhaaaDoor
