/-
  The walk of FieldMore. Printed by gen_f02.py.
-/
import Derived.Test.YtbibnfchmffhaaaDoorFieldTexts0
import Derived.Test.YtbibnfchmffhaaaDoorFldY
namespace Go.Proofs.YtbibnfchmffhaaaDoor
open Go.RowKit Go.Lib

set_option maxRecDepth 100000 in
set_option maxHeartbeats 4000000 in
theorem walk_FieldMore (a0 b0 : Addr) (w : World) (hS : Sent a0 b0 w.heap.size w) (nn : BitVec 64) (A : Option Addr) (c : Nat) (l : LS) (hm : l.length ≤ 9223372036854775807) (hl : ∀ s ∈ l, s.size ≤ 9223372036854775807) (hA : AtS w w.heap.size A l) (z : Int) (_hz : -9223372036854775808 ≤ z) (hz2 : z ≤ 9223372036854775807) :
    Calls Tryd.prog 8 #[.int .u64 (U nn), .slice A l.length c, .int .i64 z] w fun e w' => e = .returned (.bool true) ∧ Below w.heap.size w w' := by
  have HP := Lib.hid (fun W => Put_at nn _ rfl W)
  have hb := bytesF_size nn
  have hls := get_less nn ((bytesF nn).extract 0 ((bytesF nn).size - 1)) (by
    rw [extract_list, List.drop_zero, bytesF_list]
    exact List.take_prefix _ _) (by
    rw [ByteArray.size_extract]
    have : (bytesF nn).size = (putF nn).length := by rw [size_list, bytesF_list]
    omega)
  have HG := Lib.hid (fun W hS => by
    have h := Get_any a0 b0 ((bytesF nn).extract 0 ((bytesF nn).size - 1)) (by rw [ByteArray.size_extract]; omega) w.heap.size W hS
    have h2 : getR ((bytesF nn).extract 0 ((bytesF nn).size - 1)) = (bytesF nn).extract 0 ((bytesF nn).size - 1) := by unfold getR; rw [if_neg (by omega)]
    rw [h2, hls] at h
    exact h)
  clear hls
  have HFew := Lib.hid (fun W hA => Few_any A c l l.length rfl hl hm W hA)
  have hfl := fewS_len l
  have hfs := fewS_size l
  have hps := plB_size (fewS l)
  have hpl := plE_cases (fewS l)
  have hgp : ∀ N, N < (plB (fewS l)).size → plE (fewS l) = 0 → glE ((plB (fewS l)).extract 0 N) = 20 := fun N hN h => gl_less (fewS l) h _ (by
    rw [extract_list, List.drop_zero]
    exact List.take_prefix _ _) (by rw [ByteArray.size_extract]; omega)
  have HS := Lib.hid hS
  have HA := Lib.hid hA
  obtain ⟨X, hX⟩ : ∃ X, plB (fewS l) = X := ⟨_, rfl⟩
  have HX := Lib.hid hX
  rw [hX] at hps hgp
  clear hS hA hX
  generalize fewS l = L at *
  generalize bytesF nn = Z at *
  generalize getN (Z.extract 0 (Z.size - 1)) = gz at *
  have hzs : (Z.extract 0 (Z.size - 1)).size = Z.size - 1 := by rw [ByteArray.size_extract]; omega
  have hb1 : (1 : Int) ≤ ((Z.size : Nat) : Int) := by omega
  have hb2 : ((Z.size : Nat) : Int) ≤ 9 := by omega
  have hb3 : 1 ≤ Z.size := by omega
  have hmin : min 1 ((Z.size : Nat) : Int) = 1 := by omega
  obtain ⟨n, hn⟩ : ∃ n, L.length = n := ⟨_, rfl⟩
  rw [hn] at hfl
  obtain ⟨N, hN⟩ : ∃ N, l.length = N := ⟨_, rfl⟩
  rw [hN] at HFew ⊢
  have HN := Lib.hid hn
  have HFs := Lib.hid hfs
  clear hn hfs hN hl hm
  have hsx : X.size ≤ 9223372036854775807 := by omega
  rcases hpl with hpe | hpe
  · have HPE := Lib.hid hpe
    clear hgp hpe hps
    go_enter Tryd.func8, Tryd.ntmps8
    go_wp2_with fail
    with_reducible refine (shown_any a0 b0 w.heap.size _ HS.out).mono ?_
    rintro e w1 ⟨rfl, hB1⟩
    have HB1 := Lib.hid hB1
    replace HA := Lib.hid (HA.out.later hB1)
    clear hB1
    go_wp2_with fail
    with_reducible refine (HP.out _).mono ?_
    rintro e w2 ⟨rfl, hB2⟩
    have HB2 := Lib.hid (HB1.out.trans (hB2.mono HB1.out.size))
    replace HA := Lib.hid (HA.out.later hB2)
    clear hB2
    go_wp2_with fail
    with_reducible refine (HG.out _ (HS.out.later HB2.out)).mono ?_
    rintro e w3 ⟨rfl, hB3⟩
    have HB3 := Lib.hid (HB2.out.trans (hB3.mono HB2.out.size))
    replace HA := Lib.hid (HA.out.later hB3)
    clear hB3
    go_wp2_with fail
    with_reducible refine (HFew.out _ HA.out).mono ?_
    rintro e w4 ⟨hB4, v, rfl, hown⟩
    have HB4 := Lib.hid (HB3.out.trans (hB4.mono HB3.out.size))
    clear hB4
    obtain ⟨A1, k1, rfl, hA1⟩ := own_at hown
    rw [HN.out]
    have HA1 := Lib.hid hA1
    clear hown hA1
    go_wp2_with fail
    with_reducible refine (PutList_any A1 k1 L n HN.out (fun s h => Nat.le_trans (HFs.out s h) (by decide)) (by omega) _ HA1.out).mono ?_
    rintro e w5 ⟨rfl, hB5⟩
    have HB5 := Lib.hid (HB4.out.trans (hB5.mono HB4.out.size))
    clear hB5
    rw [HX.out, HPE.out]
    go_wp2_with fail
    go_ret
    exact ⟨rfl, HB5.out⟩
  · have HPE := Lib.hid hpe
    by_cases z0 : z < 0
    · clear hgp hpe hps
      go_enter Tryd.func8, Tryd.ntmps8
      go_wp2_with fail
      with_reducible refine (shown_any a0 b0 w.heap.size _ HS.out).mono ?_
      rintro e w1 ⟨rfl, hB1⟩
      have HB1 := Lib.hid hB1
      replace HA := Lib.hid (HA.out.later hB1)
      clear hB1
      go_wp2_with fail
      with_reducible refine (HP.out _).mono ?_
      rintro e w2 ⟨rfl, hB2⟩
      have HB2 := Lib.hid (HB1.out.trans (hB2.mono HB1.out.size))
      replace HA := Lib.hid (HA.out.later hB2)
      clear hB2
      go_wp2_with fail
      with_reducible refine (HG.out _ (HS.out.later HB2.out)).mono ?_
      rintro e w3 ⟨rfl, hB3⟩
      have HB3 := Lib.hid (HB2.out.trans (hB3.mono HB2.out.size))
      replace HA := Lib.hid (HA.out.later hB3)
      clear hB3
      go_wp2_with fail
      with_reducible refine (HFew.out _ HA.out).mono ?_
      rintro e w4 ⟨hB4, v, rfl, hown⟩
      have HB4 := Lib.hid (HB3.out.trans (hB4.mono HB3.out.size))
      clear hB4
      obtain ⟨A1, k1, rfl, hA1⟩ := own_at hown
      rw [HN.out]
      have HA1 := Lib.hid hA1
      clear hown hA1
      go_wp2_with fail
      with_reducible refine (PutList_any A1 k1 L n HN.out (fun s h => Nat.le_trans (HFs.out s h) (by decide)) (by omega) _ HA1.out).mono ?_
      rintro e w5 ⟨rfl, hB5⟩
      have HB5 := Lib.hid (HB4.out.trans (hB5.mono HB4.out.size))
      clear hB5
      rw [HX.out, HPE.out]
      go_wp2_with fail
      go_ret
      exact ⟨rfl, HB5.out⟩
    · by_cases z1 : ((X.size : Nat) : Int) ≤ z
      · clear hgp hpe hps
        go_enter Tryd.func8, Tryd.ntmps8
        go_wp2_with fail
        with_reducible refine (shown_any a0 b0 w.heap.size _ HS.out).mono ?_
        rintro e w1 ⟨rfl, hB1⟩
        have HB1 := Lib.hid hB1
        replace HA := Lib.hid (HA.out.later hB1)
        clear hB1
        go_wp2_with fail
        with_reducible refine (HP.out _).mono ?_
        rintro e w2 ⟨rfl, hB2⟩
        have HB2 := Lib.hid (HB1.out.trans (hB2.mono HB1.out.size))
        replace HA := Lib.hid (HA.out.later hB2)
        clear hB2
        go_wp2_with fail
        with_reducible refine (HG.out _ (HS.out.later HB2.out)).mono ?_
        rintro e w3 ⟨rfl, hB3⟩
        have HB3 := Lib.hid (HB2.out.trans (hB3.mono HB2.out.size))
        replace HA := Lib.hid (HA.out.later hB3)
        clear hB3
        go_wp2_with fail
        with_reducible refine (HFew.out _ HA.out).mono ?_
        rintro e w4 ⟨hB4, v, rfl, hown⟩
        have HB4 := Lib.hid (HB3.out.trans (hB4.mono HB3.out.size))
        clear hB4
        obtain ⟨A1, k1, rfl, hA1⟩ := own_at hown
        rw [HN.out]
        have HA1 := Lib.hid hA1
        clear hown hA1
        go_wp2_with fail
        with_reducible refine (PutList_any A1 k1 L n HN.out (fun s h => Nat.le_trans (HFs.out s h) (by decide)) (by omega) _ HA1.out).mono ?_
        rintro e w5 ⟨rfl, hB5⟩
        have HB5 := Lib.hid (HB4.out.trans (hB5.mono HB4.out.size))
        clear hB5
        rw [HX.out, HPE.out]
        go_wp2_with fail
        go_ret
        exact ⟨rfl, HB5.out⟩
      · obtain ⟨M, rfl⟩ := Int.eq_ofNat_of_zero_le (Int.not_lt.1 z0)
        have hgl := hgp M (by omega) hpe
        have HGL := Lib.hid (fun W hS => by
          have h := GetList_any a0 b0 (X.extract 0 M) (by rw [ByteArray.size_extract]; omega) w.heap.size W hS
          unfold ListRes at h
          have h2 : glR (X.extract 0 M) = X.extract 0 M := by unfold glR; rw [if_neg (by omega)]
          rw [h2, hgl] at h
          exact h)
        have z2 : (M : Int) < ((X.size : Nat) : Int) := by omega
        have z3 : (0 : Int) ≤ (M : Int) := by omega
        have z4 : M ≤ X.size := by omega
        clear hgp hpe hps hgl z1 z0
        go_enter Tryd.func8, Tryd.ntmps8
        go_wp2_with fail
        with_reducible refine (shown_any a0 b0 w.heap.size _ HS.out).mono ?_
        rintro e w1 ⟨rfl, hB1⟩
        have HB1 := Lib.hid hB1
        replace HA := Lib.hid (HA.out.later hB1)
        clear hB1
        go_wp2_with fail
        with_reducible refine (HP.out _).mono ?_
        rintro e w2 ⟨rfl, hB2⟩
        have HB2 := Lib.hid (HB1.out.trans (hB2.mono HB1.out.size))
        replace HA := Lib.hid (HA.out.later hB2)
        clear hB2
        go_wp2_with fail
        with_reducible refine (HG.out _ (HS.out.later HB2.out)).mono ?_
        rintro e w3 ⟨rfl, hB3⟩
        have HB3 := Lib.hid (HB2.out.trans (hB3.mono HB2.out.size))
        replace HA := Lib.hid (HA.out.later hB3)
        clear hB3
        go_wp2_with fail
        with_reducible refine (HFew.out _ HA.out).mono ?_
        rintro e w4 ⟨hB4, v, rfl, hown⟩
        have HB4 := Lib.hid (HB3.out.trans (hB4.mono HB3.out.size))
        clear hB4
        obtain ⟨A1, k1, rfl, hA1⟩ := own_at hown
        rw [HN.out]
        have HA1 := Lib.hid hA1
        clear hown hA1
        go_wp2_with fail
        with_reducible refine (PutList_any A1 k1 L n HN.out (fun s h => Nat.le_trans (HFs.out s h) (by decide)) (by omega) _ HA1.out).mono ?_
        rintro e w5 ⟨rfl, hB5⟩
        have HB5 := Lib.hid (HB4.out.trans (hB5.mono HB4.out.size))
        clear hB5
        rw [HX.out, HPE.out]
        go_wp2_with fail
        with_reducible refine (HGL.out _ (HS.out.later HB5.out)).mono ?_
        rintro e w6 ⟨hB6, v3, rfl, hown3⟩
        have HB6 := Lib.hid (HB5.out.trans (hB6.mono HB5.out.size))
        clear hB6
        go_wp2_with fail
        go_ret
        exact ⟨rfl, HB6.out⟩
end Go.Proofs.YtbibnfchmffhaaaDoor
