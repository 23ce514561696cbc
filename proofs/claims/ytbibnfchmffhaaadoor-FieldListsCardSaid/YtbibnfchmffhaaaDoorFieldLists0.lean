/-
  The walk of FieldLists. Printed by gen_f02.py.
-/
import Derived.Test.YtbibnfchmffhaaaDoorFieldTexts0
import Derived.Test.YtbibnfchmffhaaaDoorFldY
namespace Go.Proofs.YtbibnfchmffhaaaDoor
open Go.RowKit Go.Lib

theorem glV_small (s : ByteArray) : ∀ x ∈ glV s, x.size ≤ 400 := by
  intro x hx
  by_cases h : glE s = 0
  · have h1 := (gl_get s h).1
    unfold plE at h1
    by_cases h2 : 100 < (glV s).length
    · rw [if_pos h2] at h1; omega
    · rw [if_neg h2] at h1
      by_cases h3 : okL (glV s) = true
      · exact of_decide_eq_true (List.all_eq_true.1 h3 x hx)
      · rw [if_neg h3] at h1; omega
  · unfold glV at hx
    rw [if_neg h] at hx
    simp at hx
theorem glR_size (s : ByteArray) : (glR s).size ≤ s.size := by
  by_cases h : glE s = 0
  · have h1 := congrArg ByteArray.size (gl_get s h).2
    rw [ByteArray.size_append] at h1
    omega
  · unfold glR
    rw [if_neg h]
    omega
set_option maxRecDepth 100000 in
set_option maxHeartbeats 4000000 in
theorem walk_FieldLists (a0 b0 : Addr) (w : World) (hS : Sent a0 b0 w.heap.size w) (A : Option Addr) (c : Nat) (l : LS) (hm : l.length ≤ 9223372036854775807) (hl : ∀ s ∈ l, s.size ≤ 9223372036854775807) (hA : AtS w w.heap.size A l) (s : ByteArray) (hs : s.size ≤ 9223372036854775807) :
    Calls Tryd.prog 7 #[.slice A l.length c, .string s] w fun e w' => e = .returned (.bool true) ∧ Below w.heap.size w w' := by
  have c1 := cutS_size s
  have HCs := Lib.hid (fun W => cut_any s hs W)
  have HFew := Lib.hid (fun W hA => Few_any A c l l.length rfl hl hm W hA)
  have hfl := fewS_len l
  have hfs := fewS_size l
  have hps := plB_size (fewS l)
  have hpl := plE_cases (fewS l)
  have hgp := gl_put (fewS l) (cutS s)
  have HGP := Lib.hid (fun W hS => GetList_any a0 b0 (plB (fewS l) ++ cutS s) (by rw [ByteArray.size_append]; omega) w.heap.size W hS)
  have HGL := Lib.hid (fun W hS => GetList_any a0 b0 (cutS s) (by omega) w.heap.size W hS)
  have hgl := glV_len (cutS s)
  have hgs := glV_small (cutS s)
  have hgr := glR_size (cutS s)
  have hpg := plB_size (glV (cutS s))
  have hgg := gl_get (cutS s)
  have hge := glE_cases (cutS s)
  unfold ListRes at HGL HGP
  have HS := Lib.hid hS
  have HA := Lib.hid hA
  obtain ⟨X, hX⟩ : ∃ X, plB (fewS l) = X := ⟨_, rfl⟩
  obtain ⟨Y, hY⟩ : ∃ Y, plB (glV (cutS s)) = Y := ⟨_, rfl⟩
  have HX := Lib.hid hX
  have HY := Lib.hid hY
  rw [hX] at hps hgp HGP
  rw [hY] at hpg hgg
  clear hS hA hs hX hY
  generalize fewS l = L at *
  generalize cutS s = C at *
  have hz1 : X.size + C.size ≤ 9223372036854775807 := by omega
  have hz2 : Y.size + (glR C).size ≤ 9223372036854775807 := by omega
  generalize glV C = lv at *
  generalize glR C = lr at *
  generalize glE C = le at *
  obtain ⟨n, hn⟩ : ∃ n, L.length = n := ⟨_, rfl⟩
  obtain ⟨m, hmm⟩ : ∃ m, lv.length = m := ⟨_, rfl⟩
  rw [hn] at hfl
  rw [hmm] at hgl
  obtain ⟨N, hN⟩ : ∃ N, l.length = N := ⟨_, rfl⟩
  rw [hN] at HFew ⊢
  have HN := Lib.hid hn
  have HM := Lib.hid hmm
  have HFs := Lib.hid hfs
  have HGs := Lib.hid hgs
  clear hn hmm hfs hN hl hm hgs hps hgr hpg c1
  rcases hpl with hpe | hpe
  · have HPE := Lib.hid hpe
    clear hgp hpe
    generalize glV (X ++ C) = l3 at *
    generalize glR (X ++ C) = r3 at *
    generalize glE (X ++ C) = e3 at *
    rcases hge with rfl | rfl | rfl
    · have hpl2 := plE_cases lv
      clear hgg
      go_enter Tryd.func7, Tryd.ntmps7
      go_wp2_with fail
      with_reducible refine (shown_any a0 b0 w.heap.size _ HS.out).mono ?_
      rintro e w1 ⟨rfl, hB1⟩
      have HB1 := Lib.hid hB1
      replace HA := Lib.hid (HA.out.later hB1)
      clear hB1
      go_wp2_with fail
      with_reducible refine (HFew.out _ HA.out).mono ?_
      rintro e w2 ⟨hB2, v, rfl, hown⟩
      have HB2 := Lib.hid (HB1.out.trans (hB2.mono HB1.out.size))
      clear hB2
      obtain ⟨A1, k1, rfl, hA1⟩ := own_at hown
      rw [HN.out]
      have HA1 := Lib.hid hA1
      clear hown hA1
      go_wp2_with fail
      with_reducible refine (PutList_any A1 k1 L n HN.out (fun s h => Nat.le_trans (HFs.out s h) (by decide)) (by omega) _ HA1.out).mono ?_
      rintro e w3 ⟨rfl, hB3⟩
      have HB3 := Lib.hid (HB2.out.trans (hB3.mono HB2.out.size))
      replace HA1 := Lib.hid (HA1.out.later hB3)
      clear hB3
      rw [HX.out, HPE.out]
      go_wp2_with fail
      with_reducible refine (HCs.out _).mono ?_
      rintro e w4 ⟨rfl, rfl⟩
      go_wp2_with fail
      with_reducible refine (HGP.out _ (HS.out.later HB3.out)).mono ?_
      rintro e w5 ⟨hB5, v2, rfl, hown2⟩
      have HB5 := Lib.hid (HB3.out.trans (hB5.mono HB3.out.size))
      replace HA1 := Lib.hid (HA1.out.later hB5)
      clear hB5
      obtain ⟨A2, k2, rfl, hA2⟩ := own_at hown2
      have HA2 := Lib.hid hA2
      clear hown2 hA2
      go_wp2_with fail
      with_reducible refine (HCs.out _).mono ?_
      rintro e w6 ⟨rfl, rfl⟩
      go_wp2_with fail
      with_reducible refine (HGL.out _ (HS.out.later HB5.out)).mono ?_
      rintro e w7 ⟨hB7, v3, rfl, hown3⟩
      have HB7 := Lib.hid (HB5.out.trans (hB7.mono HB5.out.size))
      clear hB7
      obtain ⟨A3, k3, rfl, hA3⟩ := own_at hown3
      rw [HM.out]
      have HA3 := Lib.hid hA3
      clear hown3 hA3
      go_wp2_with fail
      with_reducible refine (PutList_any A3 k3 lv m HM.out (fun s h => Nat.le_trans (HGs.out s h) (by decide)) (by omega) _ HA3.out).mono ?_
      rintro e w8 ⟨rfl, hB8⟩
      have HB8 := Lib.hid (HB7.out.trans (hB8.mono HB7.out.size))
      clear hB8
      rw [HY.out]
      go_wp2_with fail
      go_ret
      exact ⟨rfl, HB8.out⟩
    · have hpl2 := plE_cases lv
      clear hgg
      go_enter Tryd.func7, Tryd.ntmps7
      go_wp2_with fail
      with_reducible refine (shown_any a0 b0 w.heap.size _ HS.out).mono ?_
      rintro e w1 ⟨rfl, hB1⟩
      have HB1 := Lib.hid hB1
      replace HA := Lib.hid (HA.out.later hB1)
      clear hB1
      go_wp2_with fail
      with_reducible refine (HFew.out _ HA.out).mono ?_
      rintro e w2 ⟨hB2, v, rfl, hown⟩
      have HB2 := Lib.hid (HB1.out.trans (hB2.mono HB1.out.size))
      clear hB2
      obtain ⟨A1, k1, rfl, hA1⟩ := own_at hown
      rw [HN.out]
      have HA1 := Lib.hid hA1
      clear hown hA1
      go_wp2_with fail
      with_reducible refine (PutList_any A1 k1 L n HN.out (fun s h => Nat.le_trans (HFs.out s h) (by decide)) (by omega) _ HA1.out).mono ?_
      rintro e w3 ⟨rfl, hB3⟩
      have HB3 := Lib.hid (HB2.out.trans (hB3.mono HB2.out.size))
      replace HA1 := Lib.hid (HA1.out.later hB3)
      clear hB3
      rw [HX.out, HPE.out]
      go_wp2_with fail
      with_reducible refine (HCs.out _).mono ?_
      rintro e w4 ⟨rfl, rfl⟩
      go_wp2_with fail
      with_reducible refine (HGP.out _ (HS.out.later HB3.out)).mono ?_
      rintro e w5 ⟨hB5, v2, rfl, hown2⟩
      have HB5 := Lib.hid (HB3.out.trans (hB5.mono HB3.out.size))
      replace HA1 := Lib.hid (HA1.out.later hB5)
      clear hB5
      obtain ⟨A2, k2, rfl, hA2⟩ := own_at hown2
      have HA2 := Lib.hid hA2
      clear hown2 hA2
      go_wp2_with fail
      with_reducible refine (HCs.out _).mono ?_
      rintro e w6 ⟨rfl, rfl⟩
      go_wp2_with fail
      with_reducible refine (HGL.out _ (HS.out.later HB5.out)).mono ?_
      rintro e w7 ⟨hB7, v3, rfl, hown3⟩
      have HB7 := Lib.hid (HB5.out.trans (hB7.mono HB5.out.size))
      clear hB7
      obtain ⟨A3, k3, rfl, hA3⟩ := own_at hown3
      rw [HM.out]
      have HA3 := Lib.hid hA3
      clear hown3 hA3
      go_wp2_with fail
      with_reducible refine (PutList_any A3 k3 lv m HM.out (fun s h => Nat.le_trans (HGs.out s h) (by decide)) (by omega) _ HA3.out).mono ?_
      rintro e w8 ⟨rfl, hB8⟩
      have HB8 := Lib.hid (HB7.out.trans (hB8.mono HB7.out.size))
      clear hB8
      rw [HY.out]
      go_wp2_with fail
      go_ret
      exact ⟨rfl, HB8.out⟩
    · obtain ⟨q1, q2⟩ := hgg rfl
      have HQ1 := Lib.hid q1
      have hq : ((Y ++ lr).toList == C.toList) = true := by rw [q2]; simp
      clear hgg q1 q2
      go_enter Tryd.func7, Tryd.ntmps7
      go_wp2_with fail
      with_reducible refine (shown_any a0 b0 w.heap.size _ HS.out).mono ?_
      rintro e w1 ⟨rfl, hB1⟩
      have HB1 := Lib.hid hB1
      replace HA := Lib.hid (HA.out.later hB1)
      clear hB1
      go_wp2_with fail
      with_reducible refine (HFew.out _ HA.out).mono ?_
      rintro e w2 ⟨hB2, v, rfl, hown⟩
      have HB2 := Lib.hid (HB1.out.trans (hB2.mono HB1.out.size))
      clear hB2
      obtain ⟨A1, k1, rfl, hA1⟩ := own_at hown
      rw [HN.out]
      have HA1 := Lib.hid hA1
      clear hown hA1
      go_wp2_with fail
      with_reducible refine (PutList_any A1 k1 L n HN.out (fun s h => Nat.le_trans (HFs.out s h) (by decide)) (by omega) _ HA1.out).mono ?_
      rintro e w3 ⟨rfl, hB3⟩
      have HB3 := Lib.hid (HB2.out.trans (hB3.mono HB2.out.size))
      replace HA1 := Lib.hid (HA1.out.later hB3)
      clear hB3
      rw [HX.out, HPE.out]
      go_wp2_with fail
      with_reducible refine (HCs.out _).mono ?_
      rintro e w4 ⟨rfl, rfl⟩
      go_wp2_with fail
      with_reducible refine (HGP.out _ (HS.out.later HB3.out)).mono ?_
      rintro e w5 ⟨hB5, v2, rfl, hown2⟩
      have HB5 := Lib.hid (HB3.out.trans (hB5.mono HB3.out.size))
      replace HA1 := Lib.hid (HA1.out.later hB5)
      clear hB5
      obtain ⟨A2, k2, rfl, hA2⟩ := own_at hown2
      have HA2 := Lib.hid hA2
      clear hown2 hA2
      go_wp2_with fail
      with_reducible refine (HCs.out _).mono ?_
      rintro e w6 ⟨rfl, rfl⟩
      go_wp2_with fail
      with_reducible refine (HGL.out _ (HS.out.later HB5.out)).mono ?_
      rintro e w7 ⟨hB7, v3, rfl, hown3⟩
      have HB7 := Lib.hid (HB5.out.trans (hB7.mono HB5.out.size))
      clear hB7
      obtain ⟨A3, k3, rfl, hA3⟩ := own_at hown3
      rw [HM.out]
      have HA3 := Lib.hid hA3
      clear hown3 hA3
      go_wp2_with fail
      with_reducible refine (PutList_any A3 k3 lv m HM.out (fun s h => Nat.le_trans (HGs.out s h) (by decide)) (by omega) _ HA3.out).mono ?_
      rintro e w8 ⟨rfl, hB8⟩
      have HB8 := Lib.hid (HB7.out.trans (hB8.mono HB7.out.size))
      clear hB8
      rw [HY.out, HQ1.out]
      go_wp2_with fail
      with_reducible refine (HCs.out _).mono ?_
      rintro e w9 ⟨rfl, rfl⟩
      go_wp2_with fail
      go_ret
      exact ⟨rfl, HB8.out⟩
  · have HPE := Lib.hid hpe
    obtain ⟨g1, g2, g3⟩ := hgp hpe
    rw [g1, g2, g3] at HGP
    clear hgp hpe g1 g2 g3
    rcases hge with rfl | rfl | rfl
    · have hpl2 := plE_cases lv
      clear hgg
      go_enter Tryd.func7, Tryd.ntmps7
      go_wp2_with fail
      with_reducible refine (shown_any a0 b0 w.heap.size _ HS.out).mono ?_
      rintro e w1 ⟨rfl, hB1⟩
      have HB1 := Lib.hid hB1
      replace HA := Lib.hid (HA.out.later hB1)
      clear hB1
      go_wp2_with fail
      with_reducible refine (HFew.out _ HA.out).mono ?_
      rintro e w2 ⟨hB2, v, rfl, hown⟩
      have HB2 := Lib.hid (HB1.out.trans (hB2.mono HB1.out.size))
      clear hB2
      obtain ⟨A1, k1, rfl, hA1⟩ := own_at hown
      rw [HN.out]
      have HA1 := Lib.hid hA1
      clear hown hA1
      go_wp2_with fail
      with_reducible refine (PutList_any A1 k1 L n HN.out (fun s h => Nat.le_trans (HFs.out s h) (by decide)) (by omega) _ HA1.out).mono ?_
      rintro e w3 ⟨rfl, hB3⟩
      have HB3 := Lib.hid (HB2.out.trans (hB3.mono HB2.out.size))
      replace HA1 := Lib.hid (HA1.out.later hB3)
      clear hB3
      rw [HX.out, HPE.out]
      go_wp2_with fail
      with_reducible refine (HCs.out _).mono ?_
      rintro e w4 ⟨rfl, rfl⟩
      go_wp2_with fail
      with_reducible refine (HGP.out _ (HS.out.later HB3.out)).mono ?_
      rintro e w5 ⟨hB5, v2, rfl, hown2⟩
      have HB5 := Lib.hid (HB3.out.trans (hB5.mono HB3.out.size))
      replace HA1 := Lib.hid (HA1.out.later hB5)
      clear hB5
      obtain ⟨A2, k2, rfl, hA2⟩ := own_at hown2
      rw [HN.out]
      have HA2 := Lib.hid hA2
      clear hown2 hA2
      go_wp2_with fail
      with_reducible refine (texts_same A2 A1 k2 k1 L n HN.out (by omega) _ HA2.out HA1.out).mono ?_
      rintro e w6 ⟨rfl, hB6⟩
      have HB6 := Lib.hid (HB5.out.trans (hB6.mono HB5.out.size))
      replace HA1 := Lib.hid (HA1.out.later hB6)
      clear hB6
      go_wp2_with fail
      with_reducible refine (HCs.out _).mono ?_
      rintro e w7 ⟨rfl, rfl⟩
      go_wp2_with fail
      with_reducible refine (HCs.out _).mono ?_
      rintro e w8 ⟨rfl, rfl⟩
      go_wp2_with fail
      with_reducible refine (HGL.out _ (HS.out.later HB6.out)).mono ?_
      rintro e w9 ⟨hB9, v3, rfl, hown3⟩
      have HB9 := Lib.hid (HB6.out.trans (hB9.mono HB6.out.size))
      clear hB9
      obtain ⟨A3, k3, rfl, hA3⟩ := own_at hown3
      rw [HM.out]
      have HA3 := Lib.hid hA3
      clear hown3 hA3
      go_wp2_with fail
      with_reducible refine (PutList_any A3 k3 lv m HM.out (fun s h => Nat.le_trans (HGs.out s h) (by decide)) (by omega) _ HA3.out).mono ?_
      rintro e w10 ⟨rfl, hB10⟩
      have HB10 := Lib.hid (HB9.out.trans (hB10.mono HB9.out.size))
      clear hB10
      rw [HY.out]
      go_wp2_with fail
      go_ret
      exact ⟨rfl, HB10.out⟩
    · have hpl2 := plE_cases lv
      clear hgg
      go_enter Tryd.func7, Tryd.ntmps7
      go_wp2_with fail
      with_reducible refine (shown_any a0 b0 w.heap.size _ HS.out).mono ?_
      rintro e w1 ⟨rfl, hB1⟩
      have HB1 := Lib.hid hB1
      replace HA := Lib.hid (HA.out.later hB1)
      clear hB1
      go_wp2_with fail
      with_reducible refine (HFew.out _ HA.out).mono ?_
      rintro e w2 ⟨hB2, v, rfl, hown⟩
      have HB2 := Lib.hid (HB1.out.trans (hB2.mono HB1.out.size))
      clear hB2
      obtain ⟨A1, k1, rfl, hA1⟩ := own_at hown
      rw [HN.out]
      have HA1 := Lib.hid hA1
      clear hown hA1
      go_wp2_with fail
      with_reducible refine (PutList_any A1 k1 L n HN.out (fun s h => Nat.le_trans (HFs.out s h) (by decide)) (by omega) _ HA1.out).mono ?_
      rintro e w3 ⟨rfl, hB3⟩
      have HB3 := Lib.hid (HB2.out.trans (hB3.mono HB2.out.size))
      replace HA1 := Lib.hid (HA1.out.later hB3)
      clear hB3
      rw [HX.out, HPE.out]
      go_wp2_with fail
      with_reducible refine (HCs.out _).mono ?_
      rintro e w4 ⟨rfl, rfl⟩
      go_wp2_with fail
      with_reducible refine (HGP.out _ (HS.out.later HB3.out)).mono ?_
      rintro e w5 ⟨hB5, v2, rfl, hown2⟩
      have HB5 := Lib.hid (HB3.out.trans (hB5.mono HB3.out.size))
      replace HA1 := Lib.hid (HA1.out.later hB5)
      clear hB5
      obtain ⟨A2, k2, rfl, hA2⟩ := own_at hown2
      rw [HN.out]
      have HA2 := Lib.hid hA2
      clear hown2 hA2
      go_wp2_with fail
      with_reducible refine (texts_same A2 A1 k2 k1 L n HN.out (by omega) _ HA2.out HA1.out).mono ?_
      rintro e w6 ⟨rfl, hB6⟩
      have HB6 := Lib.hid (HB5.out.trans (hB6.mono HB5.out.size))
      replace HA1 := Lib.hid (HA1.out.later hB6)
      clear hB6
      go_wp2_with fail
      with_reducible refine (HCs.out _).mono ?_
      rintro e w7 ⟨rfl, rfl⟩
      go_wp2_with fail
      with_reducible refine (HCs.out _).mono ?_
      rintro e w8 ⟨rfl, rfl⟩
      go_wp2_with fail
      with_reducible refine (HGL.out _ (HS.out.later HB6.out)).mono ?_
      rintro e w9 ⟨hB9, v3, rfl, hown3⟩
      have HB9 := Lib.hid (HB6.out.trans (hB9.mono HB6.out.size))
      clear hB9
      obtain ⟨A3, k3, rfl, hA3⟩ := own_at hown3
      rw [HM.out]
      have HA3 := Lib.hid hA3
      clear hown3 hA3
      go_wp2_with fail
      with_reducible refine (PutList_any A3 k3 lv m HM.out (fun s h => Nat.le_trans (HGs.out s h) (by decide)) (by omega) _ HA3.out).mono ?_
      rintro e w10 ⟨rfl, hB10⟩
      have HB10 := Lib.hid (HB9.out.trans (hB10.mono HB9.out.size))
      clear hB10
      rw [HY.out]
      go_wp2_with fail
      go_ret
      exact ⟨rfl, HB10.out⟩
    · obtain ⟨q1, q2⟩ := hgg rfl
      have HQ1 := Lib.hid q1
      have hq : ((Y ++ lr).toList == C.toList) = true := by rw [q2]; simp
      clear hgg q1 q2
      go_enter Tryd.func7, Tryd.ntmps7
      go_wp2_with fail
      with_reducible refine (shown_any a0 b0 w.heap.size _ HS.out).mono ?_
      rintro e w1 ⟨rfl, hB1⟩
      have HB1 := Lib.hid hB1
      replace HA := Lib.hid (HA.out.later hB1)
      clear hB1
      go_wp2_with fail
      with_reducible refine (HFew.out _ HA.out).mono ?_
      rintro e w2 ⟨hB2, v, rfl, hown⟩
      have HB2 := Lib.hid (HB1.out.trans (hB2.mono HB1.out.size))
      clear hB2
      obtain ⟨A1, k1, rfl, hA1⟩ := own_at hown
      rw [HN.out]
      have HA1 := Lib.hid hA1
      clear hown hA1
      go_wp2_with fail
      with_reducible refine (PutList_any A1 k1 L n HN.out (fun s h => Nat.le_trans (HFs.out s h) (by decide)) (by omega) _ HA1.out).mono ?_
      rintro e w3 ⟨rfl, hB3⟩
      have HB3 := Lib.hid (HB2.out.trans (hB3.mono HB2.out.size))
      replace HA1 := Lib.hid (HA1.out.later hB3)
      clear hB3
      rw [HX.out, HPE.out]
      go_wp2_with fail
      with_reducible refine (HCs.out _).mono ?_
      rintro e w4 ⟨rfl, rfl⟩
      go_wp2_with fail
      with_reducible refine (HGP.out _ (HS.out.later HB3.out)).mono ?_
      rintro e w5 ⟨hB5, v2, rfl, hown2⟩
      have HB5 := Lib.hid (HB3.out.trans (hB5.mono HB3.out.size))
      replace HA1 := Lib.hid (HA1.out.later hB5)
      clear hB5
      obtain ⟨A2, k2, rfl, hA2⟩ := own_at hown2
      rw [HN.out]
      have HA2 := Lib.hid hA2
      clear hown2 hA2
      go_wp2_with fail
      with_reducible refine (texts_same A2 A1 k2 k1 L n HN.out (by omega) _ HA2.out HA1.out).mono ?_
      rintro e w6 ⟨rfl, hB6⟩
      have HB6 := Lib.hid (HB5.out.trans (hB6.mono HB5.out.size))
      replace HA1 := Lib.hid (HA1.out.later hB6)
      clear hB6
      go_wp2_with fail
      with_reducible refine (HCs.out _).mono ?_
      rintro e w7 ⟨rfl, rfl⟩
      go_wp2_with fail
      with_reducible refine (HCs.out _).mono ?_
      rintro e w8 ⟨rfl, rfl⟩
      go_wp2_with fail
      with_reducible refine (HGL.out _ (HS.out.later HB6.out)).mono ?_
      rintro e w9 ⟨hB9, v3, rfl, hown3⟩
      have HB9 := Lib.hid (HB6.out.trans (hB9.mono HB6.out.size))
      clear hB9
      obtain ⟨A3, k3, rfl, hA3⟩ := own_at hown3
      rw [HM.out]
      have HA3 := Lib.hid hA3
      clear hown3 hA3
      go_wp2_with fail
      with_reducible refine (PutList_any A3 k3 lv m HM.out (fun s h => Nat.le_trans (HGs.out s h) (by decide)) (by omega) _ HA3.out).mono ?_
      rintro e w10 ⟨rfl, hB10⟩
      have HB10 := Lib.hid (HB9.out.trans (hB10.mono HB9.out.size))
      clear hB10
      rw [HY.out, HQ1.out]
      go_wp2_with fail
      with_reducible refine (HCs.out _).mono ?_
      rintro e w11 ⟨rfl, rfl⟩
      go_wp2_with fail
      go_ret
      exact ⟨rfl, HB10.out⟩
end Go.Proofs.YtbibnfchmffhaaaDoor
