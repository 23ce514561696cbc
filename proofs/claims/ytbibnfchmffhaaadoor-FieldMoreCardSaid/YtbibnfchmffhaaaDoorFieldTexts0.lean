/-
  The walk of FieldTexts. Printed by gen_f02.py.
-/
import Derived.Test.YtbibnfchmffhaaaDoorFldM
import Derived.Test.YtbibnfchmffhaaaDoorFldX
namespace Go.Proofs.YtbibnfchmffhaaaDoor
open Go.RowKit Go.Lib

/-- What PutText tells. -/
def ptB (t : ByteArray) : ByteArray := if t.size ≤ 400 then textF t else ⟨#[]⟩
def ptE (t : ByteArray) : Int := if t.size ≤ 400 then 0 else 21
theorem PutText_any (t : ByteArray) (w : World) : Calls Tryd.prog 18 #[.string t] w fun e w' => e = .returned (.tuple #[.string (ptB t), .int .i64 (ptE t)]) ∧ Below w.heap.size w w' := by
  unfold ptB ptE
  by_cases h : t.size ≤ 400
  · rw [if_pos h, if_pos h]; exact PutText_ok t h w
  · rw [if_neg h, if_neg h]; exact (PutText_long t (by omega) w).mono fun e w' ⟨h1, h2⟩ => ⟨h1, by rw [h2]; exact Below.refl _ w⟩
theorem refPutText_any (t : ByteArray) (w : World) : Calls Tryd.prog 24 #[.string t] w fun e w' => e = .returned (.tuple #[.string (ptB t), .int .i64 (ptE t)]) ∧ Below w.heap.size w w' := by
  unfold ptB ptE
  by_cases h : t.size ≤ 400
  · rw [if_pos h, if_pos h]; exact refPutText_ok t h w
  · rw [if_neg h, if_neg h]; exact (refPutText_long t (by omega) w).mono fun e w' ⟨h1, h2⟩ => ⟨h1, by rw [h2]; exact Below.refl _ w⟩
theorem fewS_len (l : LS) : (fewS l).length ≤ 110 := by unfold fewS; rw [List.length_map, List.length_take]; omega
theorem fewS_size (l : LS) : ∀ s ∈ fewS l, s.size ≤ 410 := by
  unfold fewS
  intro s hs
  obtain ⟨x, -, rfl⟩ := List.mem_map.1 hs
  exact cut41_size x
theorem own_at {w : World} {base : Nat} {v : Value} {l : LS} (h : OwnS w base v l) : ∃ A c, v = .slice A l.length c ∧ AtS w w.heap.size A l := by
  obtain ⟨A, c, h1, -, h2⟩ := h.at_
  exact ⟨A, c, h1, h2⟩
theorem texts_same (A A' : Option Addr) (c c' : Nat) (l : LS) (n : Nat) (hn : l.length = n) (hm : n ≤ 9223372036854775807) (w : World) (hA : AtS w w.heap.size A l) (hA' : AtS w w.heap.size A' l) :
    Calls Tryd.prog 23 #[.slice A n c, .slice A' n c'] w fun e w' => e = .returned (.bool true) ∧ Below w.heap.size w w' := by
  have h := Texts_any A A' c c' l l n n hn hn hm w hA hA'
  rw [decide_eq_true rfl] at h
  exact h
theorem lnV_len : ∀ k s, (lnV k s).length = k
  | 0, _ => rfl
  | k + 1, s => by rw [lnV, List.length_cons, lnV_len]
theorem glV_len (s : ByteArray) : (glV s).length ≤ 100 := by
  unfold glV
  by_cases h : glE s = 0
  · rw [if_pos h, lnV_len]
    unfold glE at h
    by_cases h1 : numE s = 20
    · rw [if_pos h1] at h; omega
    rw [if_neg h1] at h
    by_cases h2 : numE s = 21
    · rw [if_pos h2] at h; omega
    rw [if_neg h2] at h
    by_cases h3 : 100 < (numV s).toNat
    · rw [if_pos h3] at h; omega
    omega
  · rw [if_neg h]
    simp
set_option maxRecDepth 100000 in
set_option maxHeartbeats 4000000 in
theorem walk_FieldTexts (a0 b0 : Addr) (w : World) (hS : Sent a0 b0 w.heap.size w) (A : Option Addr) (c : Nat) (l : LS) (hm : l.length ≤ 9223372036854775807) (hl : ∀ s ∈ l, s.size ≤ 9223372036854775807) (hA : AtS w w.heap.size A l) (s : ByteArray) (hs : s.size ≤ 9223372036854775807) :
    Calls Tryd.prog 9 #[.slice A l.length c, .string s] w fun e w' => e = .returned (.bool true) ∧ Below w.heap.size w w' := by
  have c1 := cutS_size s
  have HCs := Lib.hid (fun W => cut_any s hs W)
  have HFew := Lib.hid (fun W hA => Few_any A c l l.length rfl hl hm W hA)
  have hfl := fewS_len l
  have hfs := fewS_size l
  have HGT := Lib.hid (fun W hS => GetText_any a0 b0 (cutS s) (by omega) w.heap.size W hS)
  have HRT := Lib.hid (fun W => refGetText_any (cutS s) (by omega) W)
  have HGL := Lib.hid (fun W hS => GetList_any a0 b0 (cutS s) (by omega) w.heap.size W hS)
  have HRL := Lib.hid (fun W => refGetList_any (cutS s) (by omega) W)
  have hgl := glV_len (cutS s)
  unfold ListRes at HGL HRL
  have HS := Lib.hid hS
  have HA := Lib.hid hA
  clear hS hA hs c1
  generalize fewS l = L at *
  generalize cutS s = C at *
  generalize gtV C = tv at *
  generalize gtR C = tr at *
  generalize txtE C = te at *
  generalize glV C = lv at *
  generalize glR C = lr at *
  generalize glE C = le at *
  obtain ⟨n, hn⟩ : ∃ n, L.length = n := ⟨_, rfl⟩
  obtain ⟨m, hmm⟩ : ∃ m, lv.length = m := ⟨_, rfl⟩
  rw [hn] at hfl
  rw [hmm] at hgl
  obtain ⟨N, hN⟩ : ∃ N, l.length = N := ⟨_, rfl⟩
  rw [hN] at HFew ⊢
  have HN := Lib.hid hn
  have HM := Lib.hid hmm
  have HFs := Lib.hid hfs
  clear hn hmm hfs hN hl hm
  go_enter Tryd.func9, Tryd.ntmps9
  go_wp2_with fail
  with_reducible refine (shown_any a0 b0 w.heap.size _ HS.out).mono ?_
  rintro e w1 ⟨rfl, hB1⟩
  have HB1 := Lib.hid hB1
  replace HA := Lib.hid (HA.out.later hB1)
  clear hB1
  go_wp2_with fail
  with_reducible refine (HFew.out _ HA.out).mono ?_
  rintro e w2 ⟨hB2, v, rfl, hown⟩
  have HB2 := Lib.hid (HB1.out.trans (hB2.mono HB1.out.size))
  clear hB2
  obtain ⟨A1, k1, rfl, hA1⟩ := own_at hown
  rw [HN.out]
  have HA1 := Lib.hid hA1
  clear hown hA1
  by_cases h0 : n = 0
  · subst h0
    go_wp2_with fail
    with_reducible refine (PutText_any ⟨#[]⟩ _).mono ?_
    rintro e w3 ⟨rfl, hB3⟩
    have HB3 := Lib.hid (HB2.out.trans (hB3.mono HB2.out.size))
    replace HA1 := Lib.hid (HA1.out.later hB3)
    clear hB3
    go_wp2_with fail
    with_reducible refine (refPutText_any ⟨#[]⟩ _).mono ?_
    rintro e w4 ⟨rfl, hB4⟩
    have HB4 := Lib.hid (HB3.out.trans (hB4.mono HB3.out.size))
    replace HA1 := Lib.hid (HA1.out.later hB4)
    clear hB4
    go_wp2_with fail
    with_reducible refine (PutList_any A1 k1 L 0 HN.out (fun s h => Nat.le_trans (HFs.out s h) (by decide)) (by omega) _ HA1.out).mono ?_
    rintro e w5 ⟨rfl, hB5⟩
    have HB5 := Lib.hid (HB4.out.trans (hB5.mono HB4.out.size))
    replace HA1 := Lib.hid (HA1.out.later hB5)
    clear hB5
    go_wp2_with fail
    with_reducible refine (refPutList_any A1 k1 L 0 HN.out (fun s h => Nat.le_trans (HFs.out s h) (by decide)) _ HA1.out).mono ?_
    rintro e w6 ⟨rfl, hB6⟩
    have HB6 := Lib.hid (HB5.out.trans (hB6.mono HB5.out.size))
    replace HA1 := Lib.hid (HA1.out.later hB6)
    clear hB6
    go_wp2_with fail
    with_reducible refine (HCs.out _).mono ?_
    rintro e w7 ⟨rfl, rfl⟩
    go_wp2_with fail
    with_reducible refine (HGT.out _ (HS.out.later HB6.out)).mono ?_
    rintro e w8 ⟨rfl, hB8⟩
    have HB8 := Lib.hid (HB6.out.trans (hB8.mono HB6.out.size))
    clear hB8
    go_wp2_with fail
    with_reducible refine (HCs.out _).mono ?_
    rintro e w9 ⟨rfl, rfl⟩
    go_wp2_with fail
    with_reducible refine (HRT.out _).mono ?_
    rintro e w10 ⟨rfl, hB10⟩
    have HB10 := Lib.hid (HB8.out.trans (hB10.mono HB8.out.size))
    clear hB10
    go_wp2_with fail
    with_reducible refine (HCs.out _).mono ?_
    rintro e w11 ⟨rfl, rfl⟩
    go_wp2_with fail
    with_reducible refine (HGL.out _ (HS.out.later HB10.out)).mono ?_
    rintro e w12 ⟨hB12, v1, rfl, hown1⟩
    have HB12 := Lib.hid (HB10.out.trans (hB12.mono HB10.out.size))
    clear hB12
    obtain ⟨A2, k2, rfl, hA2⟩ := own_at hown1
    rw [HM.out]
    have HA2 := Lib.hid hA2
    clear hown1 hA2
    go_wp2_with fail
    with_reducible refine (HCs.out _).mono ?_
    rintro e w13 ⟨rfl, rfl⟩
    go_wp2_with fail
    with_reducible refine (HRL.out _).mono ?_
    rintro e w14 ⟨hB14, v2, rfl, hown2⟩
    have HB14 := Lib.hid (HB12.out.trans (hB14.mono HB12.out.size))
    replace HA2 := Lib.hid (HA2.out.later hB14)
    clear hB14
    obtain ⟨A3, k3, rfl, hA3⟩ := own_at hown2
    rw [HM.out]
    have HA3 := Lib.hid hA3
    clear hown2 hA3
    go_wp2_with fail
    with_reducible refine (texts_same A2 A3 k2 k3 lv m HM.out (by omega) _ HA2.out HA3.out).mono ?_
    rintro e w15 ⟨rfl, hB15⟩
    have HB15 := Lib.hid (HB14.out.trans (hB15.mono HB14.out.size))
    clear hB15
    go_wp2_with fail
    go_ret
    exact ⟨rfl, HB15.out⟩
  · have h1 : (0 : Int) < (n : Int) := by omega
    obtain ⟨b1, o1, rfl, hb1, hc1⟩ := HA1.out (by rw [HN.out]; omega)
    have y0 := hc1 0 (by rw [HN.out]; omega)
    clear hc1
    rw [Nat.add_zero] at y0
    have hts := nthS_size HFs.out (j := 0) (by rw [HN.out]; omega)
    generalize nthS L 0 = T at *
    clear h0
    go_wp2_with fail
    with_reducible refine (PutText_any T _).mono ?_
    rintro e w3 ⟨rfl, hB3⟩
    have HB3 := Lib.hid (HB2.out.trans (hB3.mono HB2.out.size))
    replace HA1 := Lib.hid (HA1.out.later hB3)
    clear hB3
    go_wp2_with fail
    with_reducible refine (refPutText_any T _).mono ?_
    rintro e w4 ⟨rfl, hB4⟩
    have HB4 := Lib.hid (HB3.out.trans (hB4.mono HB3.out.size))
    replace HA1 := Lib.hid (HA1.out.later hB4)
    clear hB4
    go_wp2_with fail
    with_reducible refine (PutList_any (some ⟨b1, o1, none⟩) k1 L n HN.out (fun s h => Nat.le_trans (HFs.out s h) (by decide)) (by omega) _ HA1.out).mono ?_
    rintro e w5 ⟨rfl, hB5⟩
    have HB5 := Lib.hid (HB4.out.trans (hB5.mono HB4.out.size))
    replace HA1 := Lib.hid (HA1.out.later hB5)
    clear hB5
    go_wp2_with fail
    with_reducible refine (refPutList_any (some ⟨b1, o1, none⟩) k1 L n HN.out (fun s h => Nat.le_trans (HFs.out s h) (by decide)) _ HA1.out).mono ?_
    rintro e w6 ⟨rfl, hB6⟩
    have HB6 := Lib.hid (HB5.out.trans (hB6.mono HB5.out.size))
    replace HA1 := Lib.hid (HA1.out.later hB6)
    clear hB6
    go_wp2_with fail
    with_reducible refine (HCs.out _).mono ?_
    rintro e w7 ⟨rfl, rfl⟩
    go_wp2_with fail
    with_reducible refine (HGT.out _ (HS.out.later HB6.out)).mono ?_
    rintro e w8 ⟨rfl, hB8⟩
    have HB8 := Lib.hid (HB6.out.trans (hB8.mono HB6.out.size))
    clear hB8
    go_wp2_with fail
    with_reducible refine (HCs.out _).mono ?_
    rintro e w9 ⟨rfl, rfl⟩
    go_wp2_with fail
    with_reducible refine (HRT.out _).mono ?_
    rintro e w10 ⟨rfl, hB10⟩
    have HB10 := Lib.hid (HB8.out.trans (hB10.mono HB8.out.size))
    clear hB10
    go_wp2_with fail
    with_reducible refine (HCs.out _).mono ?_
    rintro e w11 ⟨rfl, rfl⟩
    go_wp2_with fail
    with_reducible refine (HGL.out _ (HS.out.later HB10.out)).mono ?_
    rintro e w12 ⟨hB12, v1, rfl, hown1⟩
    have HB12 := Lib.hid (HB10.out.trans (hB12.mono HB10.out.size))
    clear hB12
    obtain ⟨A2, k2, rfl, hA2⟩ := own_at hown1
    rw [HM.out]
    have HA2 := Lib.hid hA2
    clear hown1 hA2
    go_wp2_with fail
    with_reducible refine (HCs.out _).mono ?_
    rintro e w13 ⟨rfl, rfl⟩
    go_wp2_with fail
    with_reducible refine (HRL.out _).mono ?_
    rintro e w14 ⟨hB14, v2, rfl, hown2⟩
    have HB14 := Lib.hid (HB12.out.trans (hB14.mono HB12.out.size))
    replace HA2 := Lib.hid (HA2.out.later hB14)
    clear hB14
    obtain ⟨A3, k3, rfl, hA3⟩ := own_at hown2
    rw [HM.out]
    have HA3 := Lib.hid hA3
    clear hown2 hA3
    go_wp2_with fail
    with_reducible refine (texts_same A2 A3 k2 k3 lv m HM.out (by omega) _ HA2.out HA3.out).mono ?_
    rintro e w15 ⟨rfl, hB15⟩
    have HB15 := Lib.hid (HB14.out.trans (hB15.mono HB14.out.size))
    clear hB15
    go_wp2_with fail
    go_ret
    exact ⟨rfl, HB15.out⟩
end Go.Proofs.YtbibnfchmffhaaaDoor
