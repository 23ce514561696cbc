/-
  The walk of FieldBack. Printed by gen_f02.py.
-/
import Derived.Test.YtbibnfchmffhaaaDoorFldM
import Derived.Test.YtbibnfchmffhaaaDoorFldT
namespace Go.Proofs.YtbibnfchmffhaaaDoor
open Go.RowKit Go.Lib

/-- The first four hundred bytes. -/
def cut4 (s : ByteArray) : ByteArray := s.extract 0 (min s.size 400)
theorem cut4_size (s : ByteArray) : (cut4 s).size ≤ 400 := by unfold cut4; rw [ByteArray.size_extract]; omega
set_option maxRecDepth 100000 in
set_option maxHeartbeats 4000000 in
theorem walk_FieldBack (a0 b0 : Addr) (n : BitVec 64) (t : ByteArray) (ht : t.size ≤ 9223372036854775807) (s : ByteArray) (hs : s.size ≤ 9223372036854775807) (w : World) (hS : Sent a0 b0 w.heap.size w) :
    Calls Tryd.prog 6 #[.int .u64 (U n), .string t, .string s] w fun e w' => e = .returned (.bool true) ∧ Below w.heap.size w w' := by
  have c1 := cutS_size s
  have hcut : t.extract 0 (min t.size 400) = cut4 t := rfl
  have c4 := cut4_size t
  have HCs := Lib.hid (fun W => cut_any s hs W)
  have hp := bytesF_size n
  have hq := textF_size (cut4 t)
  have h1 := get_put n (cutS s)
  have h2 := gt_put (cut4 t) (cutS s) c4
  have h3 := put_get (cutS s)
  have HP := Lib.hid (fun W => Put_at n _ rfl W)
  have HPg := Lib.hid (fun W => Put_at (getN (cutS s)) _ rfl W)
  have HG := Lib.hid (fun W hS => by
    have h := Get_any a0 b0 (bytesF n ++ cutS s) (by rw [ByteArray.size_append]; omega) w.heap.size W hS
    rw [h1.1, h1.2.1, h1.2.2] at h
    exact h)
  have HT := Lib.hid (fun W => PutText_ok (cut4 t) c4 W)
  have HGT := Lib.hid (fun W hS => by
    have h := GetText_any a0 b0 (textF (cut4 t) ++ cutS s) (by rw [ByteArray.size_append]; omega) w.heap.size W hS
    rw [h2.1, h2.2.1, h2.2.2] at h
    exact h)
  have HGs := Lib.hid (fun W hS => Get_any a0 b0 (cutS s) (by omega) w.heap.size W hS)
  have hgr := getR_size (cutS s)
  have hpz := bytesF_size (getN (cutS s))
  have HS := Lib.hid hS
  have hce := numE_cases (cutS s)
  have hcutA : 400 < t.size → t.extract 0 400 = cut4 t := fun h => by unfold cut4; rw [Nat.min_eq_right (by omega)]
  have hcutB : ¬ 400 < t.size → t = cut4 t := fun h => by unfold cut4; rw [Nat.min_eq_left (by omega), ByteArray.extract_zero_size]
  clear hS hs h1 h2 hcut
  generalize cut4 t = T at *
  generalize cutS s = C at *
  generalize bytesF n = X at *
  generalize textF T = Y at *
  generalize getN C = gn at *
  generalize bytesF gn = G at *
  generalize getR C = gr at *
  generalize numE C = ge at *
  have z1 : X.size + C.size ≤ 9223372036854775807 := by omega
  have z2 : Y.size + C.size ≤ 9223372036854775807 := by omega
  have z3 : G.size + gr.size ≤ 9223372036854775807 := by omega
  have p1 : (1 : Int) ≤ ((X.size : Nat) : Int) := by omega
  have p2 : ((X.size : Nat) : Int) ≤ 9 := by omega
  clear c1 c4 hp hq hgr hpz
  by_cases hlt : 400 < t.size
  · have HCA := Lib.hid (hcutA hlt)
    have k1 : (400 : Int) < ((t.size : Nat) : Int) := by omega
    clear hcutA hcutB hlt
    rcases hce with rfl | rfl | rfl
    · clear h3
      go_enter Tryd.func6, Tryd.ntmps6
      go_wp2_with fail
      with_reducible refine (shown_any a0 b0 w.heap.size _ HS.out).mono ?_
      rintro e w1 ⟨rfl, hB1⟩
      have HB1 := Lib.hid hB1
      clear hB1
      go_wp2_with fail
      rw [HCA.out]
      with_reducible refine (HP.out _).mono ?_
      rintro e w2 ⟨rfl, hB2⟩
      have HB2 := Lib.hid (HB1.out.trans (hB2.mono HB1.out.size))
      clear hB2
      go_wp2_with fail
      with_reducible refine (HCs.out _).mono ?_
      rintro e w3 ⟨rfl, rfl⟩
      go_wp2_with fail
      with_reducible refine (HG.out _ (HS.out.later HB2.out)).mono ?_
      rintro e w4 ⟨rfl, hB4⟩
      have HB4 := Lib.hid (HB2.out.trans (hB4.mono HB2.out.size))
      clear hB4
      go_wp2_with fail
      with_reducible refine (HT.out _).mono ?_
      rintro e w5 ⟨rfl, hB5⟩
      have HB5 := Lib.hid (HB4.out.trans (hB5.mono HB4.out.size))
      clear hB5
      go_wp2_with fail
      with_reducible refine (HCs.out _).mono ?_
      rintro e w6 ⟨rfl, rfl⟩
      go_wp2_with fail
      with_reducible refine (HGT.out _ (HS.out.later HB5.out)).mono ?_
      rintro e w7 ⟨rfl, hB7⟩
      have HB7 := Lib.hid (HB5.out.trans (hB7.mono HB5.out.size))
      clear hB7
      go_wp2_with fail
      with_reducible refine (HCs.out _).mono ?_
      rintro e w8 ⟨rfl, rfl⟩
      go_wp2_with fail
      with_reducible refine (HGs.out _ (HS.out.later HB7.out)).mono ?_
      rintro e w9 ⟨rfl, hB9⟩
      have HB9 := Lib.hid (HB7.out.trans (hB9.mono HB7.out.size))
      clear hB9
      go_wp2_with fail
      with_reducible refine (HCs.out _).mono ?_
      rintro e w10 ⟨rfl, rfl⟩
      go_wp2_with fail
      with_reducible refine (HCs.out _).mono ?_
      rintro e w11 ⟨rfl, rfl⟩
      go_wp2_with fail
      with_reducible refine (HP.out _).mono ?_
      rintro e w12 ⟨rfl, hB12⟩
      have HB12 := Lib.hid (HB9.out.trans (hB12.mono HB9.out.size))
      clear hB12
      go_wp2_with fail
      with_reducible refine (HP.out _).mono ?_
      rintro e w13 ⟨rfl, hB13⟩
      have HB13 := Lib.hid (HB12.out.trans (hB13.mono HB12.out.size))
      clear hB13
      go_wp2_with fail
      go_ret
      exact ⟨rfl, HB13.out⟩
    · clear h3
      go_enter Tryd.func6, Tryd.ntmps6
      go_wp2_with fail
      with_reducible refine (shown_any a0 b0 w.heap.size _ HS.out).mono ?_
      rintro e w1 ⟨rfl, hB1⟩
      have HB1 := Lib.hid hB1
      clear hB1
      go_wp2_with fail
      rw [HCA.out]
      with_reducible refine (HP.out _).mono ?_
      rintro e w2 ⟨rfl, hB2⟩
      have HB2 := Lib.hid (HB1.out.trans (hB2.mono HB1.out.size))
      clear hB2
      go_wp2_with fail
      with_reducible refine (HCs.out _).mono ?_
      rintro e w3 ⟨rfl, rfl⟩
      go_wp2_with fail
      with_reducible refine (HG.out _ (HS.out.later HB2.out)).mono ?_
      rintro e w4 ⟨rfl, hB4⟩
      have HB4 := Lib.hid (HB2.out.trans (hB4.mono HB2.out.size))
      clear hB4
      go_wp2_with fail
      with_reducible refine (HT.out _).mono ?_
      rintro e w5 ⟨rfl, hB5⟩
      have HB5 := Lib.hid (HB4.out.trans (hB5.mono HB4.out.size))
      clear hB5
      go_wp2_with fail
      with_reducible refine (HCs.out _).mono ?_
      rintro e w6 ⟨rfl, rfl⟩
      go_wp2_with fail
      with_reducible refine (HGT.out _ (HS.out.later HB5.out)).mono ?_
      rintro e w7 ⟨rfl, hB7⟩
      have HB7 := Lib.hid (HB5.out.trans (hB7.mono HB5.out.size))
      clear hB7
      go_wp2_with fail
      with_reducible refine (HCs.out _).mono ?_
      rintro e w8 ⟨rfl, rfl⟩
      go_wp2_with fail
      with_reducible refine (HGs.out _ (HS.out.later HB7.out)).mono ?_
      rintro e w9 ⟨rfl, hB9⟩
      have HB9 := Lib.hid (HB7.out.trans (hB9.mono HB7.out.size))
      clear hB9
      go_wp2_with fail
      with_reducible refine (HCs.out _).mono ?_
      rintro e w10 ⟨rfl, rfl⟩
      go_wp2_with fail
      with_reducible refine (HCs.out _).mono ?_
      rintro e w11 ⟨rfl, rfl⟩
      go_wp2_with fail
      with_reducible refine (HP.out _).mono ?_
      rintro e w12 ⟨rfl, hB12⟩
      have HB12 := Lib.hid (HB9.out.trans (hB12.mono HB9.out.size))
      clear hB12
      go_wp2_with fail
      with_reducible refine (HP.out _).mono ?_
      rintro e w13 ⟨rfl, hB13⟩
      have HB13 := Lib.hid (HB12.out.trans (hB13.mono HB12.out.size))
      clear hB13
      go_wp2_with fail
      go_ret
      exact ⟨rfl, HB13.out⟩
    · have h4 := h3 rfl
      have hb : ((G ++ gr).toList == C.toList) = true := by rw [h4]; simp
      clear h3 h4
      go_enter Tryd.func6, Tryd.ntmps6
      go_wp2_with fail
      with_reducible refine (shown_any a0 b0 w.heap.size _ HS.out).mono ?_
      rintro e w1 ⟨rfl, hB1⟩
      have HB1 := Lib.hid hB1
      clear hB1
      go_wp2_with fail
      rw [HCA.out]
      with_reducible refine (HP.out _).mono ?_
      rintro e w2 ⟨rfl, hB2⟩
      have HB2 := Lib.hid (HB1.out.trans (hB2.mono HB1.out.size))
      clear hB2
      go_wp2_with fail
      with_reducible refine (HCs.out _).mono ?_
      rintro e w3 ⟨rfl, rfl⟩
      go_wp2_with fail
      with_reducible refine (HG.out _ (HS.out.later HB2.out)).mono ?_
      rintro e w4 ⟨rfl, hB4⟩
      have HB4 := Lib.hid (HB2.out.trans (hB4.mono HB2.out.size))
      clear hB4
      go_wp2_with fail
      with_reducible refine (HT.out _).mono ?_
      rintro e w5 ⟨rfl, hB5⟩
      have HB5 := Lib.hid (HB4.out.trans (hB5.mono HB4.out.size))
      clear hB5
      go_wp2_with fail
      with_reducible refine (HCs.out _).mono ?_
      rintro e w6 ⟨rfl, rfl⟩
      go_wp2_with fail
      with_reducible refine (HGT.out _ (HS.out.later HB5.out)).mono ?_
      rintro e w7 ⟨rfl, hB7⟩
      have HB7 := Lib.hid (HB5.out.trans (hB7.mono HB5.out.size))
      clear hB7
      go_wp2_with fail
      with_reducible refine (HCs.out _).mono ?_
      rintro e w8 ⟨rfl, rfl⟩
      go_wp2_with fail
      with_reducible refine (HGs.out _ (HS.out.later HB7.out)).mono ?_
      rintro e w9 ⟨rfl, hB9⟩
      have HB9 := Lib.hid (HB7.out.trans (hB9.mono HB7.out.size))
      clear hB9
      go_wp2_with fail
      with_reducible refine (HPg.out _).mono ?_
      rintro e w10 ⟨rfl, hB10⟩
      have HB10 := Lib.hid (HB9.out.trans (hB10.mono HB9.out.size))
      clear hB10
      go_wp2_with fail
      with_reducible refine (HCs.out _).mono ?_
      rintro e w11 ⟨rfl, rfl⟩
      go_wp2_with fail
      with_reducible refine (HCs.out _).mono ?_
      rintro e w12 ⟨rfl, rfl⟩
      go_wp2_with fail
      with_reducible refine (HCs.out _).mono ?_
      rintro e w13 ⟨rfl, rfl⟩
      go_wp2_with fail
      with_reducible refine (HP.out _).mono ?_
      rintro e w14 ⟨rfl, hB14⟩
      have HB14 := Lib.hid (HB10.out.trans (hB14.mono HB10.out.size))
      clear hB14
      go_wp2_with fail
      with_reducible refine (HP.out _).mono ?_
      rintro e w15 ⟨rfl, hB15⟩
      have HB15 := Lib.hid (HB14.out.trans (hB15.mono HB14.out.size))
      clear hB15
      go_wp2_with fail
      go_ret
      exact ⟨rfl, HB15.out⟩
  · have HCA := hcutB hlt
    subst HCA
    have k1 : ¬ (400 : Int) < ((t.size : Nat) : Int) := by omega
    clear hcutA hcutB hlt
    rcases hce with rfl | rfl | rfl
    · clear h3
      go_enter Tryd.func6, Tryd.ntmps6
      go_wp2_with fail
      with_reducible refine (shown_any a0 b0 w.heap.size _ HS.out).mono ?_
      rintro e w1 ⟨rfl, hB1⟩
      have HB1 := Lib.hid hB1
      clear hB1
      go_wp2_with fail
      skip
      with_reducible refine (HP.out _).mono ?_
      rintro e w2 ⟨rfl, hB2⟩
      have HB2 := Lib.hid (HB1.out.trans (hB2.mono HB1.out.size))
      clear hB2
      go_wp2_with fail
      with_reducible refine (HCs.out _).mono ?_
      rintro e w3 ⟨rfl, rfl⟩
      go_wp2_with fail
      with_reducible refine (HG.out _ (HS.out.later HB2.out)).mono ?_
      rintro e w4 ⟨rfl, hB4⟩
      have HB4 := Lib.hid (HB2.out.trans (hB4.mono HB2.out.size))
      clear hB4
      go_wp2_with fail
      with_reducible refine (HT.out _).mono ?_
      rintro e w5 ⟨rfl, hB5⟩
      have HB5 := Lib.hid (HB4.out.trans (hB5.mono HB4.out.size))
      clear hB5
      go_wp2_with fail
      with_reducible refine (HCs.out _).mono ?_
      rintro e w6 ⟨rfl, rfl⟩
      go_wp2_with fail
      with_reducible refine (HGT.out _ (HS.out.later HB5.out)).mono ?_
      rintro e w7 ⟨rfl, hB7⟩
      have HB7 := Lib.hid (HB5.out.trans (hB7.mono HB5.out.size))
      clear hB7
      go_wp2_with fail
      with_reducible refine (HCs.out _).mono ?_
      rintro e w8 ⟨rfl, rfl⟩
      go_wp2_with fail
      with_reducible refine (HGs.out _ (HS.out.later HB7.out)).mono ?_
      rintro e w9 ⟨rfl, hB9⟩
      have HB9 := Lib.hid (HB7.out.trans (hB9.mono HB7.out.size))
      clear hB9
      go_wp2_with fail
      with_reducible refine (HCs.out _).mono ?_
      rintro e w10 ⟨rfl, rfl⟩
      go_wp2_with fail
      with_reducible refine (HCs.out _).mono ?_
      rintro e w11 ⟨rfl, rfl⟩
      go_wp2_with fail
      with_reducible refine (HP.out _).mono ?_
      rintro e w12 ⟨rfl, hB12⟩
      have HB12 := Lib.hid (HB9.out.trans (hB12.mono HB9.out.size))
      clear hB12
      go_wp2_with fail
      with_reducible refine (HP.out _).mono ?_
      rintro e w13 ⟨rfl, hB13⟩
      have HB13 := Lib.hid (HB12.out.trans (hB13.mono HB12.out.size))
      clear hB13
      go_wp2_with fail
      go_ret
      exact ⟨rfl, HB13.out⟩
    · clear h3
      go_enter Tryd.func6, Tryd.ntmps6
      go_wp2_with fail
      with_reducible refine (shown_any a0 b0 w.heap.size _ HS.out).mono ?_
      rintro e w1 ⟨rfl, hB1⟩
      have HB1 := Lib.hid hB1
      clear hB1
      go_wp2_with fail
      skip
      with_reducible refine (HP.out _).mono ?_
      rintro e w2 ⟨rfl, hB2⟩
      have HB2 := Lib.hid (HB1.out.trans (hB2.mono HB1.out.size))
      clear hB2
      go_wp2_with fail
      with_reducible refine (HCs.out _).mono ?_
      rintro e w3 ⟨rfl, rfl⟩
      go_wp2_with fail
      with_reducible refine (HG.out _ (HS.out.later HB2.out)).mono ?_
      rintro e w4 ⟨rfl, hB4⟩
      have HB4 := Lib.hid (HB2.out.trans (hB4.mono HB2.out.size))
      clear hB4
      go_wp2_with fail
      with_reducible refine (HT.out _).mono ?_
      rintro e w5 ⟨rfl, hB5⟩
      have HB5 := Lib.hid (HB4.out.trans (hB5.mono HB4.out.size))
      clear hB5
      go_wp2_with fail
      with_reducible refine (HCs.out _).mono ?_
      rintro e w6 ⟨rfl, rfl⟩
      go_wp2_with fail
      with_reducible refine (HGT.out _ (HS.out.later HB5.out)).mono ?_
      rintro e w7 ⟨rfl, hB7⟩
      have HB7 := Lib.hid (HB5.out.trans (hB7.mono HB5.out.size))
      clear hB7
      go_wp2_with fail
      with_reducible refine (HCs.out _).mono ?_
      rintro e w8 ⟨rfl, rfl⟩
      go_wp2_with fail
      with_reducible refine (HGs.out _ (HS.out.later HB7.out)).mono ?_
      rintro e w9 ⟨rfl, hB9⟩
      have HB9 := Lib.hid (HB7.out.trans (hB9.mono HB7.out.size))
      clear hB9
      go_wp2_with fail
      with_reducible refine (HCs.out _).mono ?_
      rintro e w10 ⟨rfl, rfl⟩
      go_wp2_with fail
      with_reducible refine (HCs.out _).mono ?_
      rintro e w11 ⟨rfl, rfl⟩
      go_wp2_with fail
      with_reducible refine (HP.out _).mono ?_
      rintro e w12 ⟨rfl, hB12⟩
      have HB12 := Lib.hid (HB9.out.trans (hB12.mono HB9.out.size))
      clear hB12
      go_wp2_with fail
      with_reducible refine (HP.out _).mono ?_
      rintro e w13 ⟨rfl, hB13⟩
      have HB13 := Lib.hid (HB12.out.trans (hB13.mono HB12.out.size))
      clear hB13
      go_wp2_with fail
      go_ret
      exact ⟨rfl, HB13.out⟩
    · have h4 := h3 rfl
      have hb : ((G ++ gr).toList == C.toList) = true := by rw [h4]; simp
      clear h3 h4
      go_enter Tryd.func6, Tryd.ntmps6
      go_wp2_with fail
      with_reducible refine (shown_any a0 b0 w.heap.size _ HS.out).mono ?_
      rintro e w1 ⟨rfl, hB1⟩
      have HB1 := Lib.hid hB1
      clear hB1
      go_wp2_with fail
      skip
      with_reducible refine (HP.out _).mono ?_
      rintro e w2 ⟨rfl, hB2⟩
      have HB2 := Lib.hid (HB1.out.trans (hB2.mono HB1.out.size))
      clear hB2
      go_wp2_with fail
      with_reducible refine (HCs.out _).mono ?_
      rintro e w3 ⟨rfl, rfl⟩
      go_wp2_with fail
      with_reducible refine (HG.out _ (HS.out.later HB2.out)).mono ?_
      rintro e w4 ⟨rfl, hB4⟩
      have HB4 := Lib.hid (HB2.out.trans (hB4.mono HB2.out.size))
      clear hB4
      go_wp2_with fail
      with_reducible refine (HT.out _).mono ?_
      rintro e w5 ⟨rfl, hB5⟩
      have HB5 := Lib.hid (HB4.out.trans (hB5.mono HB4.out.size))
      clear hB5
      go_wp2_with fail
      with_reducible refine (HCs.out _).mono ?_
      rintro e w6 ⟨rfl, rfl⟩
      go_wp2_with fail
      with_reducible refine (HGT.out _ (HS.out.later HB5.out)).mono ?_
      rintro e w7 ⟨rfl, hB7⟩
      have HB7 := Lib.hid (HB5.out.trans (hB7.mono HB5.out.size))
      clear hB7
      go_wp2_with fail
      with_reducible refine (HCs.out _).mono ?_
      rintro e w8 ⟨rfl, rfl⟩
      go_wp2_with fail
      with_reducible refine (HGs.out _ (HS.out.later HB7.out)).mono ?_
      rintro e w9 ⟨rfl, hB9⟩
      have HB9 := Lib.hid (HB7.out.trans (hB9.mono HB7.out.size))
      clear hB9
      go_wp2_with fail
      with_reducible refine (HPg.out _).mono ?_
      rintro e w10 ⟨rfl, hB10⟩
      have HB10 := Lib.hid (HB9.out.trans (hB10.mono HB9.out.size))
      clear hB10
      go_wp2_with fail
      with_reducible refine (HCs.out _).mono ?_
      rintro e w11 ⟨rfl, rfl⟩
      go_wp2_with fail
      with_reducible refine (HCs.out _).mono ?_
      rintro e w12 ⟨rfl, rfl⟩
      go_wp2_with fail
      with_reducible refine (HCs.out _).mono ?_
      rintro e w13 ⟨rfl, rfl⟩
      go_wp2_with fail
      with_reducible refine (HP.out _).mono ?_
      rintro e w14 ⟨rfl, hB14⟩
      have HB14 := Lib.hid (HB10.out.trans (hB14.mono HB10.out.size))
      clear hB14
      go_wp2_with fail
      with_reducible refine (HP.out _).mono ?_
      rintro e w15 ⟨rfl, hB15⟩
      have HB15 := Lib.hid (HB14.out.trans (hB15.mono HB14.out.size))
      clear hB15
      go_wp2_with fail
      go_ret
      exact ⟨rfl, HB15.out⟩
end Go.Proofs.YtbibnfchmffhaaaDoor
