/-
  A list of bytes: GetList of package field. Printed by gen_gl.py.
-/
import Derived.Test.YtbibnfchmffhaaaDoorFldV
import Derived.ScopeJumps
namespace Go.Proofs.YtbibnfchmffhaaaDoor
open Go.RowKit

/-- So many texts, one behind the other: what is told, the texts, what is left. -/
def lnE : Nat → ByteArray → Int
  | 0, _ => 0
  | k + 1, s => if txtE s = 0 then lnE k (txtR s) else txtE s
def lnV : Nat → ByteArray → LS
  | 0, _ => []
  | k + 1, s => txtV s :: lnV k (txtR s)
def lnR : Nat → ByteArray → ByteArray
  | 0, s => s
  | k + 1, s => lnR k (txtR s)
/-- What GetList tells. -/
def glE (s : ByteArray) : Int := if numE s = 20 then 20 else if numE s = 21 then 21 else if 100 < (numV s).toNat then 21 else lnE (numV s).toNat (getR s)
def glV (s : ByteArray) : LS := if glE s = 0 then lnV (numV s).toNat (getR s) else []
def glR (s : ByteArray) : ByteArray := if glE s = 0 then lnR (numV s).toNat (getR s) else s
theorem lnE_cases : ∀ k s, lnE k s = 20 ∨ lnE k s = 21 ∨ lnE k s = 0
  | 0, _ => .inr (.inr rfl)
  | k + 1, s => by
    rw [lnE]
    split
    · exact lnE_cases k _
    · have := txtE_cases s
      omega
theorem glE_cases (s : ByteArray) : glE s = 20 ∨ glE s = 21 ∨ glE s = 0 := by
  unfold glE
  have := lnE_cases (numV s).toNat (getR s)
  (repeat' split) <;> omega

/-- What GetList leaves: a list of the call's own. -/
def ListRes (s : ByteArray) (w : World) (e : Ending) (w' : World) : Prop := Below w.heap.size w w' ∧ ∃ v : Value, e = .returned (.tuple #[v, .string (glR s), .int .i64 (glE s)]) ∧ OwnS w' w.heap.size v (glV s)
theorem listRes_bad {s : ByteArray} {w w' : World} (x : Int) (hx : x ≠ 0) (he : glE s = x) (hB : Below w.heap.size w w') : ListRes s w (.returned (.tuple #[.slice none 0 0, .string s, .int .i64 x])) w' := by
  have h1 : glR s = s := by unfold glR; rw [if_neg (by omega)]
  have h2 : glV s = [] := by unfold glV; rw [if_neg (by omega)]
  exact ⟨hB, _, by rw [h1, he], by rw [h2]; exact OwnS.nil _ _⟩


set_option maxRecDepth 100000 in
set_option maxHeartbeats 8000000 in
theorem GetList_any (a0 b0 : Addr) (s : ByteArray) (hs : s.size ≤ 9223372036854775807) (B : Nat) (w : World) (hS : Sent a0 b0 B w) :
    Calls Tryd.prog 22 #[.string s] w (ListRes s w) := by
  have hS0 : Sent a0 b0 w.heap.size (w.alloc (.cells #[.string s] 49)) := by
    refine Sent.later ?_ ((Below.refl _ w).alloc (Nat.le_refl _) _)
    exact ⟨hS.more, hS.none_, hS.ne, hS.ca, hS.cb, Nat.lt_of_lt_of_le hS.ba hS.bs, Nat.lt_of_lt_of_le hS.bb hS.bs, Nat.le_trans hS.b0 hS.bs, Nat.le_refl _⟩
  have hb : (w.alloc (.cells #[.string s] 49)).heap[w.heap.size]? = some (.cells #[.string s] 49 (0, 0)) := new_at w _ _ rfl
  have hB0 : Below w.heap.size w (w.alloc (.cells #[.string s] 49)) := (Below.refl _ w).alloc (Nat.le_refl _) _
  have HB0 := Lib.hid hB0
  have HS0 := Lib.hid hS0
  have Hb := Lib.hid hb
  clear hS0 hb hB0 hS
  go_enter Tryd.func22, Tryd.ntmps22
  go_wp2_with fail
  refine wp_scope_jumps 0 (fun a' w' => Below w.heap.size w w' ∧ Hid (Sent a0 b0 w.heap.size w') ∧ ∃ (x : Int) (ev : Value) (u1 u2 u3 u4 u5 u6 u7 u9 u10 u11 u12 u13 u14 u15 u16 u17 u18 u19 u20 u21 u22 u23 u24 u25 u26 u27 u28 u29 u30 u31 u32 u33 u34 u35 u36 u37 u38 u39 u40 u41 u42 u43 u44 u45 u46 u47 : Value), Hid ((x = 20 ∧ ev = .iface 94 (.pointer (some a0))) ∨ (x = 21 ∧ ev = .iface 94 (.pointer (some b0)))) ∧ Hid (glE s = x) ∧ a' = { tmps := #[.string s, u1, u2, u3, u4, u5, u6, u7, ev, u9, u10, u11, u12, u13, u14, u15, u16, u17, u18, u19, u20, u21, u22, u23, u24, u25, u26, u27, u28, u29, u30, u31, u32, u33, u34, u35, u36, u37, u38, u39, u40, u41, u42, u43, u44, u45, u46, u47], defers := [] }) (fun _ _ => 0) rfl ?_ ?_
  · rcases numE_cases s with he | he | he
    · have hg : glE s = 20 := by unfold glE; rw [if_pos he]
      have HG := Lib.hid hg
      have HC := Lib.hid (number_more a0 b0 w.heap.size w.heap.size 49 s hs _ HS0.out (Nat.le_refl _) Hb.out he)
      clear hg he
      go_wp2_with fail
      with_reducible refine HC.out.mono ?_
      rintro e w1 ⟨rfl, hB1⟩
      have HS1 := Lib.hid (HS0.out.later hB1)
      have HB1 := Lib.hid (HB0.out.trans hB1)
      clear hB1
      go_wp2_with fail
      go_step3
      exact ⟨rfl, HB1.out, HS1, 20, _, _, _, _, _, _, _, _, _, _, _, _, _, _, _, _, _, _, _, _, _, _, _, _, _, _, _, _, _, _, _, _, _, _, _, _, _, _, _, _, _, _, _, _, _, _, _, Lib.hid (.inl ⟨rfl, rfl⟩), HG, rfl⟩
    · have hg : glE s = 21 := by unfold glE; rw [if_neg (by omega), if_pos he]
      have HG := Lib.hid hg
      have HC := Lib.hid (number_none a0 b0 w.heap.size w.heap.size 49 s hs _ HS0.out (Nat.le_refl _) Hb.out he)
      clear hg he
      go_wp2_with fail
      with_reducible refine HC.out.mono ?_
      rintro e w1 ⟨rfl, hB1⟩
      have HS1 := Lib.hid (HS0.out.later hB1)
      have HB1 := Lib.hid (HB0.out.trans hB1)
      clear hB1
      go_wp2_with fail
      go_step3
      exact ⟨rfl, HB1.out, HS1, 21, _, _, _, _, _, _, _, _, _, _, _, _, _, _, _, _, _, _, _, _, _, _, _, _, _, _, _, _, _, _, _, _, _, _, _, _, _, _, _, _, _, _, _, _, _, _, _, Lib.hid (.inr ⟨rfl, rfl⟩), HG, rfl⟩
    · have hgl : glE s = if 100 < (numV s).toNat then 21 else lnE (numV s).toNat (getR s) := by unfold glE; rw [if_neg (by omega), if_neg (by omega)]
      have hR : getR s = s.extract (numL s) s.size := by unfold getR; rw [if_pos he]
      have hC := number_ok a0 b0 w.heap.size w.heap.size 49 s hs _ HS0.out (Nat.le_refl _) Hb.out he
      rw [← hR] at hC
      have HC := Lib.hid hC
      have hRs := getR_size s
      have hU : U (numV s) = ((numV s).toNat : Int) := rfl
      have hv1 : glE s = 0 → glV s = lnV (numV s).toNat (getR s) ∧ glR s = lnR (numV s).toNat (getR s) := fun h => by unfold glV glR; rw [if_pos h, if_pos h]; exact ⟨rfl, rfl⟩
      have HV1 := Lib.hid hv1
      have HGl := Lib.hid hgl
      generalize numV s = V at *
      generalize getR s = r0 at *
      obtain ⟨N, hN⟩ : ∃ N, V.toNat = N := ⟨_, rfl⟩
      rw [hN] at hU HV1 HGl
      rw [hU] at HC
      clear hC hR he hgl hU hN hv1
      by_cases h100 : 100 < N
      · have k1 : (100 : Int) < (N : Int) := by omega
        have HG : Hid (glE s = 21) := Lib.hid (by rw [HGl.out, if_pos h100])
        clear h100 HGl HV1
        go_wp2_with fail
        with_reducible refine HC.out.mono ?_
        rintro e w1 ⟨rfl, hP⟩
        have hB1 := hP.below (Nat.le_refl _) HB0.out.size
        have HS1 := Lib.hid (HS0.out.later hB1)
        have hm := HS1.out.none_
        have HB1 := Lib.hid (HB0.out.trans hB1)
        clear hB1 hP
        go_wp2_with fail
        go_step3
        exact ⟨rfl, HB1.out, HS1, 21, _, _, _, _, _, _, _, _, _, _, _, _, _, _, _, _, _, _, _, _, _, _, _, _, _, _, _, _, _, _, _, _, _, _, _, _, _, _, _, _, _, _, _, _, _, _, _, Lib.hid (.inr ⟨rfl, rfl⟩), HG, rfl⟩
      · have k1 : ¬ (100 : Int) < (N : Int) := by omega
        have hN100 : N ≤ 100 := by omega
        have HG : Hid (glE s = lnE N r0) := Lib.hid (by rw [HGl.out, if_neg h100])
        clear h100 HGl
        go_wp2_with fail
        with_reducible refine HC.out.mono ?_
        rintro e w1 ⟨rfl, hP⟩
        have hB1 := hP.below (Nat.le_refl _) HB0.out.size
        have HS1 := Lib.hid (HS0.out.later hB1)
        have HB1 := Lib.hid (HB0.out.trans hB1)
        have Hb1 := Lib.hid (hP.get (Array.getElem?_eq_some_iff.1 Hb.out).1)
        clear hB1 hP HC
        go_wp2_with fail
        go_loopw [5, 25] (fun vv iv wr => ∃ (k : Nat) (R : ByteArray) (acc : LS), k ≤ N ∧ iv = .int .u64 k ∧ Below w.heap.size w wr ∧ Hid (Sent a0 b0 w.heap.size wr) ∧ Hid (wr.heap[w.heap.size]? = some (.cells #[.string R] 49 (0, 0))) ∧ R.size ≤ s.size ∧ Hid (acc.length = k) ∧ OwnS wr (w.heap.size + 1) vv acc ∧ Hid (lnE N r0 = lnE (N - k) R ∧ lnV N r0 = acc ++ lnV (N - k) R ∧ lnR N r0 = lnR (N - k) R)) (fun _ iv _ => N - (intOf iv).toNat)
        case atStart => exact ⟨0, r0, [], Nat.zero_le _, rfl, HB1.out, HS1, Hb1, hRs, Lib.hid rfl, OwnS.nil _ _, Lib.hid ⟨rfl, rfl, rfl⟩⟩
        case round =>
          obtain ⟨k, R, acc, hk, rfl, hB, HS, HR, hRz, HA, hown, HL⟩ := hrel
          obtain ⟨A5, c5, rfl, hlc, -⟩ := hown.at_
          have HOwn := Lib.hid hown
          clear hown
          rw [HA.out] at hlc HOwn ⊢
          have hRz2 : R.size ≤ 9223372036854775807 := by omega
          by_cases hkn : k < N
          · have e1 : N - k = (N - (k + 1)) + 1 := by omega
            have hl := HL.out
            rw [e1, lnE, lnV, lnR] at hl
            have HL' := Lib.hid hl
            have hkI : (k : Int) < (N : Int) := by omega
            clear HL hl e1
            rcases txtE_cases R with ht | ht | ht
            · have HG2 : Hid (glE s = 20) := Lib.hid (by rw [HG.out, HL'.out.1, if_neg (by omega), ht])
              have HC := Lib.hid (text_more a0 b0 w.heap.size w.heap.size 49 R hRz2 wr HS.out (Nat.le_refl _) HR.out ht)
              clear ht
              go_wp2_with fail
              with_reducible refine HC.out.mono ?_
              rintro e w2 ⟨rfl, hB2⟩
              have HS2 := Lib.hid (HS.out.later hB2)
              have HB2 := Lib.hid (hB.trans hB2)
              clear hB2
              go_wp2_with fail
              go_step3
              exact ⟨rfl, HB2.out, HS2, 20, _, _, _, _, _, _, _, _, _, _, _, _, _, _, _, _, _, _, _, _, _, _, _, _, _, _, _, _, _, _, _, _, _, _, _, _, _, _, _, _, _, _, _, _, _, _, _, Lib.hid (.inl ⟨rfl, rfl⟩), HG2, rfl⟩
            · have HG2 : Hid (glE s = 21) := Lib.hid (by rw [HG.out, HL'.out.1, if_neg (by omega), ht])
              have HC := Lib.hid (text_none a0 b0 w.heap.size w.heap.size 49 R hRz2 wr HS.out (Nat.le_refl _) HR.out ht)
              clear ht
              go_wp2_with fail
              with_reducible refine HC.out.mono ?_
              rintro e w2 ⟨rfl, hB2⟩
              have HS2 := Lib.hid (HS.out.later hB2)
              have HB2 := Lib.hid (hB.trans hB2)
              clear hB2
              go_wp2_with fail
              go_step3
              exact ⟨rfl, HB2.out, HS2, 21, _, _, _, _, _, _, _, _, _, _, _, _, _, _, _, _, _, _, _, _, _, _, _, _, _, _, _, _, _, _, _, _, _, _, _, _, _, _, _, _, _, _, _, _, _, _, _, Lib.hid (.inr ⟨rfl, rfl⟩), HG2, rfl⟩
            · have HL2 : Hid (lnE N r0 = lnE (N - (k + 1)) (txtR R)) := Lib.hid (by rw [HL'.out.1, if_pos ht])
              have HC := Lib.hid (text_ok a0 b0 w.heap.size w.heap.size 49 R hRz2 wr HS.out (Nat.le_refl _) HR.out ht)
              have hrs := txtR_size R
              clear ht
              generalize txtV R = X at *
              generalize txtR R = R' at *
              go_wp2_with fail
              with_reducible refine HC.out.mono ?_
              rintro e w2 ⟨rfl, hP⟩
              have hB2 : Below w.heap.size wr w2 := hP.below (Nat.le_refl _) hB.size
              have HS2 := Lib.hid (HS.out.later hB2)
              have HB2 := Lib.hid (hB.trans hB2)
              have Hb2 := Lib.hid (hP.get (Array.getElem?_eq_some_iff.1 HR.out).1)
              have hz2 := hP.size
              have hblt : w.heap.size < wr.heap.size := (Array.getElem?_eq_some_iff.1 HR.out).1
              have hown2 : OwnS w2 (w.heap.size + 1) (.slice A5 k c5) acc := HOwn.out.of (fun i hi hi2 => by
                have h9 : wr.heap[i]? = some wr.heap[i] := Array.getElem?_eq_getElem hi2
                rw [h9]
                exact hP.other (by omega) h9)
              clear hB2 hP
              have ha : OwnS (w2.alloc (.cells #[.string X] 9)) (w.heap.size + 1) (.slice A5 k c5) acc := hown2.of (fun k _ hk => Below.heap_alloc _ _ _ hk)
              obtain ⟨v1, W1, happ, hown1, hB1'⟩ := append_str (w2.alloc (.cells #[.string X] 9)) (w.heap.size + 1) _ acc X w2.heap.size ha (cell_at (new_at w2 _ _ rfl) 0) (by simp; omega) (by rw [HA.out]; omega)
              have HApp := Lib.hid happ
              have hB3 : Below (w.heap.size + 1) w2 W1 := ((Below.refl _ w2).alloc (by omega) _).trans hB1'
              have HB3 := Lib.hid hB3
              have HO := Lib.hid hown1
              clear happ hown1 hB3 hB1' ha hown2
              go_wp2_with (at_builtin; refine wpListS_append_run rfl (.tmp 34) (.tmp 36) _ rfl rfl rfl HApp.out ?_)
              go_roundw
              case rel =>
                have hBx := HB3.out.mono (Nat.le_succ w.heap.size)
                refine ⟨k + 1, R', acc ++ [X], by omega, by go_num, HB2.out.trans hBx, Lib.hid (HS2.out.later hBx), Lib.hid ((HB3.out.block _ (Nat.lt_succ_self _)).trans Hb2.out), by omega, Lib.hid (by rw [List.length_append, HA.out]; rfl), HO.out, Lib.hid ⟨HL2.out, ?_, HL'.out.2.2⟩⟩
                rw [HL'.out.2.1]
                simp
              case measure => simp [intOf]; omega
          · have hge : ¬ (k : Int) < (N : Int) := by omega
            have e1 : N - k = 0 := by omega
            have hl := HL.out
            rw [e1, lnE, lnV, lnR] at hl
            have h0 : glE s = 0 := by rw [HG.out, hl.1]
            have hv := HV1.out h0
            rw [hl.2.1, hl.2.2, List.append_nil] at hv
            have HV := Lib.hid hv
            have H0 := Lib.hid h0
            have hcr : wr.cell? ⟨w.heap.size, 0, none⟩ = some (.string R) := cell_at HR.out 0
            clear hl h0 hv e1 HL
            go_wp2_with fail
            go_quiet (fail)
            go_wp2_with fail
            refine bodyPost_ret (v := .tuple #[.slice A5 k c5, .string R, .int .i64 0]) (by simp [results, Tryd.results22, go_sem]) rfl ?_
            exact ⟨dn hB _, _, by rw [H0.out, HV.out.2], by rw [HV.out.1]; exact OwnS.mono (Nat.le_succ _) HOwn.out⟩
  · rintro a' w' ⟨hB, HS, x, ev, u1, u2, u3, u4, u5, u6, u7, u9, u10, u11, u12, u13, u14, u15, u16, u17, u18, u19, u20, u21, u22, u23, u24, u25, u26, u27, u28, u29, u30, u31, u32, u33, u34, u35, u36, u37, u38, u39, u40, u41, u42, u43, u44, u45, u46, u47, HX, HG, rfl⟩
    rcases HX.out with ⟨rfl, rfl⟩ | ⟨rfl, rfl⟩
    · clear HX
      go_wp2_with fail
      refine (told_more a0 b0 w.heap.size _ HS.out).mono ?_
      rintro e w2 ⟨rfl, rfl⟩
      go_wp2_with fail
      refine bodyPost_ret (v := .tuple #[.slice none 0 0, .string s, .int .i64 20]) (by simp [results, Tryd.results22, go_sem]) rfl (listRes_bad 20 (by decide) HG.out hB)
    · clear HX
      go_wp2_with fail
      refine (told_none a0 b0 w.heap.size _ HS.out).mono ?_
      rintro e w2 ⟨rfl, rfl⟩
      go_wp2_with fail
      refine bodyPost_ret (v := .tuple #[.slice none 0 0, .string s, .int .i64 21]) (by simp [results, Tryd.results22, go_sem]) rfl (listRes_bad 21 (by decide) HG.out hB)
end Go.Proofs.YtbibnfchmffhaaaDoor
