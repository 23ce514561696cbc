/-
  Sketches by definition: the reference's.
-/
import Derived.Test.YthnnbpmpaeddgaaExaF
namespace Go.Proofs.Ythnnbpmpaeddgaa
open Go.RowKit Go.Shelf
attribute [local go_sem] calmOp calmUpon effOp effUpon

set_option maxRecDepth 100000 in
set_option maxHeartbeats 2000000 in
theorem refRight_any (A : Option Addr) (c : Nat) (l : L64) (n : Nat) (hn : l.length = n) (hl : n ≤ 65536) (w : World) (hA : At w w.heap.size A l) :
    Calls Try.prog 23 #[.agg #[.slice A n c]] w fun e w' => e = .returned (.bool (rightX l)) ∧ Below w.heap.size w w' := by
  have hrx : rightX l = (decide (n ≤ 64) && adjB l n) := by unfold rightX; rw [hn]
  have HRx := Lib.hid hrx
  have HN := Lib.hid hn
  clear hrx hn
  go_enter Try.func23, Try.ntmps23
  go_wp2_with fail
  have hbx : Below w.heap.size w (w.alloc (.cells #[.slice A n c] 24)) := (Below.refl _ w).alloc (Nat.le_refl _) _
  have kx := new_at w (.cells #[.slice A n c] 24) _ rfl
  go_loopw [3] (fun iv wr => ∃ i : Nat, 1 ≤ i ∧ (i ≤ n ∨ i = 1) ∧ iv = .int .i64 i ∧ Below w.heap.size w wr ∧ wr.heap[w.heap.size]? = some (.cells #[.slice A n c] 24 (0, 0)) ∧ Hid (adjB l i = true)) (fun iv _ => n - (intOf iv).toNat)
  case atStart => exact ⟨1, Nat.le_refl _, .inr rfl, rfl, hbx, kx, Lib.hid rfl⟩
  case round =>
    obtain ⟨i, hi1, hi, rfl, hB, jx, H⟩ := hrel
    clear hbx kx
    obtain ⟨wo, rfl⟩ : ∃ wo : World, wo = wr := ⟨_, rfl⟩
    have x0 := cell_at jx 0
    by_cases hlt : i < n
    · obtain ⟨k, rfl⟩ : ∃ k, i = k + 1 := ⟨i - 1, by omega⟩
      obtain ⟨b, o, rfl, hb, hc⟩ := hA (by rw [HN.out]; omega)
      have y0 := (hB.cell (p := ⟨b, o + k, none⟩) hb).trans (hc k (by rw [HN.out]; omega))
      have y1 := (hB.cell (p := ⟨b, o + (k + 1), none⟩) hb).trans (hc (k + 1) (by rw [HN.out]; omega))
      have hsucc := adjB_succ l (k + 1)
      rw [H.out, Bool.true_and, show (k + 1 == 0) = false from rfl, Bool.false_or, Nat.add_sub_cancel] at hsucc
      have HS := Lib.hid hsucc
      have hle := U_le_iff (nth l (k + 1)) (nth l k)
      clear hc hsucc hi1 hi
      by_cases hx : (nth l (k + 1)).toNat ≤ (nth l k).toNat
      · rw [decide_eq_true hx] at hle
        have HA : Hid (rightX l = false) := Lib.hid (by rw [HRx.out, adjB_false (i := k + 1 + 1) (by rw [HS.out, decide_eq_false (by omega)]) (by omega), Bool.and_false])
        clear hx
        go_wp2_with fail
        go_quiet (fail)
        go_wp2_with fail
        go_ret
        exact ⟨by rw [HA.out]; rfl, dn hB _⟩
      · rw [decide_eq_false hx] at hle
        have HA : Hid (adjB l (k + 1 + 1) = true) := Lib.hid (by rw [HS.out, decide_eq_true_iff]; omega)
        clear hx
        go_wp2_with fail
        go_quiet (fail)
        go_wp2_with fail
        go_roundw
        case rel => exact ⟨k + 1 + 1, by omega, .inl (by omega), by go_num, dn hB _, jx, HA⟩
        case measure => simp [intOf]; omega
    · have hadj : adjB l n = true := by
        rcases hi with hi | hi
        · have : i = n := by omega
          rw [← this]; exact H.out
        · have : n = 0 ∨ n = 1 := by omega
          rcases this with rfl | rfl <;> rfl
      obtain ⟨q, hq⟩ : ∃ q, decide (n ≤ 64) = q := ⟨_, rfl⟩
      have hd : decide ((n : Int) ≤ 64) = q := by rw [← hq, Bool.eq_iff_iff, decide_eq_true_iff, decide_eq_true_iff]; omega
      have HR : Hid (rightX l = q) := Lib.hid (by rw [HRx.out, hadj, Bool.and_true, hq])
      clear hadj hq hi
      go_wp2_with fail
      go_ret
      exact ⟨by rw [HR.out]; rfl, hB⟩

set_option maxRecDepth 100000 in
set_option maxHeartbeats 4000000 in
theorem refPut_any (base : Nat) (v : Value) (l : L64) (n : Nat) (hn : l.length = n) (hl : n ≤ 60000) (x : BitVec 64) (w : World) (hown : OwnL w base v l) (hb : base ≤ w.heap.size) :
    Calls Try.prog 31 #[v, .int .u64 (U x)] w fun e w' => Below base w w' ∧ ∃ v' : Value, e = .returned v' ∧ OwnL w' base v' (ins l x) := by
  obtain ⟨A, c, hv, hlc, hA⟩ := hown.at_
  rw [hn] at hv hlc
  subst hv
  obtain ⟨p, hpe⟩ : ∃ p, posU l x = p := ⟨_, rfl⟩
  have hpl := posU_le x l
  have hlt := posU_lt x l
  have hge := posU_ge x l
  have hie := ins_eq x l
  unfold isAt at hie
  rw [hpe] at hpl hlt hge hie
  rw [hn] at hpl hge hie
  have HN := Lib.hid hn
  have HLt := Lib.hid hlt
  have HGe := Lib.hid hge
  have HIE := Lib.hid hie
  have HOwn := Lib.hid hown
  clear hn hlt hge hie hpe hown
  go_enter Try.func31, Try.ntmps31
  go_wp2_with fail
  go_loop [5] (fun iv => ∃ j : Nat, j ≤ p ∧ iv = .int .i64 j) (fun iv => p - (intOf iv).toNat)
  case atStart => exact ⟨0, Nat.zero_le _, rfl⟩
  case round =>
    obtain ⟨j, hj, rfl⟩ := hrel
    by_cases hjp : j < p
    · obtain ⟨b, o, rfl, hbb, hc⟩ := hA (by rw [HN.out]; omega)
      have y := hc j (by rw [HN.out]; omega)
      have hd := U_lt_iff (nth l j) x
      rw [decide_eq_true (HLt.out j hjp)] at hd
      clear hc
      go_wp2_with fail
      go_round
      case rel => exact ⟨j + 1, by omega, by go_num⟩
      case measure => simp [intOf]; omega
    · obtain rfl : p = j := by omega
      have hcut := run_cut A n c p hpl
      obtain ⟨v1, w1, happ1, hown1, hB1⟩ := append_list w w.heap.size (.slice none 0 0) [] (l.take p) A p c (OwnL.nil _ _) (by rw [List.length_take, HN.out]; omega) (hA.take p) (Nat.le_refl _) (by simp; omega)
      rw [List.nil_append] at hown1
      have hAc := hA.cut (p := p) (show l.length ≤ c by rw [HN.out]; exact hlc)
      have hs1 := hB1.size
      have hBa : Below w.heap.size w (w1.alloc (.cells #[.int .u64 (U x)] 25)) := hB1.alloc hs1 _
      obtain ⟨v2, w2, happ2, hown2, hB2⟩ := append_one (w1.alloc (.cells #[.int .u64 (U x)] 25)) w.heap.size v1 (l.take p) x w1.heap.size (hown1.of (fun k _ hk => Below.heap_alloc _ _ _ hk)) (cell_at (new_at w1 _ _ rfl) 0) (by simp; omega) (by rw [List.length_take, HN.out]; omega)
      have hBb := hBa.trans hB2
      obtain ⟨v3, w3, happ3, hown3, hB3⟩ := append_list w2 w.heap.size v2 (l.take p ++ [x]) (l.drop p) (cutA A c p) (n - p) (c - p) hown2 (by rw [List.length_drop, HN.out]) (hAc.later hBb) hBb.size (by rw [List.length_append, List.length_take, HN.out, List.length_singleton]; omega)
      have hBc := hBb.trans hB3
      have HA1 := Lib.hid happ1
      have HA2 := Lib.hid happ2
      have HA3 := Lib.hid happ3
      have HO := Lib.hid hown3
      clear happ1 happ2 happ3 hown1 hown2 hown3 hAc hs1 hBa hB2 hBb hB3 hB1
      by_cases hpn : p < n
      · obtain ⟨b, o, rfl, hbb, hc⟩ := hA (by rw [HN.out]; omega)
        have y := hc p (by rw [HN.out]; exact hpn)
        have hd := U_lt_iff (nth l p) x
        rw [decide_eq_false (show ¬ (nth l p).toNat < x.toNat by have := HGe.out hpn; omega)] at hd
        have hu := U_beq (nth l p) x
        clear hc
        by_cases hx : (nth l p == x) = true
        · have HI : Hid (ins l x = l) := Lib.hid (by rw [HIE.out, decide_eq_true hpn, hx, Bool.true_and, if_pos rfl])
          rw [hx] at hu
          clear hx
          go_wp2_with fail
          go_ret
          exact ⟨Below.refl _ _, _, rfl, by rw [HI.out]; exact HOwn.out⟩
        · rw [Bool.not_eq_true] at hx
          have HI : Hid (ins l x = l.take p ++ [x] ++ l.drop p) := Lib.hid (by rw [HIE.out, hx, Bool.and_false, if_neg Bool.false_ne_true, List.append_assoc]; rfl)
          rw [hx] at hu
          clear hx
          go_wp2_with (first | (at_builtin; refine wpList_append_run rfl (.tmp 34) (.tmp 37) _ rfl rfl rfl HA1.out ?_) | (at_builtin; refine wpList_append_run rfl (.tmp 38) (.tmp 40) _ rfl rfl rfl HA2.out ?_) | (at_builtin; refine wpList_append_run rfl (.tmp 42) (.tmp 45) _ rfl rfl rfl HA3.out ?_))
          go_ret
          exact ⟨hBc.mono hb, _, rfl, by rw [HI.out]; exact OwnL.mono hb HO.out⟩
      · have HI : Hid (ins l x = l.take p ++ [x] ++ l.drop p) := Lib.hid (by rw [HIE.out, decide_eq_false hpn, Bool.false_and, if_neg Bool.false_ne_true, List.append_assoc]; rfl)
        go_wp2_with (first | (at_builtin; refine wpList_append_run rfl (.tmp 34) (.tmp 37) _ rfl rfl rfl HA1.out ?_) | (at_builtin; refine wpList_append_run rfl (.tmp 38) (.tmp 40) _ rfl rfl rfl HA2.out ?_) | (at_builtin; refine wpList_append_run rfl (.tmp 42) (.tmp 45) _ rfl rfl rfl HA3.out ?_))
        go_ret
        exact ⟨hBc.mono hb, _, rfl, by rw [HI.out]; exact OwnL.mono hb HO.out⟩
end Go.Proofs.Ythnnbpmpaeddgaa
