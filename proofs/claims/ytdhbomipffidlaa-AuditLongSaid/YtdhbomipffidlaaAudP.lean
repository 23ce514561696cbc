/-
  What is from a number on, whether two logs are the same, a log cut: printed by gen_aud.py.
-/
import Derived.Test.YtdhbomipffidlaaAudK
namespace Go.Proofs.Ytdhbomipffidlaa
open Go.RowKit Go.Shelf
attribute [local go_sem] Oper.semAt_some calmOp calmUpon effOp effUpon

/-- The entries from a number on. -/
def fromE (l : LE) (q : BitVec 64) : LE := l.filter (fun e => decide (q.toNat ≤ e.s.toNat))
theorem fromE_snoc (l : LE) (q : BitVec 64) (e : Ent) : fromE (l ++ [e]) q = if q.toNat ≤ e.s.toNat then fromE l q ++ [e] else fromE l q := by
  unfold fromE
  rw [List.filter_append]
  by_cases h : q.toNat ≤ e.s.toNat
  · rw [if_pos h]; simp [List.filter, h]
  · rw [if_neg h]; simp [List.filter, h]
theorem fromE_length (l : LE) (q : BitVec 64) : (fromE l q).length ≤ l.length := List.length_filter_le _ _

set_option maxRecDepth 100000 in
set_option maxHeartbeats 8000000 in
theorem From_any (p : BitVec 64) (A : Option Addr) (c : Nat) (l : LE) (N : Nat) (hN : l.length = N) (hN2 : N ≤ 60000) (q : BitVec 64) (w : World) (hA : AtE w w.heap.size A l) :
    Calls Try.prog 23 #[.agg #[.int .u64 (U p), .slice A N c], .int .u64 (U q)] w fun e w' => Below w.heap.size w w' ∧ ∃ v : Value, e = .returned v ∧ OwnE w' w.heap.size v (fromE l q) := by
  have HN := Lib.hid hN
  clear hN
  go_enter Try.func23, Try.ntmps23
  go_wp2_with fail
  have kl := new_at w (.cells #[.int .u64 (U p), .slice A N c] 27) _ rfl
  have hB0 : Below w.heap.size w (w.alloc (.cells #[.int .u64 (U p), .slice A N c] 27)) := (Below.refl _ w).alloc (Nat.le_refl _) _
  generalize w.alloc (.cells #[.int .u64 (U p), .slice A N c] 27) = u at *
  obtain ⟨bl, hbl⟩ : ∃ bl, w.heap.size = bl := ⟨_, rfl⟩
  have hlu := (Array.getElem?_eq_some_iff.1 kl).1
  rw [hbl] at kl ⊢
  have xl1 := cell_at kl 1
  try go_wp2_with fail
  clear xl1
  go_loopw [5, 11] (fun vv iv wr => ∃ j : Nat, j ≤ N ∧ iv = .int .i64 j ∧ Below u.heap.size u wr ∧ OwnE wr u.heap.size vv (fromE (l.take j) q)) (fun _ iv _ => N - (intOf iv).toNat)
  case atStart => exact ⟨0, Nat.zero_le _, rfl, Below.refl _ u, OwnE.nil _ _⟩
  case round =>
    obtain ⟨j, hj, rfl, hB, hown⟩ := hrel
    obtain ⟨wo, rfl⟩ : ∃ wo : World, wo = wr := ⟨_, rfl⟩
    have xl1 := cell_at (keep kl hB) 1
    by_cases hjn : j < N
    · obtain ⟨b1, o1, rfl, hb1, hc1⟩ := hA (by rw [HN.out]; omega)
      obtain ⟨y0, y1, y2, y3⟩ := (hc1 j (by rw [HN.out]; exact hjn)).below (hB0.trans (hB.mono hB0.size)) hb1
      have hnx := fromE_snoc (l.take j) q (nthE l j)
      rw [← takeE_snoc l j (by rw [HN.out]; exact hjn)] at hnx
      have hlen := fromE_length (l.take j) q
      rw [List.length_take, HN.out] at hlen
      have hjI : (j : Int) < (N : Int) := by omega
      have hjI0 : (0 : Int) ≤ (j : Int) := by omega
      generalize nthE l j = x at *
      obtain ⟨A5, c5, rfl, hlc, -⟩ := hown.lie
      have hs0 := hB.size
      by_cases hq : q.toNat ≤ x.s.toNat
      · rw [if_pos hq] at hnx
        have hge : decide (U q ≤ U x.s) = true := decide_eq_true (by unfold U; omega)
        have HNx := Lib.hid hnx
        have HOwn := Lib.hid hown
        obtain ⟨M, hM⟩ : ∃ M, (fromE (l.take j) q).length = M := ⟨_, rfl⟩
        rw [hM] at hlc hlen ⊢
        have HM := Lib.hid hM
        clear hnx hown hc1 hM
        have hfour : FourE ((wo.alloc (.cells #[.int .u64 (U x.s), .int .u64 (U x.t), .string x.x, .int .u64 (U x.m)] 41)).alloc (.cells #[.int .u64 (U x.s), .int .u64 (U x.t), .string x.x, .int .u64 (U x.m)] 41)) (wo.heap.size + 1) 0 x := by
          have k := new_at (wo.alloc (.cells #[.int .u64 (U x.s), .int .u64 (U x.t), .string x.x, .int .u64 (U x.m)] 41)) (.cells #[.int .u64 (U x.s), .int .u64 (U x.t), .string x.x, .int .u64 (U x.m)] 41) (wo.heap.size + 1) (by simp)
          exact ⟨cell_at k 0, cell_at k 1, cell_at k 2, cell_at k 3⟩
        have hownZ : OwnE ((wo.alloc (.cells #[.int .u64 (U x.s), .int .u64 (U x.t), .string x.x, .int .u64 (U x.m)] 41)).alloc (.cells #[.int .u64 (U x.s), .int .u64 (U x.t), .string x.x, .int .u64 (U x.m)] 41)) u.heap.size (.slice A5 M c5) (fromE (l.take j) q) := by
          have h := (HOwn.out.of (fun k _ hk => Below.heap_alloc wo (.cells #[.int .u64 (U x.s), .int .u64 (U x.t), .string x.x, .int .u64 (U x.m)] 41) k hk) : OwnE (wo.alloc (.cells #[.int .u64 (U x.s), .int .u64 (U x.t), .string x.x, .int .u64 (U x.m)] 41)) u.heap.size _ _).of (fun k _ hk => Below.heap_alloc _ (.cells #[.int .u64 (U x.s), .int .u64 (U x.t), .string x.x, .int .u64 (U x.m)] 41) k hk)
          rw [HM.out] at h
          exact h
        obtain ⟨v', W, happ, hown', hB'⟩ := append_one_e ((wo.alloc (.cells #[.int .u64 (U x.s), .int .u64 (U x.t), .string x.x, .int .u64 (U x.m)] 41)).alloc (.cells #[.int .u64 (U x.s), .int .u64 (U x.t), .string x.x, .int .u64 (U x.m)] 41)) u.heap.size (.slice A5 M c5) _ x (wo.heap.size + 1) hownZ hfour (by simp; omega) (by rw [HM.out]; omega)
        have HApp := Lib.hid happ
        have HO := Lib.hid hown'
        have HB1 := Lib.hid (hB.trans ((((Below.refl _ wo).alloc (Nat.le_refl _) (.cells #[.int .u64 (U x.s), .int .u64 (U x.t), .string x.x, .int .u64 (U x.m)] 41)).alloc (by simp) (.cells #[.int .u64 (U x.s), .int .u64 (U x.t), .string x.x, .int .u64 (U x.m)] 41)).mono hs0 |>.trans hB'))
        clear happ hown' hB' hownZ hfour
        go_wp2_with (at_builtin; refine wpListE_append_run rfl (.tmp 19) (.tmp 21) _ rfl rfl rfl HApp.out ?_)
        go_roundw
        case rel => exact ⟨j + 1, by omega, by go_num, HB1.out, by rw [HNx.out]; exact HO.out⟩
        case measure => simp [intOf]; omega
      · rw [if_neg hq] at hnx
        have hge : decide (U q ≤ U x.s) = false := decide_eq_false (by unfold U; omega)
        have HNx := Lib.hid hnx
        have HOwn := Lib.hid hown
        obtain ⟨M, hM⟩ : ∃ M, (fromE (l.take j) q).length = M := ⟨_, rfl⟩
        rw [hM] at hlc hlen HOwn ⊢
        clear hnx hown hc1 hM
        go_wp2_with fail
        go_roundw
        case rel => exact ⟨j + 1, by omega, by go_num, hB.alloc hs0 _, by rw [HNx.out]; exact HOwn.out.of (fun k _ hk => Below.heap_alloc wo _ k hk)⟩
        case measure => simp [intOf]; omega
    · have e : l.take j = l := List.take_of_length_le (by rw [HN.out]; omega)
      have HE := Lib.hid e
      have HOwn := Lib.hid hown
      clear e hown
      go_wp2_with fail
      go_ret
      exact ⟨hB0.trans (hB.mono hB0.size), _, rfl, by rw [← HE.out]; exact HOwn.out.mono hB0.size⟩

set_option maxRecDepth 100000 in
set_option maxHeartbeats 8000000 in
theorem refFrom_any (p : BitVec 64) (A : Option Addr) (c : Nat) (l : LE) (N : Nat) (hN : l.length = N) (hN2 : N ≤ 60000) (q : BitVec 64) (w : World) (hA : AtE w w.heap.size A l) :
    Calls Try.prog 28 #[.agg #[.int .u64 (U p), .slice A N c], .int .u64 (U q)] w fun e w' => Below w.heap.size w w' ∧ ∃ v : Value, e = .returned v ∧ OwnE w' w.heap.size v (fromE l q) := by
  have HN := Lib.hid hN
  clear hN
  go_enter Try.func28, Try.ntmps28
  go_wp2_with fail
  have kl := new_at w (.cells #[.int .u64 (U p), .slice A N c] 27) _ rfl
  have hB0 : Below w.heap.size w (w.alloc (.cells #[.int .u64 (U p), .slice A N c] 27)) := (Below.refl _ w).alloc (Nat.le_refl _) _
  generalize w.alloc (.cells #[.int .u64 (U p), .slice A N c] 27) = u at *
  obtain ⟨bl, hbl⟩ : ∃ bl, w.heap.size = bl := ⟨_, rfl⟩
  have hlu := (Array.getElem?_eq_some_iff.1 kl).1
  rw [hbl] at kl ⊢
  have xl1 := cell_at kl 1
  try go_wp2_with fail
  clear xl1
  go_loopw [5, 6] (fun vv iv wr => ∃ j : Nat, j ≤ N ∧ iv = .int .i64 j ∧ Below u.heap.size u wr ∧ OwnE wr u.heap.size vv (fromE (l.take j) q)) (fun _ iv _ => N - (intOf iv).toNat)
  case atStart => exact ⟨0, Nat.zero_le _, rfl, Below.refl _ u, OwnE.nil _ _⟩
  case round =>
    obtain ⟨j, hj, rfl, hB, hown⟩ := hrel
    obtain ⟨wo, rfl⟩ : ∃ wo : World, wo = wr := ⟨_, rfl⟩
    have xl1 := cell_at (keep kl hB) 1
    by_cases hjn : j < N
    · obtain ⟨b1, o1, rfl, hb1, hc1⟩ := hA (by rw [HN.out]; omega)
      obtain ⟨y0, y1, y2, y3⟩ := (hc1 j (by rw [HN.out]; exact hjn)).below (hB0.trans (hB.mono hB0.size)) hb1
      have hnx := fromE_snoc (l.take j) q (nthE l j)
      rw [← takeE_snoc l j (by rw [HN.out]; exact hjn)] at hnx
      have hlen := fromE_length (l.take j) q
      rw [List.length_take, HN.out] at hlen
      have hjI : (j : Int) < (N : Int) := by omega
      have hjI0 : (0 : Int) ≤ (j : Int) := by omega
      generalize nthE l j = x at *
      obtain ⟨A5, c5, rfl, hlc, -⟩ := hown.lie
      have hs0 := hB.size
      by_cases hq : q.toNat ≤ x.s.toNat
      · rw [if_pos hq] at hnx
        have hge : decide (U q ≤ U x.s) = true := decide_eq_true (by unfold U; omega)
        have HNx := Lib.hid hnx
        have HOwn := Lib.hid hown
        obtain ⟨M, hM⟩ : ∃ M, (fromE (l.take j) q).length = M := ⟨_, rfl⟩
        rw [hM] at hlc hlen ⊢
        have HM := Lib.hid hM
        clear hnx hown hc1 hM
        have hfour : FourE (wo.alloc (.cells #[.int .u64 (U x.s), .int .u64 (U x.t), .string x.x, .int .u64 (U x.m)] 41)) wo.heap.size 0 x := by
          have k := new_at wo (.cells #[.int .u64 (U x.s), .int .u64 (U x.t), .string x.x, .int .u64 (U x.m)] 41) wo.heap.size rfl
          exact ⟨cell_at k 0, cell_at k 1, cell_at k 2, cell_at k 3⟩
        have hownZ : OwnE (wo.alloc (.cells #[.int .u64 (U x.s), .int .u64 (U x.t), .string x.x, .int .u64 (U x.m)] 41)) u.heap.size (.slice A5 M c5) (fromE (l.take j) q) := by
          have h := (HOwn.out.of (fun k _ hk => Below.heap_alloc wo (.cells #[.int .u64 (U x.s), .int .u64 (U x.t), .string x.x, .int .u64 (U x.m)] 41) k hk) : OwnE (wo.alloc (.cells #[.int .u64 (U x.s), .int .u64 (U x.t), .string x.x, .int .u64 (U x.m)] 41)) u.heap.size _ _)
          rw [HM.out] at h
          exact h
        obtain ⟨v', W, happ, hown', hB'⟩ := append_one_e (wo.alloc (.cells #[.int .u64 (U x.s), .int .u64 (U x.t), .string x.x, .int .u64 (U x.m)] 41)) u.heap.size (.slice A5 M c5) _ x wo.heap.size hownZ hfour (by simp; omega) (by rw [HM.out]; omega)
        have HApp := Lib.hid happ
        have HO := Lib.hid hown'
        have HB1 := Lib.hid (hB.trans (((Below.refl _ wo).alloc (Nat.le_refl _) (.cells #[.int .u64 (U x.s), .int .u64 (U x.t), .string x.x, .int .u64 (U x.m)] 41)).mono hs0 |>.trans hB'))
        clear happ hown' hB' hownZ hfour
        go_wp2_with (at_builtin; refine wpListE_append_run rfl (.tmp 22) (.tmp 28) _ rfl rfl rfl HApp.out ?_)
        go_roundw
        case rel => exact ⟨j + 1, by omega, by go_num, HB1.out, by rw [HNx.out]; exact HO.out⟩
        case measure => simp [intOf]; omega
      · rw [if_neg hq] at hnx
        have hge : decide (U q ≤ U x.s) = false := decide_eq_false (by unfold U; omega)
        have HNx := Lib.hid hnx
        have HOwn := Lib.hid hown
        obtain ⟨M, hM⟩ : ∃ M, (fromE (l.take j) q).length = M := ⟨_, rfl⟩
        rw [hM] at hlc hlen HOwn ⊢
        clear hnx hown hc1 hM
        go_wp2_with fail
        go_roundw
        case rel => exact ⟨j + 1, by omega, by go_num, hB, by rw [HNx.out]; exact HOwn.out⟩
        case measure => simp [intOf]; omega
    · have e : l.take j = l := List.take_of_length_le (by rw [HN.out]; omega)
      have HE := Lib.hid e
      have HOwn := Lib.hid hown
      clear e hown
      go_wp2_with fail
      go_ret
      exact ⟨hB0.trans (hB.mono hB0.size), _, rfl, by rw [← HE.out]; exact HOwn.out.mono hB0.size⟩

set_option maxRecDepth 100000 in
set_option maxHeartbeats 4000000 in
theorem Same_any (p p' : BitVec 64) (A A' : Option Addr) (c c' : Nat) (l l' : LE) (N N' : Nat) (hN : l.length = N) (hN' : l'.length = N') (hm : N ≤ 65535) (w : World) (hA : AtE w w.heap.size A l) (hA' : AtE w w.heap.size A' l') :
    Calls Try.prog 29 #[.agg #[.int .u64 (U p), .slice A N c], .agg #[.int .u64 (U p'), .slice A' N' c']] w fun e w' => e = .returned (.bool (decide (p = p') && decide (l = l'))) ∧ Below w.heap.size w w' := by
  have hB0 : Below w.heap.size w ((w.alloc (.cells #[.int .u64 (U p), .slice A N c] 27)).alloc (.cells #[.int .u64 (U p'), .slice A' N' c'] 27)) := ((Below.refl _ w).alloc (Nat.le_refl _) _).alloc (by simp) _
  have HEq := Lib.hid (equal_any A A' c c' l l' N N' hN hN' hm _ (hA.later hB0) (hA'.later hB0))
  obtain ⟨r, hr⟩ : ∃ r, decide (l = l') = r := ⟨_, rfl⟩
  rw [hr] at HEq ⊢
  have hp := U_beq p p'
  obtain ⟨s, hs⟩ : ∃ s, decide (p = p') = s := ⟨_, rfl⟩
  rw [hs] at hp ⊢
  have HB0 := Lib.hid hB0
  clear hr hs hB0 hN hN'
  cases s with
  | false =>
    go_enter Try.func29, Try.ntmps29
    go_wp2_with fail
    go_ret
    exact ⟨rfl, HB0.out⟩
  | true =>
    go_enter Try.func29, Try.ntmps29
    go_wp2_with fail
    with_reducible refine HEq.out.mono ?_
    rintro e w1 ⟨rfl, hB⟩
    have HB := Lib.hid (HB0.out.trans (hB.mono HB0.out.size))
    clear hB
    go_wp2_with fail
    go_ret
    exact ⟨rfl, HB.out⟩

set_option maxRecDepth 100000 in
set_option maxHeartbeats 4000000 in
theorem refSame_any (p p' : BitVec 64) (A A' : Option Addr) (c c' : Nat) (l l' : LE) (N N' : Nat) (hN : l.length = N) (hN' : l'.length = N') (hm : N ≤ 65535) (w : World) (hA : AtE w w.heap.size A l) (hA' : AtE w w.heap.size A' l') :
    Calls Try.prog 17 #[.agg #[.int .u64 (U p), .slice A N c], .agg #[.int .u64 (U p'), .slice A' N' c']] w fun e w' => e = .returned (.bool (decide (p = p') && decide (l = l'))) ∧ Below w.heap.size w w' := by
  have hB0 : Below w.heap.size w ((w.alloc (.cells #[.int .u64 (U p), .slice A N c] 27)).alloc (.cells #[.int .u64 (U p'), .slice A' N' c'] 27)) := ((Below.refl _ w).alloc (Nat.le_refl _) _).alloc (by simp) _
  have HEq := Lib.hid (entries_any A A' c c' l l' N N' hN hN' hm _ (hA.later hB0) (hA'.later hB0))
  obtain ⟨r, hr⟩ : ∃ r, decide (l = l') = r := ⟨_, rfl⟩
  rw [hr] at HEq ⊢
  have hp := U_beq p p'
  obtain ⟨s, hs⟩ : ∃ s, decide (p = p') = s := ⟨_, rfl⟩
  rw [hs] at hp ⊢
  have HB0 := Lib.hid hB0
  clear hr hs hB0 hN hN'
  cases s with
  | false =>
    go_enter Try.func17, Try.ntmps17
    go_wp2_with fail
    go_ret
    exact ⟨rfl, HB0.out⟩
  | true =>
    go_enter Try.func17, Try.ntmps17
    go_wp2_with fail
    with_reducible refine HEq.out.mono ?_
    rintro e w1 ⟨rfl, hB⟩
    have HB := Lib.hid (HB0.out.trans (hB.mono HB0.out.size))
    clear hB
    go_wp2_with fail
    go_ret
    exact ⟨rfl, HB.out⟩
end Go.Proofs.Ytdhbomipffidlaa
