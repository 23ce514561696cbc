/-
  Logs cut: printed by gen_aud.py.
-/
import Derived.Test.YtdhbomipffidlaaAudP
namespace Go.Proofs.Ytdhbomipffidlaa
open Go.RowKit Go.Shelf
attribute [local go_sem] Oper.semAt_some calmOp calmUpon effOp effUpon

/-- The first two hundred and ten bytes. -/
def cutE (s : ByteArray) : ByteArray := s.extract 0 (min s.size 210)
theorem cutE_size (s : ByteArray) : (cutE s).size ≤ 210 := by unfold cutE; rw [ByteArray.size_extract]; omega
theorem extract_all (s : ByteArray) : s.extract 0 s.size = s := by apply ByteArray.ext; simp
def cutX (e : Ent) : Ent := ⟨e.s, e.t, cutE e.x, e.m⟩
def fewE (l : LE) : LE := (l.take 40).map cutX
theorem fewE_length (l : LE) : (fewE l).length ≤ 40 := by unfold fewE; rw [List.length_map, List.length_take]; omega
theorem nthE_map (l : LE) (j : Nat) (h : j < l.length) : nthE (l.map cutX) j = cutX (nthE l j) := nthE_of (by rw [List.getElem?_map, nthE_get h]; rfl)
theorem fewE_size (l : LE) (j : Nat) (h : j < (fewE l).length) : (nthE (fewE l) j).x.size ≤ 210 := by
  unfold fewE at h ⊢
  rw [nthE_map _ _ (by rw [List.length_map] at h; exact h)]
  exact cutE_size _

set_option maxRecDepth 100000 in
set_option maxHeartbeats 4000000 in
theorem cut_any (s : ByteArray) (hs : s.size ≤ 9223372036854775807) (w : World) : Calls Try.prog 13 #[.string s] w fun e w' => e = .returned (.string (cutE s)) ∧ Below w.heap.size w w' := by
  go_enter Try.func13, Try.ntmps13
  go_wp2_with fail
  all_goals
    try go_quiet (fail)
    try go_wp2_with fail
    go_ret
    exact ⟨ret_str (by unfold cutE; first | rw [Nat.min_eq_left (by omega)]; (try rw [extract_all]) | rw [Nat.min_eq_right (by omega)]), Below.refl _ _⟩

set_option maxRecDepth 100000 in
set_option maxHeartbeats 8000000 in
theorem few_any (A : Option Addr) (c : Nat) (l : LE) (N : Nat) (hN : l.length = N) (hN2 : N ≤ 9223372036854775807) (hz : ∀ j, j < N → (nthE l j).x.size ≤ 9223372036854775807) (w : World) (hA : AtE w w.heap.size A l) :
    Calls Try.prog 30 #[.slice A N c] w fun e w' => Below w.heap.size w w' ∧ ∃ v : Value, e = .returned v ∧ OwnE w' w.heap.size v (fewE l) := by
  have HN := Lib.hid hN
  have HZ := Lib.hid hz
  clear hN hz
  go_enter Try.func30, Try.ntmps30
  go_wp2_with fail
  go_loopw [3, 4] (fun vv iv wr => ∃ j : Nat, j ≤ N ∧ j ≤ 40 ∧ iv = .int .i64 j ∧ Below w.heap.size w wr ∧ OwnE wr w.heap.size vv ((l.take j).map cutX)) (fun _ iv _ => N - (intOf iv).toNat)
  case atStart => exact ⟨0, Nat.zero_le _, Nat.zero_le _, rfl, Below.refl _ w, OwnE.nil _ _⟩
  case round =>
    obtain ⟨j, hj, hj4, rfl, hB, hown⟩ := hrel
    obtain ⟨wo, rfl⟩ : ∃ wo : World, wo = wr := ⟨_, rfl⟩
    by_cases hjn : j < N
    · by_cases hj0 : j < 40
      · obtain ⟨b1, o1, rfl, hb1, hc1⟩ := hA (by rw [HN.out]; omega)
        obtain ⟨y0, y1, y2, y3⟩ := (hc1 j (by rw [HN.out]; exact hjn)).below hB hb1
        have hnx : (l.take (j + 1)).map cutX = (l.take j).map cutX ++ [cutX (nthE l j)] := by rw [takeE_snoc l j (by rw [HN.out]; exact hjn), List.map_append]; rfl
        have hzj := HZ.out j hjn
        have hlen : ((l.take j).map cutX).length = j := by rw [List.length_map, List.length_take, HN.out]; omega
        have hjI : (j : Int) < (N : Int) := by omega
        have hjI0 : (0 : Int) ≤ (j : Int) := by omega
        have hj40 : (j : Int) < 40 := by omega
        generalize nthE l j = x at *
        obtain ⟨A5, c5, rfl, hlc, -⟩ := hown.lie
        have hs0 := hB.size
        have HOwn := Lib.hid hown
        have HNx := Lib.hid hnx
        rw [hlen] at hlc ⊢
        have HM := Lib.hid hlen
        clear hnx hown hc1 hlen
        obtain ⟨X, hX, HX⟩ : ∃ X, ((x.x.size ≤ 210 ∧ X = x.x) ∨ (210 < x.x.size ∧ x.x.extract 0 210 = X)) ∧ Hid (cutE x.x = X) := by
          by_cases h : x.x.size ≤ 210
          · exact ⟨x.x, .inl ⟨h, rfl⟩, Lib.hid (by unfold cutE; rw [Nat.min_eq_left h]; exact extract_all _)⟩
          · exact ⟨x.x.extract 0 210, .inr ⟨by omega, rfl⟩, Lib.hid (by unfold cutE; rw [Nat.min_eq_right (by omega)])⟩
        have hfour : FourE ((wo.alloc (.cells #[.int .u64 (U x.s), .int .u64 (U x.t), .string X, .int .u64 (U x.m)] 41)).alloc (.cells #[.int .u64 (U x.s), .int .u64 (U x.t), .string X, .int .u64 (U x.m)] 41)) (wo.heap.size + 1) 0 (cutX x) := by
          have k := new_at (wo.alloc (.cells #[.int .u64 (U x.s), .int .u64 (U x.t), .string X, .int .u64 (U x.m)] 41)) (.cells #[.int .u64 (U x.s), .int .u64 (U x.t), .string X, .int .u64 (U x.m)] 41) (wo.heap.size + 1) (by simp)
          refine ⟨cell_at k 0, cell_at k 1, ?_, cell_at k 3⟩
          show _ = some (Value.string (cutE x.x))
          rw [HX.out]
          exact cell_at k 2
        have hownZ : OwnE ((wo.alloc (.cells #[.int .u64 (U x.s), .int .u64 (U x.t), .string X, .int .u64 (U x.m)] 41)).alloc (.cells #[.int .u64 (U x.s), .int .u64 (U x.t), .string X, .int .u64 (U x.m)] 41)) w.heap.size (.slice A5 j c5) ((l.take j).map cutX) := by
          have h := (HOwn.out.of (fun k _ hk => Below.heap_alloc wo (.cells #[.int .u64 (U x.s), .int .u64 (U x.t), .string X, .int .u64 (U x.m)] 41) k hk) : OwnE (wo.alloc (.cells #[.int .u64 (U x.s), .int .u64 (U x.t), .string X, .int .u64 (U x.m)] 41)) w.heap.size _ _).of (fun k _ hk => Below.heap_alloc _ (.cells #[.int .u64 (U x.s), .int .u64 (U x.t), .string X, .int .u64 (U x.m)] 41) k hk)
          rw [HM.out] at h
          exact h
        obtain ⟨v', W, happ, hown', hB'⟩ := append_one_e _ w.heap.size (.slice A5 j c5) _ (cutX x) (wo.heap.size + 1) hownZ hfour (by simp; omega) (by rw [HM.out]; omega)
        have HO := Lib.hid hown'
        have HB1 := Lib.hid (hB.trans ((((Below.refl _ wo).alloc (Nat.le_refl _) (.cells #[.int .u64 (U x.s), .int .u64 (U x.t), .string X, .int .u64 (U x.m)] 41)).alloc (by simp) (.cells #[.int .u64 (U x.s), .int .u64 (U x.t), .string X, .int .u64 (U x.m)] 41)).mono hs0 |>.trans hB'))
        clear hown' hB' hownZ hfour
        rcases hX with ⟨h210, rfl⟩ | ⟨h210, hX⟩
        · have h21 : ((x.x.size : Nat) : Int) ≤ 210 := by omega
          have hXX := extract_all x.x
          have HApp := Lib.hid happ
          clear happ HX HM
          go_wp2_with (at_builtin; refine wpListE_append_run rfl (.tmp 28) (.tmp 30) _ rfl rfl rfl HApp.out ?_)
          go_roundw
          case rel => exact ⟨j + 1, by omega, by omega, by go_num, HB1.out, by rw [HNx.out]; exact HO.out⟩
          case measure => simp [intOf]; omega
        · have h21 : ¬ ((x.x.size : Nat) : Int) ≤ 210 := by omega
          have h22 : (210 : Int) ≤ ((x.x.size : Nat) : Int) := by omega
          have HApp := Lib.hid happ
          clear happ HX HM
          go_wp2_with (at_builtin; refine wpListE_append_run rfl (.tmp 28) (.tmp 30) _ rfl rfl rfl HApp.out ?_)
          go_roundw
          case rel => exact ⟨j + 1, by omega, by omega, by go_num, HB1.out, by rw [HNx.out]; exact HO.out⟩
          case measure => simp [intOf]; omega
      · have hlt : (j : Int) < (N : Int) := by omega
        have hge : ¬ (j : Int) < 40 := by omega
        have e : fewE l = (l.take j).map cutX := by unfold fewE; rw [show j = 40 by omega]
        have HE := Lib.hid e
        have HOwn := Lib.hid hown
        clear e hown
        go_wp2_with fail
        go_ret
        exact ⟨hB, _, rfl, by rw [HE.out]; exact HOwn.out⟩
    · have hge : ¬ (j : Int) < (N : Int) := by omega
      have e : fewE l = (l.take j).map cutX := by unfold fewE; rw [List.take_of_length_le (by rw [HN.out]; omega), List.take_of_length_le (i := j) (by rw [HN.out]; omega)]
      have HE := Lib.hid e
      have HOwn := Lib.hid hown
      clear e hown
      go_wp2_with fail
      go_ret
      exact ⟨hB, _, rfl, by rw [HE.out]; exact HOwn.out⟩

set_option maxRecDepth 100000 in
set_option maxHeartbeats 4000000 in
theorem Few_any (p : BitVec 64) (A : Option Addr) (c : Nat) (l : LE) (N : Nat) (hN : l.length = N) (hN2 : N ≤ 9223372036854775807) (hz : ∀ j, j < N → (nthE l j).x.size ≤ 9223372036854775807) (w : World) (hA : AtE w w.heap.size A l) :
    Calls Try.prog 11 #[.agg #[.int .u64 (U p), .slice A N c]] w fun e w' => Below w.heap.size w w' ∧ ∃ A' c', e = .returned (.agg #[.int .u64 (U p), .slice A' (fewE l).length c']) ∧ (fewE l).length ≤ c' ∧ LieE w' w.heap.size A' (fewE l) := by
  have hB0 : Below w.heap.size w ((w.alloc (.cells #[.int .u64 (U p), .slice A N c] 27)).alloc (.cells #[.int .u64 0, .slice none 0 0] 27)) := ((Below.refl _ w).alloc (Nat.le_refl _) _).alloc (by simp) _
  have hC := fun W h => few_any A c l N hN hN2 hz W h
  have HC := Lib.hid hC
  have HB0 := Lib.hid hB0
  clear hC hB0 hN hz
  go_enter Try.func11, Try.ntmps11
  go_wp2_with fail
  have kl := old_at (o := .cells #[.int .u64 0, .slice none 0 0] 27) (new_at w (.cells #[.int .u64 (U p), .slice A N c] 27) _ rfl)
  have kr := new_at (w.alloc (.cells #[.int .u64 (U p), .slice A N c] 27)) (.cells #[.int .u64 0, .slice none 0 0] 27) (w.heap.size + 1) (by simp)
  generalize hu : ((w.alloc (.cells #[.int .u64 (U p), .slice A N c] 27)).alloc (.cells #[.int .u64 0, .slice none 0 0] 27)) = u at *
  clear hu
  obtain ⟨br, hbr⟩ : ∃ br, w.heap.size + 1 = br := ⟨_, rfl⟩
  have qbr : w.heap.size ≤ br := by omega
  rw [hbr] at kr ⊢
  obtain ⟨bl, hbl⟩ : ∃ bl, w.heap.size = bl := ⟨_, rfl⟩
  rw [hbl] at kl ⊢
  clear hbr hbl
  have l0 : ∀ s : Later u.heap.size u, s.W.cell? ⟨bl, 0, none⟩ = some _ := fun s => s.cell (cell_at kl 0) (Array.getElem?_eq_some_iff.1 kl).1
  have l1 : ∀ s : Later u.heap.size u, s.W.cell? ⟨bl, 1, none⟩ = some _ := fun s => s.cell (cell_at kl 1) (Array.getElem?_eq_some_iff.1 kl).1
  refine region_mix_last_plain (C := fun W' => ∃ s : Later u.heap.size u, W' = s.W) [3, 0, 3, 0, 1, 3, 2] (by kernel_rfl) (by kernel_rfl) (by kernel_rfl) (by kernel_rfl) (by kernel_rfl) ⟨⟨u.drew, (Below.refl _ u).drew⟩, rfl⟩ ?_
  refine wpL_plain (fun K hK => ?_); go_simp; refine hK _ ?_; clear hK K
  refine wpL_calm (fun K hK => ?_); go_simp; refine hK _ ?_; clear hK K
  refine wpL_plain (fun K hK => ?_); go_simp; refine hK _ ?_; clear hK K
  refine wpL_calm (fun K hK => ?_); go_simp; refine hK _ ?_; clear hK K
  refine wpL_eff rfl (fun K hK => ?_)
  go_simp
  refine ⟨trivial, (callsIn_wide.2 (HC.out u.drew (hA.later (HB0.out.trans ((Below.refl _ u).drew.mono HB0.out.size))))).mono ?_⟩
  rintro e w2 ⟨hB2, v, rfl, hown⟩
  have hb2 : Below u.heap.size u w2 := (Below.refl _ u).drew.trans hB2
  refine ⟨_, rfl, hK _ _ ⟨⟨_, hb2⟩, rfl⟩ ?_⟩
  clear hK K l0 l1
  obtain ⟨A5, c5, rfl, hlc, hlie⟩ := hown.lie
  refine wpL_plain (fun K hK => ?_); go_simp; refine hK _ ?_; clear hK K
  have kr2 := keep kr hb2
  have xr0 := cell_at kr2 0
  have xr1 := cell_at kr2 1
  have fr0 := free_at kr2 0
  have fr1 := free_at kr2 1
  refine wpL_last rfl (fun K hK => ?_)
  go_simp
  refine hK _ _ ?_
  clear hK K xr0 xr1 fr0 fr1
  refine wpL_nil ?_
  have hP : Put w2 ((w2.setCell ⟨br, 0, none⟩ (.int .u64 (U p))).setCell ⟨br, 1, none⟩ (.slice A5 (fewE l).length c5)) br (.cells #[.int .u64 (U p), .slice A5 (fewE l).length c5] 27 (0, 0)) := ((Put.refl kr2).set 0 _).set 1 _
  have kr3 := hP.get (Array.getElem?_eq_some_iff.1 kr2).1
  have d0 := cell_at kr3 0
  have d1 := cell_at kr3 1
  have hbr := (Array.getElem?_eq_some_iff.1 kr).1
  have HP := Lib.hid hP
  have HL := Lib.hid hlie
  clear hP hlie hown
  go_wp2_with fail
  refine bodyPost_ret (v := .agg #[.int .u64 (U p), .slice A5 (fewE l).length c5]) ?_ rfl ⟨(HB0.out.trans (hb2.mono HB0.out.size)).trans (HP.out.below qbr), A5, c5, rfl, hlc, fun hl => ?_⟩
  · simp [results, Try.results11, go_sem, d0, d1]
  · obtain ⟨g, o, cs, e1, e2, e3, e4⟩ := HL.out hl
    have e2' : u.heap.size ≤ g := e2
    exact ⟨g, o, cs, e1, by have := HB0.out.size; omega, (HP.out.other (by omega)).trans e3, fun j hj => (e4 j hj).put HP.out (by omega)⟩
end Go.Proofs.Ytdhbomipffidlaa
