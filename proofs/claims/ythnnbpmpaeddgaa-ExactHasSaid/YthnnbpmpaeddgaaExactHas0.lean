/-
  The walk of the statement on what sketches have.
-/
import Derived.Test.YthnnbpmpaeddgaaExactMakes0
import Derived.Test.YthnnbpmpaeddgaaExaL
namespace Go.Proofs.Ythnnbpmpaeddgaa
open Go.RowKit Go.Shelf

theorem U_max (a b : Nat) : (if (a : Int) < (b : Int) then (b : Int) else (a : Int)) = ((max a b : Nat) : Int) := by split <;> omega
set_option maxRecDepth 100000 in
set_option maxHeartbeats 4000000 in
theorem walk_ExactHas {w : World} (A : Option Addr) (c : Nat) (L : L64) (hlc : L.length ≤ c) (hA : At w w.heap.size A L) (A2 : Option Addr) (c2 : Nat) (L2 : L64) (hlc2 : L2.length ≤ c2) (hA2 : At w w.heap.size A2 L2) (x : BitVec 64) :
    Calls Try.prog 4 #[.slice A L.length c, .slice A2 L2.length c2, .int .u64 (U x)] w fun e w' => e = .returned (.bool true) ∧ Below w.heap.size w w' := by
  have hIx := hA.take 100
  have htl : (L.take 100).length = min L.length 100 := by rw [List.length_take]; omega
  obtain ⟨Xx, hJ⟩ : ∃ J, L.take 100 = J := ⟨_, rfl⟩
  rw [hJ] at hIx htl
  obtain ⟨nx, hn⟩ : ∃ n, L.length = n := ⟨_, rfl⟩
  rw [hn] at htl hlc ⊢
  obtain ⟨mx, hm⟩ : ∃ m, min nx 100 = m := ⟨_, rfl⟩
  have hlex : mx ≤ 100 := by omega
  have HMinx := Lib.hid hm
  have HMx := Lib.hid (htl.trans hm)
  clear htl hJ hn
  clear hm hA
  have hIy := hA2.take 100
  have htl : (L2.take 100).length = min L2.length 100 := by rw [List.length_take]; omega
  obtain ⟨Xy, hJ⟩ : ∃ J, L2.take 100 = J := ⟨_, rfl⟩
  rw [hJ] at hIy htl
  obtain ⟨ny, hn⟩ : ∃ n, L2.length = n := ⟨_, rfl⟩
  rw [hn] at htl hlc2 ⊢
  obtain ⟨my, hm⟩ : ∃ m, min ny 100 = m := ⟨_, rfl⟩
  have hley : my ≤ 100 := by omega
  have HMiny := Lib.hid hm
  have HMy := Lib.hid (htl.trans hm)
  clear htl hJ hn
  clear hm hA2
  obtain ⟨⟨l_a, e_a⟩, ht_a⟩ : ∃ t, capX (ofX Xx) = t := ⟨_, rfl⟩
  obtain ⟨N_a, hN_a⟩ : ∃ N, l_a.length = N := ⟨_, rfl⟩
  have hb_a : N_a ≤ 64 := by have h := capX_le (ofX Xx); rw [ht_a] at h; rw [← hN_a]; exact h
  have H_ht_a := Lib.hid ht_a
  clear ht_a
  have H_hN_a := Lib.hid hN_a
  clear hN_a
  obtain ⟨⟨l_b, e_b⟩, ht_b⟩ : ∃ t, capX (ofX Xy) = t := ⟨_, rfl⟩
  obtain ⟨N_b, hN_b⟩ : ∃ N, l_b.length = N := ⟨_, rfl⟩
  have hb_b : N_b ≤ 64 := by have h := capX_le (ofX Xy); rw [ht_b] at h; rw [← hN_b]; exact h
  have H_ht_b := Lib.hid ht_b
  clear ht_b
  have H_hN_b := Lib.hid hN_b
  clear hN_b
  have hcell : ∀ j, j < mx → ∃ b o, A = some ⟨b, o, none⟩ ∧ b < w.heap.size ∧ w.cell? ⟨b, o + j, none⟩ = some (.int .u64 (U (nth Xx j))) := fun j hj => by
    obtain ⟨b, o, e, hb, hc⟩ := hIx (by rw [HMx.out]; omega)
    exact ⟨b, o, e, hb, hc j (by rw [HMx.out]; exact hj)⟩
  have HCell := Lib.hid hcell
  clear hcell
  have hmx : mx ≤ nx := by have := HMinx.out; omega
  have hmx2 : ∀ j, j < nx → j < 100 → j < mx := fun j h1 h2 => by have := HMinx.out; omega
  have hmx3 : mx = nx ∨ mx = 100 := by have := HMinx.out; omega
  have HMx2 := Lib.hid hmx2
  have HMx3 := Lib.hid hmx3
  clear hmx2 hmx3
  go_enter Try.func4, Try.ntmps4
  have hB : Below w.heap.size w w := Below.refl _ w
  go_wp2_with fail
  refine (shown_any _).mono ?_
  rintro e u1 ⟨rfl, hC⟩
  replace hB := hB.trans (hC.mono hB.size)
  clear hC
  go_wp2_with fail
  refine (few_any A nx c mx HMinx.out hlc _).mono ?_
  rintro e wx ⟨rfl, rfl⟩
  go_wp2_with fail
  refine (Of_at A c Xx mx H_ht_a.out rfl H_hN_a.out HMx.out (by omega) _ (hIx.later hB)).mono ?_
  rintro e u3 ⟨hC, A_a, c_a, rfl, a_a⟩
  replace hB := hB.trans (hC.mono hB.size)
  clear hC
  go_wp2_with fail
  have hA : Below u3.heap.size u3 (u3.alloc (.cells #[.slice A_a N_a c_a] 24)) := (Below.refl _ u3).alloc (Nat.le_refl _) _
  replace a_a := a_a.later hA
  replace hB := hB.trans (hA.mono hB.size)
  have k_a := new_at u3 (.cells #[.slice A_a N_a c_a] 24) _ rfl
  obtain ⟨b_a, hb⟩ : ∃ b, u3.heap.size = b := ⟨_, rfl⟩
  rw [hb] at k_a ⊢
  clear hA hb
  generalize u3.alloc (.cells #[.slice A_a N_a c_a] 24) = u4 at *
  clear u3
  refine (few_any A2 ny c2 my HMiny.out hlc2 _).mono ?_
  rintro e wy ⟨rfl, rfl⟩
  go_wp2_with fail
  refine (Of_at A2 c2 Xy my H_ht_b.out rfl H_hN_b.out HMy.out (by omega) _ (hIy.later hB)).mono ?_
  rintro e u6 ⟨hC, A_b, c_b, rfl, a_b⟩
  replace a_a := a_a.later hC
  replace k_a := keep k_a hC
  replace hB := hB.trans (hC.mono hB.size)
  clear hC
  have hcx := capX_cases Xx
  have hcy := capX_cases Xy
  rw [H_ht_a.out] at hcx
  rw [H_ht_b.out] at hcy
  rcases hcx with ⟨h1, hxl⟩ | h1
  · injection h1 with h1 h2
    subst h2
    rcases hcy with ⟨h3, hyl⟩ | h3
    · injection h3 with h3 h4
      subst h4
      subst h1
      subst h3
      obtain ⟨⟨l_z, e_z⟩, t_z⟩ : ∃ t, mergeX (ofX Xx) (ofX Xy) = t := ⟨_, rfl⟩
      obtain ⟨N_z, z_z⟩ : ∃ N, l_z.length = N := ⟨_, rfl⟩
      have hb_z : N_z ≤ 64 := by have h := mergeX_le (ofX Xx) (ofX Xy); rw [t_z] at h; rw [← z_z]; exact h
      have HXl := Lib.hid hxl
      have HYl := Lib.hid hyl
      clear hxl hyl
      have H_t_z := Lib.hid t_z
      clear t_z
      have H_z_z := Lib.hid z_z
      clear z_z
      go_wp2_with fail
      have hA : Below u6.heap.size u6 (u6.alloc (.cells #[.slice A_b N_b c_b] 24)) := (Below.refl _ u6).alloc (Nat.le_refl _) _
      replace a_a := a_a.later hA
      replace k_a := keep k_a hA
      replace a_b := a_b.later hA
      replace hB := hB.trans (hA.mono hB.size)
      have k_b := new_at u6 (.cells #[.slice A_b N_b c_b] 24) _ rfl
      obtain ⟨b_b, hb⟩ : ∃ b, u6.heap.size = b := ⟨_, rfl⟩
      rw [hb] at k_b ⊢
      clear hA hb
      generalize u6.alloc (.cells #[.slice A_b N_b c_b] 24) = u7 at *
      clear u6
      go_loop [12, 13] (fun bv iv => ∃ j : Nat, j ≤ mx ∧ iv = .int .i64 j ∧ bv = .bool (decide (x ∈ Xx.take j))) (fun _ iv => mx - (intOf iv).toNat)
      case atStart => exact ⟨0, Nat.zero_le _, rfl, rfl⟩
      case round =>
        obtain ⟨j, hj, rfl, rfl⟩ := hrel
        by_cases hjm : j < mx
        · have hjn : (j : Int) < (nx : Int) := by omega
          have hj100 : (j : Int) < 100 := by omega
          obtain ⟨b, o, rfl, hb, hc⟩ := HCell.out j hjm
          have y := (hB.cell (p := ⟨b, o + j, none⟩) hb).trans hc
          have hu := U_beq (nth Xx j) x
          have htk : decide (x ∈ Xx.take (j + 1)) = (decide (x ∈ Xx.take j) || (nth Xx j == x)) := by
            rw [take_snocU Xx j (by rw [HMx.out]; exact hjm), Bool.eq_iff_iff]
            simp only [decide_eq_true_iff, List.mem_append, List.mem_singleton, Bool.or_eq_true, beq_iff_eq]
            constructor
            · rintro (h | h)
              · exact .inl h
              · exact .inr h.symm
            · rintro (h | h)
              · exact .inl h
              · exact .inr h.symm
          obtain ⟨q, hq⟩ : ∃ q, decide (x ∈ Xx.take j) = q := ⟨_, rfl⟩
          obtain ⟨r, hr⟩ : ∃ r, (nth Xx j == x) = r := ⟨_, rfl⟩
          rw [hq, hr] at htk
          rw [hr] at hu
          rw [hq]
          have HTk := Lib.hid htk
          clear htk hq hr hc
          cases q <;> cases r
          all_goals
            go_wp2_with fail
            go_round
            case rel => exact ⟨j + 1, by omega, by go_num, by rw [HTk.out]; rfl⟩
            case measure => simp [intOf]; omega
        · have hjx : j = mx := by omega
          have htake : Xx.take j = Xx := List.take_of_length_le (by rw [HMx.out]; omega)
          rw [htake]
          clear htake
          have hex : (¬ (j : Int) < (nx : Int)) ∨ ((j : Int) < (nx : Int) ∧ ¬ (j : Int) < 100) := by
            have h1 := HMx3.out
            omega
          have HIn := Lib.hid (has_ofX Xx HXl.out x)
          have HIn2 := Lib.hid (has_ofX Xy HYl.out x)
          obtain ⟨qi, hqi⟩ : ∃ q, decide (x ∈ Xx) = q := ⟨_, rfl⟩
          obtain ⟨qj, hqj⟩ : ∃ q, decide (x ∈ Xy) = q := ⟨_, rfl⟩
          rw [hqi] at HIn ⊢
          rw [hqj] at HIn2
          have HQi := Lib.hid hqi
          have HQj := Lib.hid hqj
          have hzz := capX_cases (ofX Xx ++ ofX Xy)
          rw [← mergeX_right (rightX_ofX HXl.out) (rightX_ofX HYl.out), H_t_z.out] at hzz
          have HZZ := Lib.hid hzz
          clear hqi hqj hzz hjm
          rcases hex with hex | ⟨hex0, hex⟩
          all_goals
            have x_a_0 := cell_at k_a 0
            have x_b_0 := cell_at k_b 0
            go_wp2_with fail
            clear x_a_0 x_b_0
            refine (Merge_at _ _ c_a c_b (ofX Xx) (ofX Xy) N_a N_b H_t_z.out rfl H_z_z.out H_hN_a.out H_hN_b.out (by omega) (by omega) _ a_a a_b).mono ?_
            rintro e u8 ⟨hC, A_z, c_z, rfl, a_z⟩
            replace a_a := a_a.later hC
            replace k_a := keep k_a hC
            replace a_b := a_b.later hC
            replace k_b := keep k_b hC
            replace hB := hB.trans (hC.mono hB.size)
            clear hC
            have x_a_0 := old_cell (cell_at k_a 0)
            go_wp2_with fail
            clear x_a_0
            have hA : Below u8.heap.size u8 (u8.alloc (.cells #[.slice A_z N_z c_z] 24)) := (Below.refl _ u8).alloc (Nat.le_refl _) _
            replace a_a := a_a.later hA
            replace k_a := keep k_a hA
            replace a_b := a_b.later hA
            replace k_b := keep k_b hA
            replace a_z := a_z.later hA
            replace hB := hB.trans (hA.mono hB.size)
            have k_z := new_at u8 (.cells #[.slice A_z N_z c_z] 24) _ rfl
            obtain ⟨b_z, hb⟩ : ∃ b, u8.heap.size = b := ⟨_, rfl⟩
            rw [hb] at k_z ⊢
            clear hA hb
            generalize u8.alloc (.cells #[.slice A_z N_z c_z] 24) = u9 at *
            clear u8
            have hha := Has_any A_a c_a (ofX Xx) N_a H_hN_a.out (by omega) x u9 a_a
            rw [HIn.out] at hha
            refine (hha).mono ?_
            rintro e u10 ⟨rfl, hC⟩
            clear hha
            replace a_a := a_a.later hC
            replace k_a := keep k_a hC
            replace a_b := a_b.later hC
            replace k_b := keep k_b hC
            replace a_z := a_z.later hC
            replace k_z := keep k_z hC
            replace hB := hB.trans (hC.mono hB.size)
            clear hC
            rcases HZZ.out with ⟨h5, hzl⟩ | h5
            · injection h5 with h5 h6
              subst h6
              have HZl := Lib.hid hzl
              have hs := join_has Xx Xy hzl x
              rw [HQi.out, HQj.out] at hs
              obtain ⟨qo, hqo⟩ : ∃ q, (qi || qj) = q := ⟨_, rfl⟩
              rw [hqo] at hs
              have hcz := count_ofX _ hzl
              have hca := count_ofX _ HXl.out
              have hcb := count_ofX _ HYl.out
              have jle := join_le Xx Xy
              have jge := join_ge Xx Xy
              rw [← h5] at hs hcz jle jge
              rw [H_z_z.out] at hcz jle jge
              rw [H_hN_a.out] at hca jle jge
              rw [H_hN_b.out] at hcb jle jge
              obtain ⟨qm, hqm⟩ : ∃ q, max N_a N_b = q := ⟨_, rfl⟩
              have hmaxI : (if (N_a : Int) < (N_b : Int) then (N_b : Int) else (N_a : Int)) = (qm : Int) := by rw [U_max N_a N_b, hqm]
              have hd1 : (N_z : Int) ≤ (N_a : Int) + (N_b : Int) := by omega
              have hd2 : (qm : Int) ≤ (N_z : Int) := by omega
              have hd3 : N_a ≤ N_z := by omega
              have hd4 : N_b ≤ N_z := by omega
              clear hqm
              have HS := Lib.hid hs
              have HCz := Lib.hid hcz
              have HCa := Lib.hid hca
              have HCb := Lib.hid hcb
              clear hs hcz hca hcb hzl h5 jle jge
              have cz : ∀ w : World, At w w.heap.size A_z l_z → Calls Try.prog 20 #[.agg #[.slice A_z N_z c_z]] w fun e w' => e = .returned (.int .u64 (N_z : Nat)) ∧ Below w.heap.size w w' := fun w h => by have h2 := Count_any A_z c_z l_z N_z H_z_z.out (by omega) w h; rw [HCz.out] at h2; exact h2
              have ca : ∀ w : World, At w w.heap.size A_a (ofX Xx) → Calls Try.prog 20 #[.agg #[.slice A_a N_a c_a]] w fun e w' => e = .returned (.int .u64 (N_a : Nat)) ∧ Below w.heap.size w w' := fun w h => by have h2 := Count_any A_a c_a (ofX Xx) N_a H_hN_a.out (by omega) w h; rw [HCa.out] at h2; exact h2
              have cb : ∀ w : World, At w w.heap.size A_b (ofX Xy) → Calls Try.prog 20 #[.agg #[.slice A_b N_b c_b]] w fun e w' => e = .returned (.int .u64 (N_b : Nat)) ∧ Below w.heap.size w w' := fun w h => by have h2 := Count_any A_b c_b (ofX Xy) N_b H_hN_b.out (by omega) w h; rw [HCb.out] at h2; exact h2
              have hz : ∀ w : World, At w w.heap.size A_z l_z → Calls Try.prog 19 #[.agg #[.slice A_z N_z c_z], .int .u64 (U x)] w fun e w' => e = .returned (.bool qo) ∧ Below w.heap.size w w' := fun w h => by have h2 := Has_any A_z c_z l_z N_z H_z_z.out (by omega) x w h; rw [HS.out] at h2; exact h2
              have hbq : ∀ w : World, At w w.heap.size A_b (ofX Xy) → Calls Try.prog 19 #[.agg #[.slice A_b N_b c_b], .int .u64 (U x)] w fun e w' => e = .returned (.bool qj) ∧ Below w.heap.size w w' := fun w h => by have h2 := Has_any A_b c_b (ofX Xy) N_b H_hN_b.out (by omega) x w h; rw [HIn2.out] at h2; exact h2
              have Kcz := Lib.hid cz
              clear cz
              have Kca := Lib.hid ca
              clear ca
              have Kcb := Lib.hid cb
              clear cb
              have Khz := Lib.hid hz
              clear hz
              have Khbq := Lib.hid hbq
              clear hbq
              cases qi <;> cases qj <;> cases qo
              all_goals (try exact absurd hqo (by decide))
              all_goals
                go_wp2_with fail
                refine wp_region_later u10.heap.size (by kernel_rfl) (by kernel_rfl) ?_
                have l_z_0 : ∀ s : Later u10.heap.size u10, s.W.cell? ⟨b_z, 0, none⟩ = some _ := fun s => s.cell (cell_at k_z 0) (Array.getElem?_eq_some_iff.1 k_z).1
                have l_a_0 : ∀ s : Later u10.heap.size u10, s.W.cell? ⟨b_a, 0, none⟩ = some _ := fun s => s.cell (cell_at k_a 0) (Array.getElem?_eq_some_iff.1 k_a).1
                have l_b_0 : ∀ s : Later u10.heap.size u10, s.W.cell? ⟨b_b, 0, none⟩ = some _ := fun s => s.cell (cell_at k_b 0) (Array.getElem?_eq_some_iff.1 k_b).1
                repeat (go_big_quiet_step (first | (go_at_call 19; with_reducible exact Calls.later (Nat.le_refl _) (Khz.out _ (at_later a_z _))) | (go_at_call 19; with_reducible exact Calls.later (Nat.le_refl _) (Khbq.out _ (at_later a_b _))) | (go_at_call 20; with_reducible exact Calls.later (Nat.le_refl _) (Kcz.out _ (at_later a_z _))) | (go_at_call 20; with_reducible exact Calls.later (Nat.le_refl _) (Kca.out _ (at_later a_a _))) | (go_at_call 20; with_reducible exact Calls.later (Nat.le_refl _) (Kcb.out _ (at_later a_b _)))))
                refine wpQuiet_nil ?_
                rintro _ ⟨s, rfl⟩
                clear l_z_0 l_a_0 l_b_0
                have hC := s.below
                replace a_a := a_a.later hC
                replace k_a := keep k_a hC
                replace a_b := a_b.later hC
                replace k_b := keep k_b hC
                replace a_z := a_z.later hC
                replace k_z := keep k_z hC
                replace hB := hB.trans (hC.mono hB.size)
                clear hC
                go_wp2_with fail
                all_goals (go_ret; exact ⟨rfl, hB⟩)
            · injection h5 with h5 h6
              subst h6
              clear h5
              go_wp2_with fail
              refine wp_region_later u10.heap.size (by kernel_rfl) (by kernel_rfl) ?_
              have l_z_0 : ∀ s : Later u10.heap.size u10, s.W.cell? ⟨b_z, 0, none⟩ = some _ := fun s => s.cell (cell_at k_z 0) (Array.getElem?_eq_some_iff.1 k_z).1
              have l_a_0 : ∀ s : Later u10.heap.size u10, s.W.cell? ⟨b_a, 0, none⟩ = some _ := fun s => s.cell (cell_at k_a 0) (Array.getElem?_eq_some_iff.1 k_a).1
              have l_b_0 : ∀ s : Later u10.heap.size u10, s.W.cell? ⟨b_b, 0, none⟩ = some _ := fun s => s.cell (cell_at k_b 0) (Array.getElem?_eq_some_iff.1 k_b).1
              repeat (go_big_quiet_step (fail))
              refine wpQuiet_nil ?_
              rintro _ ⟨s, rfl⟩
              clear l_z_0 l_a_0 l_b_0
              have hC := s.below
              replace hB := hB.trans (hC.mono hB.size)
              clear hC
              go_wp2_with fail
              go_ret
              exact ⟨rfl, hB⟩
    · injection h3 with h3 h4
      subst h4
      subst h1
      go_wp2_with fail
      go_ret
      exact ⟨rfl, hB.alloc hB.size _⟩
  · injection h1 with h1 h2
    subst h2
    go_wp2_with fail
    go_ret
    exact ⟨rfl, hB.alloc hB.size _⟩
end Go.Proofs.Ythnnbpmpaeddgaa
