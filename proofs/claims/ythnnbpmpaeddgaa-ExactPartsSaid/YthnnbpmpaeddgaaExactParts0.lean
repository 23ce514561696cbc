/-
  The walk of the statement on parts and orders.
-/
import Derived.Test.YthnnbpmpaeddgaaExactMakes0
import Derived.Test.YthnnbpmpaeddgaaExaL
import Derived.Deep.RegionHeld3
namespace Go.Proofs.Ythnnbpmpaeddgaa
open Go.RowKit Go.Shelf

theorem cell_kept {w w' : World} {p : Addr} {v : Value} (h : w.cell? p = some v) (hB : Below w.heap.size w w') : w'.cell? p = some v := by
  by_cases hp : p.block < w.heap.size
  · exact (hB.cell hp).trans h
  · exfalso
    simp [World.cell?, Array.getElem?_eq_none (Nat.le_of_not_lt hp)] at h
/-- What stands behind a piece of code that lays a block wherever it may is asked once, of all the ways through it. -/
theorem wp_join_f3 {α β γ : Type} {P : Program} {c : Code} {Q : Exit → Act → World → Prop} {a : Act} {w : World} (f : α → β → γ → Act) (Φ : α → β → γ → World → Prop) (h1 : c.wp P (fun e a' w' => e = .normal ∧ ∃ x y z, a' = f x y z ∧ Φ x y z w') a w) (h2 : ∀ x y z w', Φ x y z w' → Q .normal (f x y z) w') : c.wp P Q a w :=
  wp_mono h1 fun e a' w' ⟨he, x, y, z, ha, h⟩ => by subst he ha; exact h2 x y z w' h
set_option maxRecDepth 100000 in
set_option maxHeartbeats 4000000 in
theorem walk_ExactParts {w : World} (A : Option Addr) (c : Nat) (L : L64) (hlc : L.length ≤ c) (hA : At w w.heap.size A L) (at_ : Int) :
    Calls Try.prog 6 #[.slice A L.length c, .int .i64 at_] w fun e w' => e = .returned (.bool true) ∧ Below w.heap.size w w' := by
  have hIx := hA.take 100
  have htl : (L.take 100).length = min L.length 100 := by rw [List.length_take]; omega
  obtain ⟨Xx, hJ⟩ : ∃ J, L.take 100 = J := ⟨_, rfl⟩
  rw [hJ] at hIx htl
  obtain ⟨nx, hn⟩ : ∃ n, L.length = n := ⟨_, rfl⟩
  rw [hn] at htl hlc ⊢
  obtain ⟨mx, hm⟩ : ∃ m, min nx 100 = m := ⟨_, rfl⟩
  have hlex : mx ≤ 100 := by omega
  have HMinx := Lib.hid hm
  have HMx := Lib.hid (htl.trans hm)
  clear htl hJ hn
  clear hm hA
  have hmc : mx ≤ c := by have := HMinx.out; omega
  obtain ⟨z, hmin⟩ : ∃ z : Int, (if (mx : Int) < at_ then (mx : Int) else at_) = z := ⟨_, rfl⟩
  obtain ⟨p, hmax⟩ : ∃ p : Nat, (if 0 < z then z else 0) = (p : Int) := ⟨z.toNat, by split <;> omega⟩
  have hpm : p ≤ mx := by split at hmax <;> split at hmin <;> omega
  have hpc : p ≤ c := by omega
  have hcut := fun w => run_cut A mx c p hpm w
  have hIb := hIx.cut (c := c) (p := p) (by rw [HMx.out]; exact hmc)
  obtain ⟨A2, hA2⟩ : ∃ A2, cutA A c p = A2 := ⟨_, rfl⟩
  rw [hA2] at hIb
  simp only [hA2] at hcut
  clear hA2
  have hIa := hIx.take p
  have hJ1 : (Xx.take p).length = p := by rw [List.length_take, HMx.out]; omega
  have hJ2 : (Xx.drop p).length = mx - p := by rw [List.length_drop, HMx.out]
  have HJ1 := Lib.hid hJ1
  have HJ2 := Lib.hid hJ2
  clear hJ1 hJ2
  obtain ⟨⟨l_o, e_o⟩, ht_o⟩ : ∃ t, capX (ofX Xx) = t := ⟨_, rfl⟩
  obtain ⟨N_o, hN_o⟩ : ∃ N, l_o.length = N := ⟨_, rfl⟩
  have hb_o : N_o ≤ 64 := by have h := capX_le (ofX Xx); rw [ht_o] at h; rw [← hN_o]; exact h
  have H_ht_o := Lib.hid ht_o
  clear ht_o
  have H_hN_o := Lib.hid hN_o
  clear hN_o
  obtain ⟨⟨l_x, e_x⟩, ht_x⟩ : ∃ t, capX (ofX (Xx.take p)) = t := ⟨_, rfl⟩
  obtain ⟨N_x, hN_x⟩ : ∃ N, l_x.length = N := ⟨_, rfl⟩
  have hb_x : N_x ≤ 64 := by have h := capX_le (ofX (Xx.take p)); rw [ht_x] at h; rw [← hN_x]; exact h
  have H_ht_x := Lib.hid ht_x
  clear ht_x
  have H_hN_x := Lib.hid hN_x
  clear hN_x
  obtain ⟨⟨l_y, e_y⟩, ht_y⟩ : ∃ t, capX (ofX (Xx.drop p)) = t := ⟨_, rfl⟩
  obtain ⟨N_y, hN_y⟩ : ∃ N, l_y.length = N := ⟨_, rfl⟩
  have hb_y : N_y ≤ 64 := by have h := capX_le (ofX (Xx.drop p)); rw [ht_y] at h; rw [← hN_y]; exact h
  have H_ht_y := Lib.hid ht_y
  clear ht_y
  have H_hN_y := Lib.hid hN_y
  clear hN_y
  have hru : e_o = 60 ∨ (e_o = 0 ∧ e_x = 0 ∧ e_y = 0 ∧ (ofX Xx).length ≤ 64 ∧ l_o = ofX Xx ∧ mergeX l_x l_y = ⟨l_o, 0⟩ ∧ mergeX l_y l_x = ⟨l_o, 0⟩) := by
    have ho := H_ht_o.out
    have hx := H_ht_x.out
    have hy := H_ht_y.out
    have hp := part_le Xx p
    have j1 := part_join Xx p
    have j2 := part_join2 Xx p
    rcases capX_cases Xx with ⟨h1, h64⟩ | h1
    · rw [h1] at ho
      rw [capX_ok (by omega)] at hx hy
      injection ho with o1 o2
      injection hx with x1 x2
      injection hy with y1 y2
      refine .inr ⟨o2.symm, x2.symm, y2.symm, h64, o1.symm, ?_, ?_⟩
      · rw [← x1, ← y1, ← o1, mergeX_right (rightX_ofX (by omega)) (rightX_ofX (by omega)), j1, capX_ok h64]
      · rw [← x1, ← y1, ← o1, mergeX_right (rightX_ofX (by omega)) (rightX_ofX (by omega)), j2, capX_ok h64]
    · rw [h1] at ho
      injection ho with _ h
      exact .inl h.symm
  have H_hru := Lib.hid hru
  clear hru
  go_enter Try.func6, Try.ntmps6
  have hB : Below w.heap.size w w := Below.refl _ w
  go_wp2_with fail
  refine (shown_any _).mono ?_
  rintro e u1 ⟨rfl, hC⟩
  replace hIx := hIx.later hC
  replace hIa := hIa.later hC
  replace hIb := hIb.later hC
  replace hB := hB.trans (hC.mono hB.size)
  clear hC
  go_wp2_with fail
  refine (few_any A nx c mx HMinx.out hlc _).mono ?_
  rintro e w9 ⟨rfl, rfl⟩
  go_wp2_with fail
  refine (Of_at A c Xx mx H_ht_o.out rfl H_hN_o.out HMx.out (by omega) _ hIx).mono ?_
  rintro e u3 ⟨hC, A_o, c_o, rfl, a_o⟩
  replace hIx := hIx.later hC
  replace hIa := hIa.later hC
  replace hIb := hIb.later hC
  replace hB := hB.trans (hC.mono hB.size)
  clear hC
  go_wp2_with fail
  have hA : Below u3.heap.size u3 (u3.alloc (.cells #[.slice A_o N_o c_o] 24)) := (Below.refl _ u3).alloc (Nat.le_refl _) _
  replace hIx := hIx.later hA
  replace hIa := hIa.later hA
  replace hIb := hIb.later hA
  replace a_o := a_o.later hA
  replace hB := hB.trans (hA.mono hB.size)
  have k_o := new_at u3 (.cells #[.slice A_o N_o c_o] 24) _ rfl
  obtain ⟨b_o, hb⟩ : ∃ b, u3.heap.size = b := ⟨_, rfl⟩
  rw [hb] at k_o ⊢
  clear hA hb
  generalize u3.alloc (.cells #[.slice A_o N_o c_o] 24) = u4 at *
  clear u3
  refine (Of_at A c (Xx.take p) p H_ht_x.out rfl H_hN_x.out HJ1.out (by omega) _ hIa).mono ?_
  rintro e u5 ⟨hC, A_x, c_x, rfl, a_x⟩
  replace hIx := hIx.later hC
  replace hIa := hIa.later hC
  replace hIb := hIb.later hC
  replace a_o := a_o.later hC
  replace k_o := keep k_o hC
  replace hB := hB.trans (hC.mono hB.size)
  clear hC
  go_wp2_with fail
  have hA : Below u5.heap.size u5 (u5.alloc (.cells #[.slice A_x N_x c_x] 24)) := (Below.refl _ u5).alloc (Nat.le_refl _) _
  replace hIx := hIx.later hA
  replace hIa := hIa.later hA
  replace hIb := hIb.later hA
  replace a_o := a_o.later hA
  replace k_o := keep k_o hA
  replace a_x := a_x.later hA
  replace hB := hB.trans (hA.mono hB.size)
  have k_x := new_at u5 (.cells #[.slice A_x N_x c_x] 24) _ rfl
  obtain ⟨b_x, hb⟩ : ∃ b, u5.heap.size = b := ⟨_, rfl⟩
  rw [hb] at k_x ⊢
  clear hA hb
  generalize u5.alloc (.cells #[.slice A_x N_x c_x] 24) = u6 at *
  clear u5
  refine (Of_at A2 (c - p) (Xx.drop p) (mx - p) H_ht_y.out rfl H_hN_y.out HJ2.out (by omega) _ hIb).mono ?_
  rintro e u7 ⟨hC, A_y, c_y, rfl, a_y⟩
  replace hIx := hIx.later hC
  replace hIa := hIa.later hC
  replace hIb := hIb.later hC
  replace a_o := a_o.later hC
  replace k_o := keep k_o hC
  replace a_x := a_x.later hC
  replace k_x := keep k_x hC
  replace hB := hB.trans (hC.mono hB.size)
  clear hC
  clear hIa hIb
  rcases H_hru.out with rfl | ⟨rfl, rfl, rfl, h64, hlo, t_a, t_b⟩
  · go_wp2_with fail
    go_ret
    exact ⟨rfl, hB.alloc hB.size _⟩
  · have H_h64 := Lib.hid h64
    clear h64
    have H_hlo := Lib.hid hlo
    clear hlo
    have H_t_a := Lib.hid t_a
    clear t_a
    have H_t_b := Lib.hid t_b
    clear t_b
    have x_x_0 := old_cell (cell_at k_x 0)
    go_wp2_with fail
    clear x_x_0
    have hA : Below u7.heap.size u7 (u7.alloc (.cells #[.slice A_y N_y c_y] 24)) := (Below.refl _ u7).alloc (Nat.le_refl _) _
    replace hIx := hIx.later hA
    replace a_o := a_o.later hA
    replace k_o := keep k_o hA
    replace a_x := a_x.later hA
    replace k_x := keep k_x hA
    replace a_y := a_y.later hA
    replace hB := hB.trans (hA.mono hB.size)
    have k_y := new_at u7 (.cells #[.slice A_y N_y c_y] 24) _ rfl
    obtain ⟨b_y, hb⟩ : ∃ b, u7.heap.size = b := ⟨_, rfl⟩
    rw [hb] at k_y ⊢
    clear hA hb
    generalize u7.alloc (.cells #[.slice A_y N_y c_y] 24) = u8 at *
    clear u7
    refine (Merge_at A_x A_y c_x c_y l_x l_y N_x N_y H_t_a.out rfl H_hN_o.out H_hN_x.out H_hN_y.out (by omega) (by omega) _ a_x a_y).mono ?_
    rintro e u9 ⟨hC, A_a, c_a, rfl, a_a⟩
    replace hIx := hIx.later hC
    replace a_o := a_o.later hC
    replace k_o := keep k_o hC
    replace a_x := a_x.later hC
    replace k_x := keep k_x hC
    replace a_y := a_y.later hC
    replace k_y := keep k_y hC
    replace hB := hB.trans (hC.mono hB.size)
    clear hC
    have x_x_0 := old_cell (cell_at k_x 0)
    have x_y_0 := old_cell (cell_at k_y 0)
    go_wp2_with fail
    clear x_x_0 x_y_0
    have hA : Below u9.heap.size u9 (u9.alloc (.cells #[.slice A_a N_o c_a] 24)) := (Below.refl _ u9).alloc (Nat.le_refl _) _
    replace hIx := hIx.later hA
    replace a_o := a_o.later hA
    replace k_o := keep k_o hA
    replace a_x := a_x.later hA
    replace k_x := keep k_x hA
    replace a_y := a_y.later hA
    replace k_y := keep k_y hA
    replace a_a := a_a.later hA
    replace hB := hB.trans (hA.mono hB.size)
    have k_a := new_at u9 (.cells #[.slice A_a N_o c_a] 24) _ rfl
    obtain ⟨b_a, hb⟩ : ∃ b, u9.heap.size = b := ⟨_, rfl⟩
    rw [hb] at k_a ⊢
    clear hA hb
    generalize u9.alloc (.cells #[.slice A_a N_o c_a] 24) = u10 at *
    clear u9
    refine (Merge_at A_y A_x c_y c_x l_y l_x N_y N_x H_t_b.out rfl H_hN_o.out H_hN_y.out H_hN_x.out (by omega) (by omega) _ a_y a_x).mono ?_
    rintro e u11 ⟨hC, A_b, c_b, rfl, a_b⟩
    replace hIx := hIx.later hC
    replace a_o := a_o.later hC
    replace k_o := keep k_o hC
    replace a_x := a_x.later hC
    replace k_x := keep k_x hC
    replace a_y := a_y.later hC
    replace k_y := keep k_y hC
    replace a_a := a_a.later hC
    replace k_a := keep k_a hC
    replace hB := hB.trans (hC.mono hB.size)
    clear hC
    go_wp2_with fail
    have hA : Below u11.heap.size u11 (u11.alloc (.cells #[.slice A_b N_o c_b] 24)) := (Below.refl _ u11).alloc (Nat.le_refl _) _
    replace hIx := hIx.later hA
    replace a_o := a_o.later hA
    replace k_o := keep k_o hA
    replace a_x := a_x.later hA
    replace k_x := keep k_x hA
    replace a_y := a_y.later hA
    replace k_y := keep k_y hA
    replace a_a := a_a.later hA
    replace k_a := keep k_a hA
    replace a_b := a_b.later hA
    replace hB := hB.trans (hA.mono hB.size)
    have k_b := new_at u11 (.cells #[.slice A_b N_o c_b] 24) _ rfl
    obtain ⟨b_b, hb⟩ : ∃ b, u11.heap.size = b := ⟨_, rfl⟩
    rw [hb] at k_b ⊢
    have hsz : (u11.alloc (.cells #[.slice A_b N_o c_b] 24)).heap.size = b_b + 1 := by rw [← hb]; simp
    clear hA hb
    generalize u11.alloc (.cells #[.slice A_b N_o c_b] 24) = u12 at *
    clear u11
    obtain ⟨b_z, hbz⟩ : ∃ b, b_b + 1 = b := ⟨_, rfl⟩
    rw [hbz] at hsz ⊢
    clear hbz
    go_loopw [17] (fun iv wr => ∃ (z : Int) (A5 : Option Addr) (N5 c5 : Nat), iv = .int .i64 z ∧ -1 ≤ z ∧ z < (mx : Int) ∧ Below u12.heap.size u12 wr ∧ wr.heap[b_z]? = some (.cells #[.slice A5 N5 c5] 24 (0, 0)) ∧ (ofX (Xx.drop (z + 1).toNat)).length = N5 ∧ At wr wr.heap.size A5 (ofX (Xx.drop (z + 1).toNat))) (fun iv _ => (intOf iv + 1).toNat)
    case atStart =>
      have e : Xx.drop ((mx : Int) - 1 + 1).toNat = [] := by
        have h := HMx.out
        rw [List.drop_of_length_le (by omega)]
      refine ⟨_, none, 0, 0, rfl, by omega, by omega, (Below.refl _ u12).alloc (Nat.le_refl _) _, new_at u12 _ _ hsz.symm, ?_, ?_⟩
      · rw [e]; rfl
      · rw [e]; exact At.nil
    case round =>
      obtain ⟨z, A5, N5, c5, rfl, hz1, hz2, hL, kz, hN5, hA5⟩ := hrel
      obtain ⟨wo, rfl⟩ : ∃ wo : World, wo = wr := ⟨_, rfl⟩
      have hzl := (Array.getElem?_eq_some_iff.1 kz).1
      by_cases hz0 : 0 ≤ z
      · obtain ⟨j, rfl⟩ := Int.eq_ofNat_of_zero_le hz0
        have hjm : j < mx := by omega
        have e1 : ((j : Int) + 1).toNat = j + 1 := by omega
        rw [e1] at hN5 hA5
        have hj1 : j < Xx.length := by rw [HMx.out]; exact hjm
        obtain ⟨b, o, rfl, hb, hc⟩ := (hIx.later hL) (by omega)
        have y0 := hc j hj1
        have hadd := drop_add hj1 H_h64.out
        have hd1 := drop_le Xx (j + 1)
        have hd0 := drop_le Xx j
        have h64 := H_h64.out
        rw [hN5] at hd1
        obtain ⟨N6, hN6⟩ : ∃ N, (ofX (Xx.drop j)).length = N := ⟨_, rfl⟩
        have hb5 : N5 ≤ 64 := by omega
        obtain ⟨y, hy⟩ : ∃ y, nth Xx j = y := ⟨_, rfl⟩
        rw [hy] at y0 hadd
        have HN5 := Lib.hid hN5
        have HN6 := Lib.hid hN6
        have HAdd := Lib.hid hadd
        clear hN5 hN6 hadd hd1 hd0 h64 hy hc hj1 e1
        have z0 := cell_at kz 0
        go_wp2_with fail
        have hch : ∀ W : World, W.cell? ⟨b_z, 0, none⟩ = some (.slice A5 N5 c5) ∧ W.cell? ⟨b, o + j, none⟩ = some (.int .u64 (U y)) → At W W.heap.size A5 (ofX (Xx.drop (j + 1))) → Calls Try.prog 12 #[.agg #[.slice A5 N5 c5], .int .u64 (U y)] W fun e W' => ∃ (A6 : Option Addr) (c6 : Nat), e = .returned (.tuple #[.agg #[.slice A6 N6 c6], .int .i64 0]) ∧ Below W.heap.size W W' ∧ OwnL W' W.heap.size (.slice A6 N6 c6) (ofX (Xx.drop j)) ∧ W'.cell? ⟨b_z, 0, none⟩ = some (.slice A5 N5 c5) ∧ W'.cell? ⟨b, o + j, none⟩ = some (.int .u64 (U y)) := by
          rintro W ⟨k0, k1⟩ hat
          refine (Add_gives A5 c5 (ofX (Xx.drop (j + 1))) N5 HN5.out (by omega) y W hat).mono ?_
          rw [HAdd.out]
          rintro e W' ⟨hb3, A6, c6, rfl, ho⟩
          change OwnL W' W.heap.size (.slice A6 (ofX (Xx.drop j)).length c6) (ofX (Xx.drop j)) at ho
          rw [HN6.out] at ho
          refine ⟨A6, c6, ?_, hb3, ho, cell_kept k0 hb3, cell_kept k1 hb3⟩
          rw [← HN6.out]
        have Hch := Lib.hid hch
        have HA5 := Lib.hid hA5
        clear hch hA5
        have hne1 := World.new_ne wo _ z0
        have hne2 := World.new_ne wo _ y0
        refine wp_join_f3 ?f1 (fun (B : Nat) (A6 : Option Addr) (c6 : Nat) W => Below wo.heap.size wo W ∧ wo.heap.size ≤ B ∧ W.heap[B]? = some (.cells #[.slice A6 N6 c6] 24 (0, 0)) ∧ Hid (∀ W' : World, (∀ k, k ≠ b_z → W'.heap[k]? = W.heap[k]?) → OwnL W' wo.heap.size (.slice A6 N6 c6) (ofX (Xx.drop j)))) ?h1 ?k1
        case h1 =>
          go_region_held3 (fun W => W.cell? ⟨b_z, 0, none⟩ = some (.slice A5 N5 c5) ∧ W.cell? ⟨b, o + j, none⟩ = some (.int .u64 (U y))) (go_keep) (first
            | (go_at_call 12; refine (Hch.out _ ?_ ?_).mono ?_; assumption; (first | exact HA5.out.later (Below.refl _ wo).drew | exact HA5.out.later ((Below.refl _ wo).alloc (Nat.le_refl _) _).drew); rintro e W ⟨A6, c6, rfl, hBC, ho, k0, k1⟩; have HO := Lib.hid ho; clear ho; have hne := World.new_ne W _ k0; have hneb := World.new_ne W _ k1; try (have q := (hBC.block wo.heap.size (by simp)).trans (new_at wo _ _ rfl); have q0 := cell_at q 0; have q9 := free_at q 0; clear q)))
          · refine ⟨rfl, W.heap.size, A6, c6, ?_, ((Below.refl _ wo).drew.trans (hBC.mono (Nat.le_refl _))).alloc hBC.size _, hBC.size, new_at _ _ _ rfl, Lib.hid (fun W' hW => HO.out.of (fun k hk hk2 => (hW k (by have h9 : wo.heap.size ≤ k := hk; omega)).trans (Below.heap_alloc _ _ _ hk2)))⟩
            generalize W.heap.size = B
            rfl
          · have zq := (hBC.block wo.heap.size (by simp)).trans (new_at wo _ _ rfl)
            have hPq := (Put.refl zq).set 0 (.slice A6 N6 c6)
            have hsW := hBC.size
            have hsW2 : wo.heap.size < W.heap.size := by simp at hsW; omega
            refine ⟨rfl, wo.heap.size, A6, c6, rfl, (((Below.refl _ wo).alloc (Nat.le_refl _) _).drew.trans (hBC.mono (by simp))).setCell (Nat.le_refl _) _, Nat.le_refl _, hPq.get hsW2, Lib.hid (fun W' hW => OwnL.mono (by simp) (HO.out.of (fun k hk hk2 => ?_)))⟩
            have hk9 : wo.heap.size + 1 ≤ k := by simpa using hk
            exact (hW k (by omega)).trans (hPq.other (by omega))
        case k1 =>
          rintro b_n A6 c6 w5 ⟨hB5, hbn, q1, HO5⟩
          have q2 := keep kz hB5
          have hne5 : b_z ≠ b_n := by omega
          have c1 := cell_at q1 0
          have c2 := cell_at q2 0
          have f2 := free_at q2 0
          have hP2 := (Put.refl q2).set 0 (.slice A6 N6 c6)
          have HP2 := Lib.hid hP2
          clear hP2
          go_wp2_with fail
          go_roundw
          case rel =>
            have e : ((j : Int) - 1 + 1).toNat = j := by omega
            have hus := hL.size
            refine ⟨_, A6, N6, c6, rfl, by omega, by omega, (hL.trans (hB5.mono hus)).trans (HP2.out.below (by omega)), HP2.out.get (Array.getElem?_eq_some_iff.1 q2).1, ?_, ?_⟩
            · rw [e]; exact HN6.out
            · rw [e]; exact (HO5.out _ (fun k hk => HP2.out.other hk)).at2
          case measure => simp [intOf]
      · obtain rfl : z = -1 := by omega
        have e1 : ((-1 : Int) + 1).toNat = 0 := rfl
        rw [e1, List.drop_zero, ← H_hlo.out] at hN5 hA5
        rw [H_hN_o.out] at hN5
        subst hN5
        have hC := hL
        clear hL e1
        replace hIx := hIx.later hC
        replace a_o := a_o.later hC
        replace k_o := keep k_o hC
        replace a_x := a_x.later hC
        replace k_x := keep k_x hC
        replace a_y := a_y.later hC
        replace k_y := keep k_y hC
        replace a_a := a_a.later hC
        replace k_a := keep k_a hC
        replace a_b := a_b.later hC
        replace k_b := keep k_b hC
        replace hB := hB.trans (hC.mono hB.size)
        clear hC
        have a_z := hA5
        have k_z := kz
        clear hA5 kz hsz
        have x_a_0 := cell_at k_a 0
        have x_o_0 := cell_at k_o 0
        go_wp2_with fail
        clear x_a_0 x_o_0
        refine (same_self _ _ c_a c_o l_o N_o H_hN_o.out (by omega) _ a_a a_o).mono ?_
        rintro e u13 ⟨rfl, hC⟩
        replace hIx := hIx.later hC
        replace a_o := a_o.later hC
        replace k_o := keep k_o hC
        replace a_x := a_x.later hC
        replace k_x := keep k_x hC
        replace a_y := a_y.later hC
        replace k_y := keep k_y hC
        replace a_a := a_a.later hC
        replace k_a := keep k_a hC
        replace a_b := a_b.later hC
        replace k_b := keep k_b hC
        replace a_z := a_z.later hC
        replace k_z := keep k_z hC
        replace hB := hB.trans (hC.mono hB.size)
        clear hC
        have x_b_0 := cell_at k_b 0
        have x_o_0 := cell_at k_o 0
        go_wp2_with fail
        clear x_b_0 x_o_0
        refine (same_self _ _ c_b c_o l_o N_o H_hN_o.out (by omega) _ a_b a_o).mono ?_
        rintro e u14 ⟨rfl, hC⟩
        replace hIx := hIx.later hC
        replace a_o := a_o.later hC
        replace k_o := keep k_o hC
        replace a_x := a_x.later hC
        replace k_x := keep k_x hC
        replace a_y := a_y.later hC
        replace k_y := keep k_y hC
        replace a_a := a_a.later hC
        replace k_a := keep k_a hC
        replace a_b := a_b.later hC
        replace k_b := keep k_b hC
        replace a_z := a_z.later hC
        replace k_z := keep k_z hC
        replace hB := hB.trans (hC.mono hB.size)
        clear hC
        have x_z_0 := cell_at k_z 0
        have x_o_0 := cell_at k_o 0
        go_wp2_with fail
        clear x_z_0 x_o_0
        refine (same_self _ _ c5 c_o l_o N_o H_hN_o.out (by omega) _ a_z a_o).mono ?_
        rintro e u15 ⟨rfl, hC⟩
        replace hIx := hIx.later hC
        replace a_o := a_o.later hC
        replace k_o := keep k_o hC
        replace a_x := a_x.later hC
        replace k_x := keep k_x hC
        replace a_y := a_y.later hC
        replace k_y := keep k_y hC
        replace a_a := a_a.later hC
        replace k_a := keep k_a hC
        replace a_b := a_b.later hC
        replace k_b := keep k_b hC
        replace a_z := a_z.later hC
        replace k_z := keep k_z hC
        replace hB := hB.trans (hC.mono hB.size)
        clear hC
        go_wp2_with fail
        go_ret
        exact ⟨rfl, hB⟩
end Go.Proofs.Ythnnbpmpaeddgaa
