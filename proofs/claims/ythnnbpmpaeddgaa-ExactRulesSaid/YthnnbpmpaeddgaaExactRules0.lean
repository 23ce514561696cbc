/-
  The walk of the statement on three sketches.
-/
import Derived.Test.YthnnbpmpaeddgaaExaL
namespace Go.Proofs.Ythnnbpmpaeddgaa
open Go.RowKit Go.Shelf

set_option maxRecDepth 100000 in
set_option maxHeartbeats 4000000 in
theorem walk_ExactRules {w : World} (A : Option Addr) (c : Nat) (L : L64) (hlc : L.length ≤ c) (hA : At w w.heap.size A L) (A2 : Option Addr) (c2 : Nat) (L2 : L64) (hlc2 : L2.length ≤ c2) (hA2 : At w w.heap.size A2 L2) (A3 : Option Addr) (c3 : Nat) (L3 : L64) (hlc3 : L3.length ≤ c3) (hA3 : At w w.heap.size A3 L3) :
    Calls Try.prog 9 #[.slice A L.length c, .slice A2 L2.length c2, .slice A3 L3.length c3] w fun e w' => e = .returned (.bool true) ∧ Below w.heap.size w w' := by
  have hIx := hA.take 40
  have htl : (L.take 40).length = min L.length 40 := by rw [List.length_take]; omega
  obtain ⟨Xx, hJ⟩ : ∃ J, L.take 40 = J := ⟨_, rfl⟩
  rw [hJ] at hIx htl
  obtain ⟨nx, hn⟩ : ∃ n, L.length = n := ⟨_, rfl⟩
  rw [hn] at htl hlc ⊢
  obtain ⟨mx, hm⟩ : ∃ m, min nx 40 = m := ⟨_, rfl⟩
  have hlex : mx ≤ 40 := by omega
  have HMinx := Lib.hid hm
  have HMx := Lib.hid (htl.trans hm)
  clear htl hJ hn
  have hmix : (if 40 < (nx : Int) then (40 : Int) else (nx : Int)) = (mx : Int) := by split <;> omega
  have hmcx : mx ≤ c := by omega
  clear hm hA
  have hIy := hA2.take 40
  have htl : (L2.take 40).length = min L2.length 40 := by rw [List.length_take]; omega
  obtain ⟨Xy, hJ⟩ : ∃ J, L2.take 40 = J := ⟨_, rfl⟩
  rw [hJ] at hIy htl
  obtain ⟨ny, hn⟩ : ∃ n, L2.length = n := ⟨_, rfl⟩
  rw [hn] at htl hlc2 ⊢
  obtain ⟨my, hm⟩ : ∃ m, min ny 40 = m := ⟨_, rfl⟩
  have hley : my ≤ 40 := by omega
  have HMiny := Lib.hid hm
  have HMy := Lib.hid (htl.trans hm)
  clear htl hJ hn
  have hmiy : (if 40 < (ny : Int) then (40 : Int) else (ny : Int)) = (my : Int) := by split <;> omega
  have hmcy : my ≤ c2 := by omega
  clear hm hA2
  have hIz := hA3.take 40
  have htl : (L3.take 40).length = min L3.length 40 := by rw [List.length_take]; omega
  obtain ⟨Xz, hJ⟩ : ∃ J, L3.take 40 = J := ⟨_, rfl⟩
  rw [hJ] at hIz htl
  obtain ⟨nz, hn⟩ : ∃ n, L3.length = n := ⟨_, rfl⟩
  rw [hn] at htl hlc3 ⊢
  obtain ⟨mz, hm⟩ : ∃ m, min nz 40 = m := ⟨_, rfl⟩
  have hlez : mz ≤ 40 := by omega
  have HMinz := Lib.hid hm
  have HMz := Lib.hid (htl.trans hm)
  clear htl hJ hn
  have hmiz : (if 40 < (nz : Int) then (40 : Int) else (nz : Int)) = (mz : Int) := by split <;> omega
  have hmcz : mz ≤ c3 := by omega
  clear hm hA3
  have hxx : (ofX Xx).length ≤ 40 := Nat.le_trans (length_ofX_le _) (by rw [HMx.out]; exact hlex)
  have hrx := rightX_ofX (L := Xx) (by omega)
  have hcx := capX_ok (l := ofX Xx) (by omega)
  obtain ⟨Sx, e_Sx⟩ : ∃ S, ofX Xx = S := ⟨_, rfl⟩
  rw [e_Sx] at hxx hrx hcx
  obtain ⟨kx, e_kx⟩ : ∃ k, Sx.length = k := ⟨_, rfl⟩
  rw [e_kx] at hxx
  have htx : capX (ofX Xx) = ⟨Sx, 0⟩ := by rw [e_Sx, hcx]
  have hxy : (ofX Xy).length ≤ 40 := Nat.le_trans (length_ofX_le _) (by rw [HMy.out]; exact hley)
  have hry := rightX_ofX (L := Xy) (by omega)
  have hcy := capX_ok (l := ofX Xy) (by omega)
  obtain ⟨Sy, e_Sy⟩ : ∃ S, ofX Xy = S := ⟨_, rfl⟩
  rw [e_Sy] at hxy hry hcy
  obtain ⟨ky, e_ky⟩ : ∃ k, Sy.length = k := ⟨_, rfl⟩
  rw [e_ky] at hxy
  have hty : capX (ofX Xy) = ⟨Sy, 0⟩ := by rw [e_Sy, hcy]
  have hxz : (ofX Xz).length ≤ 40 := Nat.le_trans (length_ofX_le _) (by rw [HMz.out]; exact hlez)
  have hrz := rightX_ofX (L := Xz) (by omega)
  have hcz := capX_ok (l := ofX Xz) (by omega)
  obtain ⟨Sz, e_Sz⟩ : ∃ S, ofX Xz = S := ⟨_, rfl⟩
  rw [e_Sz] at hxz hrz hcz
  obtain ⟨kz, e_kz⟩ : ∃ k, Sz.length = k := ⟨_, rfl⟩
  rw [e_kz] at hxz
  have htz : capX (ofX Xz) = ⟨Sz, 0⟩ := by rw [e_Sz, hcz]
  obtain ⟨⟨l_a, e_a⟩, t_a⟩ : ∃ t, mergeX Sx Sy = t := ⟨_, rfl⟩
  obtain ⟨N_a, z_a⟩ : ∃ N, l_a.length = N := ⟨_, rfl⟩
  have hb_a : N_a ≤ 64 := by have h := mergeX_le Sx Sy; rw [t_a] at h; rw [← z_a]; exact h
  obtain ⟨⟨l_b, e_b⟩, t_b⟩ : ∃ t, mergeX l_a Sz = t := ⟨_, rfl⟩
  obtain ⟨N_b, z_b⟩ : ∃ N, l_b.length = N := ⟨_, rfl⟩
  have hb_b : N_b ≤ 64 := by have h := mergeX_le l_a Sz; rw [t_b] at h; rw [← z_b]; exact h
  obtain ⟨⟨l_c, e_c⟩, t_c⟩ : ∃ t, mergeX Sy Sz = t := ⟨_, rfl⟩
  obtain ⟨N_c, z_c⟩ : ∃ N, l_c.length = N := ⟨_, rfl⟩
  have hb_c : N_c ≤ 64 := by have h := mergeX_le Sy Sz; rw [t_c] at h; rw [← z_c]; exact h
  obtain ⟨⟨l_d, e_d⟩, t_d⟩ : ∃ t, mergeX Sx l_c = t := ⟨_, rfl⟩
  obtain ⟨N_d, z_d⟩ : ∃ N, l_d.length = N := ⟨_, rfl⟩
  have hb_d : N_d ≤ 64 := by have h := mergeX_le Sx l_c; rw [t_d] at h; rw [← z_d]; exact h
  have hru : e_a = 60 ∨ (e_a = 0 ∧ e_b = 60) ∨ (e_a = 0 ∧ e_b = 0 ∧ e_c = 60) ∨ (e_a = 0 ∧ e_b = 0 ∧ e_c = 0 ∧ e_d = 0 ∧ l_b = l_d) := by
    have h := rules hrx hry hrz
    rw [t_a, t_c] at h
    rw [t_b, t_d] at h
    rcases h with h | h | h | ⟨h1, h2, h3, h4⟩
    · exact .inl h
    · exact .inr (.inl h)
    · exact .inr (.inr (.inl h))
    · injection h4 with h5 h6
      exact .inr (.inr (.inr ⟨h1, h2, h3, h6.trans h2, h5.symm⟩))
  have t_o := mergeX_self hrx
  clear hrx hry hrz hcx hcy hcz e_Sx e_Sy e_Sz
  have H_t_a := Lib.hid t_a
  clear t_a
  have H_t_b := Lib.hid t_b
  clear t_b
  have H_t_c := Lib.hid t_c
  clear t_c
  have H_t_d := Lib.hid t_d
  clear t_d
  have H_z_a := Lib.hid z_a
  clear z_a
  have H_z_b := Lib.hid z_b
  clear z_b
  have H_z_c := Lib.hid z_c
  clear z_c
  have H_z_d := Lib.hid z_d
  clear z_d
  have H_hru := Lib.hid hru
  clear hru
  have H_t_o := Lib.hid t_o
  clear t_o
  have H_htx := Lib.hid htx
  clear htx
  have H_hty := Lib.hid hty
  clear hty
  have H_htz := Lib.hid htz
  clear htz
  have H_e_kx := Lib.hid e_kx
  clear e_kx
  have H_e_ky := Lib.hid e_ky
  clear e_ky
  have H_e_kz := Lib.hid e_kz
  clear e_kz
  go_enter Try.func9, Try.ntmps9
  have hB : Below w.heap.size w w := Below.refl _ w
  go_wp2_with fail
  refine (shown_any _).mono ?_
  rintro e u1 ⟨rfl, hC⟩
  replace hB := hB.trans (hC.mono hB.size)
  clear hC
  go_wp2_with fail
  refine (Of_at A c Xx mx H_htx.out rfl H_e_kx.out HMx.out (by omega) _ (hIx.later hB)).mono ?_
  rintro e u2 ⟨hC, A_x, c_x, rfl, a_x⟩
  replace hB := hB.trans (hC.mono hB.size)
  clear hC
  go_wp2_with fail
  have hA : Below u2.heap.size u2 (u2.alloc (.cells #[.slice A_x kx c_x] 24)) := (Below.refl _ u2).alloc (Nat.le_refl _) _
  replace a_x := a_x.later hA
  replace hB := hB.trans (hA.mono hB.size)
  have k_x := new_at u2 (.cells #[.slice A_x kx c_x] 24) _ rfl
  obtain ⟨b_x, hb⟩ : ∃ b, u2.heap.size = b := ⟨_, rfl⟩
  rw [hb] at k_x ⊢
  clear hA hb
  generalize u2.alloc (.cells #[.slice A_x kx c_x] 24) = u3 at *
  clear u2
  refine (Of_at A2 c2 Xy my H_hty.out rfl H_e_ky.out HMy.out (by omega) _ (hIy.later hB)).mono ?_
  rintro e u4 ⟨hC, A_y, c_y, rfl, a_y⟩
  replace a_x := a_x.later hC
  replace k_x := keep k_x hC
  replace hB := hB.trans (hC.mono hB.size)
  clear hC
  go_wp2_with fail
  have hA : Below u4.heap.size u4 (u4.alloc (.cells #[.slice A_y ky c_y] 24)) := (Below.refl _ u4).alloc (Nat.le_refl _) _
  replace a_x := a_x.later hA
  replace k_x := keep k_x hA
  replace a_y := a_y.later hA
  replace hB := hB.trans (hA.mono hB.size)
  have k_y := new_at u4 (.cells #[.slice A_y ky c_y] 24) _ rfl
  obtain ⟨b_y, hb⟩ : ∃ b, u4.heap.size = b := ⟨_, rfl⟩
  rw [hb] at k_y ⊢
  clear hA hb
  generalize u4.alloc (.cells #[.slice A_y ky c_y] 24) = u5 at *
  clear u4
  refine (Of_at A3 c3 Xz mz H_htz.out rfl H_e_kz.out HMz.out (by omega) _ (hIz.later hB)).mono ?_
  rintro e u6 ⟨hC, A_z, c_z, rfl, a_z⟩
  replace a_x := a_x.later hC
  replace k_x := keep k_x hC
  replace a_y := a_y.later hC
  replace k_y := keep k_y hC
  replace hB := hB.trans (hC.mono hB.size)
  clear hC
  have x_x_0 := old_cell (cell_at k_x 0)
  have x_y_0 := old_cell (cell_at k_y 0)
  go_wp2_with fail
  clear x_x_0 x_y_0
  have hA : Below u6.heap.size u6 (u6.alloc (.cells #[.slice A_z kz c_z] 24)) := (Below.refl _ u6).alloc (Nat.le_refl _) _
  replace a_x := a_x.later hA
  replace k_x := keep k_x hA
  replace a_y := a_y.later hA
  replace k_y := keep k_y hA
  replace a_z := a_z.later hA
  replace hB := hB.trans (hA.mono hB.size)
  have k_z := new_at u6 (.cells #[.slice A_z kz c_z] 24) _ rfl
  obtain ⟨b_z, hb⟩ : ∃ b, u6.heap.size = b := ⟨_, rfl⟩
  rw [hb] at k_z ⊢
  clear hA hb
  generalize u6.alloc (.cells #[.slice A_z kz c_z] 24) = u7 at *
  clear u6
  refine (Merge_at _ _ c_x c_y Sx Sy kx ky H_t_a.out rfl H_z_a.out H_e_kx.out H_e_ky.out (by omega) (by omega) _ a_x a_y).mono ?_
  rintro e u8 ⟨hC, A_a, c_a, rfl, a_a⟩
  replace a_x := a_x.later hC
  replace k_x := keep k_x hC
  replace a_y := a_y.later hC
  replace k_y := keep k_y hC
  replace a_z := a_z.later hC
  replace k_z := keep k_z hC
  replace hB := hB.trans (hC.mono hB.size)
  clear hC
  have x_z_0 := old_cell (cell_at k_z 0)
  go_wp2_with fail
  clear x_z_0
  have hA : Below u8.heap.size u8 (u8.alloc (.cells #[.slice A_a N_a c_a] 24)) := (Below.refl _ u8).alloc (Nat.le_refl _) _
  replace a_x := a_x.later hA
  replace k_x := keep k_x hA
  replace a_y := a_y.later hA
  replace k_y := keep k_y hA
  replace a_z := a_z.later hA
  replace k_z := keep k_z hA
  replace a_a := a_a.later hA
  replace hB := hB.trans (hA.mono hB.size)
  have k_a := new_at u8 (.cells #[.slice A_a N_a c_a] 24) _ rfl
  obtain ⟨b_a, hb⟩ : ∃ b, u8.heap.size = b := ⟨_, rfl⟩
  rw [hb] at k_a ⊢
  clear hA hb
  generalize u8.alloc (.cells #[.slice A_a N_a c_a] 24) = u9 at *
  clear u8
  refine (Merge_at _ _ c_a c_z l_a Sz N_a kz H_t_b.out rfl H_z_b.out H_z_a.out H_e_kz.out (by omega) (by omega) _ a_a a_z).mono ?_
  rintro e u10 ⟨hC, A_b, c_b, rfl, a_b⟩
  replace a_x := a_x.later hC
  replace k_x := keep k_x hC
  replace a_y := a_y.later hC
  replace k_y := keep k_y hC
  replace a_z := a_z.later hC
  replace k_z := keep k_z hC
  replace a_a := a_a.later hC
  replace k_a := keep k_a hC
  replace hB := hB.trans (hC.mono hB.size)
  clear hC
  have x_y_0 := old_cell (cell_at k_y 0)
  have x_z_0 := old_cell (cell_at k_z 0)
  go_wp2_with fail
  clear x_y_0 x_z_0
  have hA : Below u10.heap.size u10 (u10.alloc (.cells #[.slice A_b N_b c_b] 24)) := (Below.refl _ u10).alloc (Nat.le_refl _) _
  replace a_x := a_x.later hA
  replace k_x := keep k_x hA
  replace a_y := a_y.later hA
  replace k_y := keep k_y hA
  replace a_z := a_z.later hA
  replace k_z := keep k_z hA
  replace a_a := a_a.later hA
  replace k_a := keep k_a hA
  replace a_b := a_b.later hA
  replace hB := hB.trans (hA.mono hB.size)
  have k_b := new_at u10 (.cells #[.slice A_b N_b c_b] 24) _ rfl
  obtain ⟨b_b, hb⟩ : ∃ b, u10.heap.size = b := ⟨_, rfl⟩
  rw [hb] at k_b ⊢
  clear hA hb
  generalize u10.alloc (.cells #[.slice A_b N_b c_b] 24) = u11 at *
  clear u10
  refine (Merge_at _ _ c_y c_z Sy Sz ky kz H_t_c.out rfl H_z_c.out H_e_ky.out H_e_kz.out (by omega) (by omega) _ a_y a_z).mono ?_
  rintro e u12 ⟨hC, A_c, c_c, rfl, a_c⟩
  replace a_x := a_x.later hC
  replace k_x := keep k_x hC
  replace a_y := a_y.later hC
  replace k_y := keep k_y hC
  replace a_z := a_z.later hC
  replace k_z := keep k_z hC
  replace a_a := a_a.later hC
  replace k_a := keep k_a hC
  replace a_b := a_b.later hC
  replace k_b := keep k_b hC
  replace hB := hB.trans (hC.mono hB.size)
  clear hC
  have x_x_0 := old_cell (cell_at k_x 0)
  go_wp2_with fail
  clear x_x_0
  have hA : Below u12.heap.size u12 (u12.alloc (.cells #[.slice A_c N_c c_c] 24)) := (Below.refl _ u12).alloc (Nat.le_refl _) _
  replace a_x := a_x.later hA
  replace k_x := keep k_x hA
  replace a_y := a_y.later hA
  replace k_y := keep k_y hA
  replace a_z := a_z.later hA
  replace k_z := keep k_z hA
  replace a_a := a_a.later hA
  replace k_a := keep k_a hA
  replace a_b := a_b.later hA
  replace k_b := keep k_b hA
  replace a_c := a_c.later hA
  replace hB := hB.trans (hA.mono hB.size)
  have k_c := new_at u12 (.cells #[.slice A_c N_c c_c] 24) _ rfl
  obtain ⟨b_c, hb⟩ : ∃ b, u12.heap.size = b := ⟨_, rfl⟩
  rw [hb] at k_c ⊢
  clear hA hb
  generalize u12.alloc (.cells #[.slice A_c N_c c_c] 24) = u13 at *
  clear u12
  refine (Merge_at _ _ c_x c_c Sx l_c kx N_c H_t_d.out rfl H_z_d.out H_e_kx.out H_z_c.out (by omega) (by omega) _ a_x a_c).mono ?_
  rintro e u14 ⟨hC, A_d, c_d, rfl, a_d⟩
  replace a_x := a_x.later hC
  replace k_x := keep k_x hC
  replace a_y := a_y.later hC
  replace k_y := keep k_y hC
  replace a_z := a_z.later hC
  replace k_z := keep k_z hC
  replace a_a := a_a.later hC
  replace k_a := keep k_a hC
  replace a_b := a_b.later hC
  replace k_b := keep k_b hC
  replace a_c := a_c.later hC
  replace k_c := keep k_c hC
  replace hB := hB.trans (hC.mono hB.size)
  clear hC
  have x_x_0 := old_cell (cell_at k_x 0)
  go_wp2_with fail
  clear x_x_0
  have hA : Below u14.heap.size u14 (u14.alloc (.cells #[.slice A_d N_d c_d] 24)) := (Below.refl _ u14).alloc (Nat.le_refl _) _
  replace a_x := a_x.later hA
  replace k_x := keep k_x hA
  replace a_y := a_y.later hA
  replace k_y := keep k_y hA
  replace a_z := a_z.later hA
  replace k_z := keep k_z hA
  replace a_a := a_a.later hA
  replace k_a := keep k_a hA
  replace a_b := a_b.later hA
  replace k_b := keep k_b hA
  replace a_c := a_c.later hA
  replace k_c := keep k_c hA
  replace a_d := a_d.later hA
  replace hB := hB.trans (hA.mono hB.size)
  have k_d := new_at u14 (.cells #[.slice A_d N_d c_d] 24) _ rfl
  obtain ⟨b_d, hb⟩ : ∃ b, u14.heap.size = b := ⟨_, rfl⟩
  rw [hb] at k_d ⊢
  clear hA hb
  generalize u14.alloc (.cells #[.slice A_d N_d c_d] 24) = u15 at *
  clear u14
  refine (Merge_at _ _ c_x c_x Sx Sx kx kx H_t_o.out rfl H_e_kx.out H_e_kx.out H_e_kx.out (by omega) (by omega) _ a_x a_x).mono ?_
  rintro e u16 ⟨hC, A_o, c_o, rfl, a_o⟩
  replace a_x := a_x.later hC
  replace k_x := keep k_x hC
  replace a_y := a_y.later hC
  replace k_y := keep k_y hC
  replace a_z := a_z.later hC
  replace k_z := keep k_z hC
  replace a_a := a_a.later hC
  replace k_a := keep k_a hC
  replace a_b := a_b.later hC
  replace k_b := keep k_b hC
  replace a_c := a_c.later hC
  replace k_c := keep k_c hC
  replace a_d := a_d.later hC
  replace k_d := keep k_d hC
  replace hB := hB.trans (hC.mono hB.size)
  clear hC
  have x_x_0 := old_cell (cell_at k_x 0)
  go_wp2_with fail
  clear x_x_0
  have hA : Below u16.heap.size u16 (u16.alloc (.cells #[.slice A_o kx c_o] 24)) := (Below.refl _ u16).alloc (Nat.le_refl _) _
  replace a_x := a_x.later hA
  replace k_x := keep k_x hA
  replace a_y := a_y.later hA
  replace k_y := keep k_y hA
  replace a_z := a_z.later hA
  replace k_z := keep k_z hA
  replace a_a := a_a.later hA
  replace k_a := keep k_a hA
  replace a_b := a_b.later hA
  replace k_b := keep k_b hA
  replace a_c := a_c.later hA
  replace k_c := keep k_c hA
  replace a_d := a_d.later hA
  replace k_d := keep k_d hA
  replace a_o := a_o.later hA
  replace hB := hB.trans (hA.mono hB.size)
  have k_o := new_at u16 (.cells #[.slice A_o kx c_o] 24) _ rfl
  obtain ⟨b_o, hb⟩ : ∃ b, u16.heap.size = b := ⟨_, rfl⟩
  rw [hb] at k_o ⊢
  clear hA hb
  generalize u16.alloc (.cells #[.slice A_o kx c_o] 24) = u17 at *
  clear u16
  refine (same_self _ _ c_o c_x Sx kx H_e_kx.out (by omega) _ a_o a_x).mono ?_
  rintro e u18 ⟨rfl, hC⟩
  replace a_x := a_x.later hC
  replace k_x := keep k_x hC
  replace a_y := a_y.later hC
  replace k_y := keep k_y hC
  replace a_z := a_z.later hC
  replace k_z := keep k_z hC
  replace a_a := a_a.later hC
  replace k_a := keep k_a hC
  replace a_b := a_b.later hC
  replace k_b := keep k_b hC
  replace a_c := a_c.later hC
  replace k_c := keep k_c hC
  replace a_d := a_d.later hC
  replace k_d := keep k_d hC
  replace a_o := a_o.later hC
  replace k_o := keep k_o hC
  replace hB := hB.trans (hC.mono hB.size)
  clear hC
  rcases H_hru.out with rfl | ⟨rfl, rfl⟩ | ⟨rfl, rfl, rfl⟩ | ⟨rfl, rfl, rfl, rfl, he⟩
  · go_wp2_with fail
    go_ret
    exact ⟨rfl, hB⟩
  · go_wp2_with fail
    go_ret
    exact ⟨rfl, hB⟩
  · go_wp2_with fail
    go_ret
    exact ⟨rfl, hB⟩
  · have HE := Lib.hid he
    clear he
    have x_b_0 := cell_at k_b 0
    have x_d_0 := cell_at k_d 0
    go_wp2_with fail
    clear x_b_0 x_d_0
    rw [HE.out] at a_b
    have hN : N_b = N_d := by rw [← H_z_b.out, ← H_z_d.out, HE.out]
    subst hN
    refine (same_self _ _ c_b c_d l_d N_b H_z_d.out (by omega) _ a_b a_d).mono ?_
    rintro e u19 ⟨rfl, hC⟩
    replace a_x := a_x.later hC
    replace k_x := keep k_x hC
    replace a_y := a_y.later hC
    replace k_y := keep k_y hC
    replace a_z := a_z.later hC
    replace k_z := keep k_z hC
    replace a_a := a_a.later hC
    replace k_a := keep k_a hC
    replace a_b := a_b.later hC
    replace k_b := keep k_b hC
    replace a_c := a_c.later hC
    replace k_c := keep k_c hC
    replace a_d := a_d.later hC
    replace k_d := keep k_d hC
    replace a_o := a_o.later hC
    replace k_o := keep k_o hC
    replace hB := hB.trans (hC.mono hB.size)
    clear hC
    go_wp2_with fail
    go_ret
    exact ⟨rfl, hB⟩
end Go.Proofs.Ythnnbpmpaeddgaa
