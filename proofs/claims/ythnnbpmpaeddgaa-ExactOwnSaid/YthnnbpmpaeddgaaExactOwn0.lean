/-
  The walk of the statement on lists that are not shared.
-/
import Derived.Test.YthnnbpmpaeddgaaExaL
namespace Go.Proofs.Ythnnbpmpaeddgaa
open Go.RowKit Go.Shelf

theorem other_set {W : World} {g j k : Nat} {v : Value} {o : Obj} (h : W.heap[k]? = some o) (hk : k ≠ g) : (W.setCell ⟨g, j, none⟩ v).heap[k]? = some o := (Below.heap_setCell W ⟨g, j, none⟩ v k hk).trans h
/-- A list of the call's own, as cells that may be written, if it has any. -/
theorem OwnL.cells {W : World} {base n c : Nat} {A : Option Addr} {l : L64} (h : OwnL W base (.slice A n c) l) (hn : l.length = n) (hb : base ≤ W.heap.size) : ∃ g, base ≤ g ∧ g ≤ W.heap.size ∧ (0 < n → A = some ⟨g, 0, none⟩ ∧ g < W.heap.size ∧ RowP W g 25 l) := by
  by_cases h0 : 0 < n
  · obtain ⟨g, e, h1, h2⟩ := h.rowP (by omega)
    exact ⟨g, h1, Nat.le_of_lt h2.lt, fun _ => ⟨e, h2.lt, h2⟩⟩
  · exact ⟨base, Nat.le_refl _, hb, fun h => absurd h h0⟩

set_option maxRecDepth 100000 in
set_option maxHeartbeats 4000000 in
theorem walk_ExactOwn {w : World} (A : Option Addr) (c : Nat) (L : L64) (hlc : L.length ≤ c) (hA : At w w.heap.size A L) :
    Calls Try.prog 8 #[.slice A L.length c] w fun e w' => e = .returned (.bool true) ∧ Below w.heap.size w w' := by
  have hIx := hA.take 60
  have htl : (L.take 60).length = min L.length 60 := by rw [List.length_take]; omega
  obtain ⟨Xx, hJ⟩ : ∃ J, L.take 60 = J := ⟨_, rfl⟩
  rw [hJ] at hIx htl
  obtain ⟨nx, hn⟩ : ∃ n, L.length = n := ⟨_, rfl⟩
  rw [hn] at htl hlc ⊢
  obtain ⟨mx, hm⟩ : ∃ m, min nx 60 = m := ⟨_, rfl⟩
  have hlex : mx ≤ 60 := by omega
  have HMinx := Lib.hid hm
  have HMx := Lib.hid (htl.trans hm)
  clear htl hJ hn
  have hmix : (if 60 < (nx : Int) then (60 : Int) else (nx : Int)) = (mx : Int) := by split <;> omega
  have hmcx : mx ≤ c := by omega
  clear hm hA
  have hxx : (ofX Xx).length ≤ 60 := Nat.le_trans (length_ofX_le _) (by rw [HMx.out]; exact hlex)
  have hrx := rightX_ofX (L := Xx) (by omega)
  have hcx := capX_ok (l := ofX Xx) (by omega)
  obtain ⟨Sx, e_Sx⟩ : ∃ S, ofX Xx = S := ⟨_, rfl⟩
  rw [e_Sx] at hxx hrx hcx
  obtain ⟨kx, e_kx⟩ : ∃ k, Sx.length = k := ⟨_, rfl⟩
  rw [e_kx] at hxx
  have htx : capX (ofX Xx) = ⟨Sx, 0⟩ := by rw [e_Sx, hcx]
  have t_y := mergeX_nil hrx
  have t_z := mergeX_self hrx
  have e7 : U 7#64 = 7 := by decide +kernel
  clear hrx hcx e_Sx
  have H_t_y := Lib.hid t_y
  clear t_y
  have H_t_z := Lib.hid t_z
  clear t_z
  have H_htx := Lib.hid htx
  clear htx
  have H_e_kx := Lib.hid e_kx
  clear e_kx
  have H_e7 := Lib.hid e7
  clear e7
  go_enter Try.func8, Try.ntmps8
  have hB : Below w.heap.size w w := Below.refl _ w
  go_wp2_with fail
  refine (shown_any _).mono ?_
  rintro e u1 ⟨rfl, hC⟩
  replace hB := hB.trans (hC.mono hB.size)
  clear hC
  go_wp2_with fail
  refine (Of_at A c Xx mx H_htx.out rfl H_e_kx.out HMx.out (by omega) _ (hIx.later hB)).mono ?_
  rintro e u2 ⟨hC, A_x, c_x, rfl, a_x⟩
  replace hB := hB.trans (hC.mono hB.size)
  clear hC
  go_wp2_with fail
  have hA : Below u2.heap.size u2 (u2.alloc (.cells #[.slice A_x kx c_x] 24)) := (Below.refl _ u2).alloc (Nat.le_refl _) _
  replace a_x := a_x.later hA
  replace hB := hB.trans (hA.mono hB.size)
  have k_x := new_at u2 (.cells #[.slice A_x kx c_x] 24) _ rfl
  obtain ⟨b_x, hb⟩ : ∃ b, u2.heap.size = b := ⟨_, rfl⟩
  rw [hb] at k_x ⊢
  clear hA hb
  generalize u2.alloc (.cells #[.slice A_x kx c_x] 24) = u3 at *
  clear u2
  have hx0 := a_x
  obtain ⟨By, hBy⟩ : ∃ b, u3.heap.size = b := ⟨_, rfl⟩
  rw [hBy] at hx0
  have hwBy : w.heap.size ≤ By := by rw [← hBy]; exact hB.size
  have qx : b_x < By := by rw [← hBy]; exact (Array.getElem?_eq_some_iff.1 k_x).1
  have hmy := Merge_gives A_x none c_x 0 Sx [] kx 0 H_e_kx.out rfl (by omega) (by omega) u3 a_x At.nil
  rw [H_t_y.out] at hmy
  refine hmy.mono ?_
  clear hmy
  rintro e u4 ⟨hC, A_y, c_y, rfl, ho⟩
  rw [hBy] at ho
  change OwnL u4 By (.slice A_y Sx.length c_y) Sx at ho
  have hCs := hC.size
  rw [H_e_kx.out] at ho ⊢
  obtain ⟨g, hg1, hg2, hg⟩ := ho.cells H_e_kx.out (by omega)
  have HG := Lib.hid hg
  clear hg ho hCs
  replace hx0 := hx0.below (hC.mono (by omega))
  replace a_x := a_x.later hC
  replace k_x := keep k_x hC
  replace hB := hB.trans (hC.mono hB.size)
  clear hC
  have x_x_0 := old_cell (cell_at k_x 0)
  go_wp2_with fail
  clear x_x_0
  have hA1 : Below u4.heap.size u4 (u4.alloc (.cells #[.slice A_y kx c_y] 24)) := (Below.refl _ u4).alloc (Nat.le_refl _) _
  have hvB : By ≤ u4.heap.size := by have := hg1; omega
  replace hx0 := hx0.below (hA1.mono hvB)
  have HG2 : Hid (0 < kx → A_y = some ⟨g, 0, none⟩ ∧ g < u4.heap.size ∧ RowP (u4.alloc (.cells #[.slice A_y kx c_y] 24)) g 25 Sx) := Lib.hid (fun h => ⟨(HG.out h).1, (HG.out h).2.1, (HG.out h).2.2.later hA1⟩)
  replace a_x := a_x.later hA1
  replace k_x := keep k_x hA1
  replace hB := hB.trans (hA1.mono hB.size)
  have k_y := new_at u4 (.cells #[.slice A_y kx c_y] 24) _ rfl
  obtain ⟨b_y, hb⟩ : ∃ b, u4.heap.size = b := ⟨_, rfl⟩
  rw [hb] at k_y HG2 hvB hg2 ⊢
  clear hA1 hb HG
  generalize u4.alloc (.cells #[.slice A_y kx c_y] 24) = u5 at *
  clear u4
  obtain ⟨Bz, hBz⟩ : ∃ b, u5.heap.size = b := ⟨_, rfl⟩
  have qy : b_y < Bz := by rw [← hBz]; exact (Array.getElem?_eq_some_iff.1 k_y).1
  have hmz := Merge_gives A_x A_x c_x c_x Sx Sx kx kx H_e_kx.out H_e_kx.out (by omega) (by omega) u5 a_x a_x
  rw [H_t_z.out] at hmz
  refine hmz.mono ?_
  clear hmz
  rintro e u6 ⟨hC, A_z, c_z, rfl, ho⟩
  rw [hBz] at ho
  change OwnL u6 Bz (.slice A_z Sx.length c_z) Sx at ho
  rw [H_e_kx.out] at ho ⊢
  have HZ := Lib.hid ho
  clear ho
  replace hx0 := hx0.below (hC.mono (by omega))
  have HG : Hid (0 < kx → A_y = some ⟨g, 0, none⟩ ∧ g < b_y ∧ RowP u6 g 25 Sx) := Lib.hid (fun h => ⟨(HG2.out h).1, (HG2.out h).2.1, (HG2.out h).2.2.later hC⟩)
  clear HG2
  have hvz : Bz ≤ u6.heap.size := by rw [← hBz]; exact hC.size
  clear a_x
  replace k_x := keep k_x hC
  replace k_y := keep k_y hC
  replace hB := hB.trans (hC.mono hB.size)
  clear hC hBz hBy
  go_wp2_with fail
  have hA1 : Below u6.heap.size u6 (u6.alloc (.cells #[.slice A_z kx c_z] 24)) := (Below.refl _ u6).alloc (Nat.le_refl _) _
  replace hx0 := hx0.below (hA1.mono (by omega))
  have HG2 : Hid (0 < kx → A_y = some ⟨g, 0, none⟩ ∧ g < b_y ∧ RowP (u6.alloc (.cells #[.slice A_z kx c_z] 24)) g 25 Sx) := Lib.hid (fun h => ⟨(HG.out h).1, (HG.out h).2.1, (HG.out h).2.2.later hA1⟩)
  have HZ2 : Hid (OwnL (u6.alloc (.cells #[.slice A_z kx c_z] 24)) Bz (.slice A_z kx c_z) Sx) := Lib.hid (HZ.out.of (fun k _ hk => Below.heap_alloc _ _ _ hk))
  replace k_x := keep k_x hA1
  replace k_y := keep k_y hA1
  replace hB := hB.trans (hA1.mono hB.size)
  have k_z := new_at u6 (.cells #[.slice A_z kx c_z] 24) _ rfl
  obtain ⟨b_z, hb⟩ : ∃ b, u6.heap.size = b := ⟨_, rfl⟩
  rw [hb] at k_z hvz ⊢
  clear hA1 hb HG HZ
  generalize u6.alloc (.cells #[.slice A_z kx c_z] 24) = u7 at *
  clear u6
  have hwx : w.heap.size ≤ By := hwBy
  go_loopw [10] (fun iv wr => ∃ j : Nat, j ≤ kx ∧ iv = .int .i64 j ∧ Below w.heap.size w wr ∧ wr.heap[b_x]? = some (.cells #[.slice A_x kx c_x] 24 (0, 0)) ∧ wr.heap[b_y]? = some (.cells #[.slice A_y kx c_y] 24 (0, 0)) ∧ wr.heap[b_z]? = some (.cells #[.slice A_z kx c_z] 24 (0, 0)) ∧ At wr By A_x Sx ∧ OwnL wr Bz (.slice A_z kx c_z) Sx ∧ (0 < kx → ∃ l : L64, l.length = kx ∧ RowP wr g 25 l)) (fun iv _ => kx - (intOf iv).toNat)
  case atStart => exact ⟨0, Nat.zero_le _, rfl, hB, k_x, k_y, k_z, hx0, HZ2.out, fun h => ⟨Sx, H_e_kx.out, (HG2.out h).2.2⟩⟩
  case round =>
    obtain ⟨j, hj, rfl, hB2, kx2, ky2, kz2, hx2, hz2, hr2⟩ := hrel
    have HG3 : Hid (0 < kx → A_y = some ⟨g, 0, none⟩ ∧ g < b_y) := Lib.hid (fun h => ⟨(HG2.out h).1, (HG2.out h).2.1⟩)
    clear hB k_x k_y k_z hx0 HG2 HZ2
    obtain ⟨wo, rfl⟩ : ∃ wo : World, wo = wr := ⟨_, rfl⟩
    have y0 := cell_at ky2 0
    by_cases hjk : j < kx
    · obtain ⟨hAy, hgy⟩ := HG3.out (by omega)
      subst hAy
      obtain ⟨l, hl, rr⟩ := hr2 (by omega)
      have hx := rr.cell (j := j) (by rw [hl]; exact hjk)
      have fr := rr.free j
      have HL := Lib.hid hl
      clear hl hr2
      go_wp2_with fail
      have rs := rr.set (j := j) (by rw [HL.out]; exact hjk) 7#64
      rw [H_e7.out] at rs
      go_roundw
      case rel => exact ⟨j + 1, by omega, by go_num, hB2.setCell (by show w.heap.size ≤ g; omega) _, other_set kx2 (by omega), other_set ky2 (by omega), other_set kz2 (by omega), hx2.below ((Below.refl By wo).setCell (by show By ≤ g; exact hg1) _),
        hz2.of (fun k hk _ => Below.heap_setCell wo ⟨g, j, none⟩ _ k (by show k ≠ g; omega)), fun _ => ⟨l.set j 7#64, by rw [List.length_set]; exact HL.out, rs⟩⟩
      case measure => simp [intOf]; omega
    · obtain rfl : kx = j := by omega
      have x0 := cell_at kx2 0
      have z0 := cell_at kz2 0
      have hzz := hz2.at2
      have hxx := hx2.mono (show By ≤ wo.heap.size by have := (Array.getElem?_eq_some_iff.1 kz2).1; omega)
      clear hr2 HG3
      go_wp2_with fail
      refine (same_self _ _ c_x c_z Sx kx H_e_kx.out (by omega) _ hxx hzz).mono ?_
      rintro e w9 ⟨rfl, hC⟩
      replace hB2 := hB2.trans (hC.mono hB2.size)
      clear hC
      go_wp2_with fail
      go_ret
      exact ⟨rfl, hB2⟩
end Go.Proofs.Ythnnbpmpaeddgaa
