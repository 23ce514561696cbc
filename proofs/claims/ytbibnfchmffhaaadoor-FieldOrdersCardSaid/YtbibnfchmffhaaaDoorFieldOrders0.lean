/-
  The walk of FieldOrders.
-/
import Derived.Test.YtbibnfchmffhaaaDoorFldM
import Derived.Test.YtbibnfchmffhaaaDoorFldR
namespace Go.Proofs.YtbibnfchmffhaaaDoor
open Go.RowKit Go.Lib

set_option maxRecDepth 100000 in
set_option maxHeartbeats 4000000 in
theorem walk_FieldOrders (a0 b0 : Addr) (n m : BitVec 64) (w : World) (hS : Sent a0 b0 w.heap.size w) :
    Calls Tryd.prog 4 #[.int .u64 (U n), .int .u64 (U m)] w fun e w' => e = .returned (.bool true) ∧ Below w.heap.size w w' := by
  have hS' := Lib.hid hS
  have HP := Lib.hid (fun W => Put_at n _ rfl W)
  have HQ := Lib.hid (fun W => Put_at m _ rfl W)
  have HL := Lib.hid (fun W => Least_any (bytesF n) (bytesF m) W)
  have ho := putF_order n m
  have hm1 : n.toNat ≤ m.toNat → ((bytesF n).size : Int) ≤ ((bytesF m).size : Int) := fun h => by
    have := putF_mono n m h
    rw [size_list, size_list, bytesF_list, bytesF_list]; omega
  have hm2 : m.toNat ≤ n.toNat → ((bytesF m).size : Int) ≤ ((bytesF n).size : Int) := fun h => by
    have := putF_mono m n h
    rw [size_list, size_list, bytesF_list, bytesF_list]; omega
  rw [bytesF_list, bytesF_list] at HL
  have u1 : U n = (n.toNat : Int) := rfl
  have u2 : U m = (m.toNat : Int) := rfl
  clear hS
  by_cases h1 : n.toNat < m.toNat
  · have k1 : U n < U m := by omega
    have k2 : ¬ U m < U n := by omega
    rw [if_pos h1] at ho
    rw [ho] at HL
    have hz := hm1 (by omega)
    clear ho hm1 hm2 u1 u2
    generalize bytesF n = X at *
    generalize bytesF m = Y at *
    go_enter Tryd.func4, Tryd.ntmps4
    go_wp2_with fail
    with_reducible refine (shown_any a0 b0 w.heap.size _ hS'.out).mono ?_
    rintro e w1 ⟨rfl, hB1⟩
    have HB1 := Lib.hid hB1
    clear hB1
    go_wp2_with fail
    with_reducible refine (HP.out _).mono ?_
    rintro e w2 ⟨rfl, hB2⟩
    have HB2 := Lib.hid (HB1.out.trans (hB2.mono HB1.out.size))
    clear hB2
    go_wp2_with fail
    with_reducible refine (HQ.out _).mono ?_
    rintro e w3 ⟨rfl, hB3⟩
    have HB3 := Lib.hid (HB2.out.trans (hB3.mono HB2.out.size))
    clear hB3
    go_wp2_with fail
    with_reducible refine (HL.out _).mono ?_
    rintro e w4 ⟨rfl, rfl⟩
    go_wp2_with fail
    with_reducible refine (HP.out _).mono ?_
    rintro e w5 ⟨rfl, hB4⟩
    have HB4 := Lib.hid (HB3.out.trans (hB4.mono HB3.out.size))
    clear hB4
    go_wp2_with fail
    with_reducible refine (HQ.out _).mono ?_
    rintro e w6 ⟨rfl, hB5⟩
    have HB5 := Lib.hid (HB4.out.trans (hB5.mono HB4.out.size))
    clear hB5
    go_wp2_with fail
    go_ret
    exact ⟨rfl, HB5.out⟩
  · by_cases h2 : m.toNat < n.toNat
    · have k1 : ¬ U n < U m := by omega
      have k2 : U m < U n := by omega
      rw [if_neg h1, if_pos h2] at ho
      rw [ho] at HL
      have hz := hm2 (by omega)
      clear ho hm1 hm2 u1 u2
      generalize bytesF n = X at *
      generalize bytesF m = Y at *
      go_enter Tryd.func4, Tryd.ntmps4
      go_wp2_with fail
      with_reducible refine (shown_any a0 b0 w.heap.size _ hS'.out).mono ?_
      rintro e w1 ⟨rfl, hB1⟩
      have HB1 := Lib.hid hB1
      clear hB1
      go_wp2_with fail
      with_reducible refine (HP.out _).mono ?_
      rintro e w2 ⟨rfl, hB2⟩
      have HB2 := Lib.hid (HB1.out.trans (hB2.mono HB1.out.size))
      clear hB2
      go_wp2_with fail
      with_reducible refine (HQ.out _).mono ?_
      rintro e w3 ⟨rfl, hB3⟩
      have HB3 := Lib.hid (HB2.out.trans (hB3.mono HB2.out.size))
      clear hB3
      go_wp2_with fail
      with_reducible refine (HL.out _).mono ?_
      rintro e w4 ⟨rfl, rfl⟩
      go_wp2_with fail
      with_reducible refine (HQ.out _).mono ?_
      rintro e w5 ⟨rfl, hB4⟩
      have HB4 := Lib.hid (HB3.out.trans (hB4.mono HB3.out.size))
      clear hB4
      go_wp2_with fail
      with_reducible refine (HP.out _).mono ?_
      rintro e w6 ⟨rfl, hB5⟩
      have HB5 := Lib.hid (HB4.out.trans (hB5.mono HB4.out.size))
      clear hB5
      go_wp2_with fail
      go_ret
      exact ⟨rfl, HB5.out⟩
    · obtain rfl : n = m := BitVec.eq_of_toNat_eq (by omega)
      rw [if_neg h1, if_neg h2] at ho
      rw [ho] at HL
      clear ho hm1 hm2 u1 u2 HQ h1 h2
      generalize bytesF n = X at *
      go_enter Tryd.func4, Tryd.ntmps4
      go_wp2_with fail
      with_reducible refine (shown_any a0 b0 w.heap.size _ hS'.out).mono ?_
      rintro e w1 ⟨rfl, hB1⟩
      have HB1 := Lib.hid hB1
      clear hB1
      go_wp2_with fail
      with_reducible refine (HP.out _).mono ?_
      rintro e w2 ⟨rfl, hB2⟩
      have HB2 := Lib.hid (HB1.out.trans (hB2.mono HB1.out.size))
      clear hB2
      go_wp2_with fail
      with_reducible refine (HP.out _).mono ?_
      rintro e w3 ⟨rfl, hB3⟩
      have HB3 := Lib.hid (HB2.out.trans (hB3.mono HB2.out.size))
      clear hB3
      go_wp2_with fail
      with_reducible refine (HL.out _).mono ?_
      rintro e w4 ⟨rfl, rfl⟩
      go_wp2_with fail
      with_reducible refine (HP.out _).mono ?_
      rintro e w5 ⟨rfl, hB4⟩
      have HB4 := Lib.hid (HB3.out.trans (hB4.mono HB3.out.size))
      clear hB4
      go_wp2_with fail
      with_reducible refine (HP.out _).mono ?_
      rintro e w6 ⟨rfl, hB5⟩
      have HB5 := Lib.hid (HB4.out.trans (hB5.mono HB4.out.size))
      clear hB5
      go_wp2_with fail
      go_ret
      exact ⟨rfl, HB5.out⟩
end Go.Proofs.YtbibnfchmffhaaaDoor
