/-
  The walk of FieldOne.
-/
import Derived.Test.YtbibnfchmffhaaaDoorFldM
import Derived.Test.YtbibnfchmffhaaaDoorFldR
namespace Go.Proofs.YtbibnfchmffhaaaDoor
open Go.RowKit Go.Lib

set_option maxRecDepth 100000 in
set_option maxHeartbeats 4000000 in
theorem walk_FieldOne (a0 b0 : Addr) (s : ByteArray) (hs : s.size ≤ 9223372036854775807) (t : ByteArray) (ht : t.size ≤ 9223372036854775807) (u : ByteArray) (hu : u.size ≤ 9223372036854775807) (w : World) (hS : Sent a0 b0 w.heap.size w) :
    Calls Tryd.prog 5 #[.string s, .string t, .string u] w fun e w' => e = .returned (.bool true) ∧ Below w.heap.size w w' := by
  have c1 := cutS_size s
  have c3 := cutS_size u
  have HCs := Lib.hid (fun W => cut_any s hs W)
  have HCt := Lib.hid (fun W => cut_any t ht W)
  have HCu := Lib.hid (fun W => cut_any u hu W)
  have HS := Lib.hid hS
  clear hS hs ht hu
  generalize cutS s = S at *
  generalize cutS t = T at *
  generalize cutS u = R at *
  have hsz : S.size + R.size ≤ 9223372036854775807 := by omega
  clear c1 c3
  have hx := cmp_range S.data.toList T.data.toList
  have hy := cmp_range T.data.toList R.data.toList
  have hz := cmp_range S.data.toList (S ++ R).data.toList
  have hz0 := cmp_append S.data.toList R.data.toList
  rw [← append_list] at hz0
  have hsw := cmp_swap T.data.toList S.data.toList
  have htr := cmp_trans S.data.toList T.data.toList R.data.toList
  have hsr := cmp_range S.data.toList R.data.toList
  have HL1 := Lib.hid (fun W => Least_any S T W)
  have HL2 := Lib.hid (fun W => Least_any T R W)
  have HL3 := Lib.hid (fun W => Least_any T S W)
  have HL4 := Lib.hid (fun W => Least_any S R W)
  have HL5 := Lib.hid (fun W => Least_any S (S ++ R) W)
  have he0 := cmp_eq0 S.data.toList T.data.toList
  have he1 : S = T → compareBytes S.data.toList T.data.toList = 0 := fun h => by rw [h]; exact cmp_self _
  have hte : (S.toList == T.toList) = decide (compareBytes S.data.toList T.data.toList = 0) := by
    rw [toList_beq, decide_eq_decide]
    exact ⟨he1, fun h => ba_ext (he0 h)⟩
  rw [hsw] at HL3
  generalize compareBytes S.data.toList T.data.toList = x at *
  generalize compareBytes T.data.toList R.data.toList = y at *
  generalize compareBytes S.data.toList (S ++ R).data.toList = z at *
  generalize compareBytes S.data.toList R.data.toList = v at *
  clear he0 he1 hsw
  have hz' : z = -1 ∨ z = 0 := by omega
  clear hz hz0
  have hv : x = -1 → y = -1 → v = -1 := fun h1 h2 => by have := htr (by omega) (by omega); omega
  clear htr hsr
  rcases hx with rfl | rfl | rfl <;> rcases hy with rfl | rfl | rfl <;> rcases hz' with rfl | rfl
  all_goals
    first
      | (obtain rfl := hv rfl rfl)
      | skip
    clear hv
    first
      | rw [show decide ((-1 : Int) = 0) = false from rfl] at hte
      | rw [show decide ((0 : Int) = 0) = true from rfl] at hte
      | rw [show decide ((1 : Int) = 0) = false from rfl] at hte
    go_enter Tryd.func5, Tryd.ntmps5
    go_wp2_with fail
    with_reducible refine (shown_any a0 b0 w.heap.size _ HS.out).mono ?_
    rintro e w1 ⟨rfl, hB1⟩
    have HB1 := Lib.hid hB1
    clear hB1
    go_wp2_with fail
    with_reducible refine (HCs.out _).mono ?_
    rintro e w2 ⟨rfl, rfl⟩
    go_wp2_with fail
    with_reducible refine (HCt.out _).mono ?_
    rintro e w2 ⟨rfl, rfl⟩
    go_wp2_with fail
    with_reducible refine (HCu.out _).mono ?_
    rintro e w2 ⟨rfl, rfl⟩
    go_wp2_with fail
    with_reducible refine (HL1.out _).mono ?_
    rintro e w2 ⟨rfl, rfl⟩
    go_wp2_with fail
    with_reducible refine (HL2.out _).mono ?_
    rintro e w2 ⟨rfl, rfl⟩
    go_wp2_with fail
    with_reducible refine (HL3.out _).mono ?_
    rintro e w2 ⟨rfl, rfl⟩
    go_wp2_with fail
    first
      | (with_reducible refine (HL5.out _).mono ?_
         rintro e w2 ⟨rfl, rfl⟩
         go_wp2_with fail)
      | (with_reducible refine (HL4.out _).mono ?_
         rintro e w2 ⟨rfl, rfl⟩
         go_wp2_with fail
         with_reducible refine (HL5.out _).mono ?_
         rintro e w2 ⟨rfl, rfl⟩
         go_wp2_with fail)
    go_ret
    exact ⟨rfl, HB1.out⟩
end Go.Proofs.YtbibnfchmffhaaaDoor
