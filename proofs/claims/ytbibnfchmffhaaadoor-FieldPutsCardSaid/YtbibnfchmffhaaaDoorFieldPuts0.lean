/-
  The walk of FieldPuts.
-/
import Derived.Test.YtbibnfchmffhaaaDoorFldM
namespace Go.Proofs.YtbibnfchmffhaaaDoor
open Go.RowKit Go.Lib

set_option maxRecDepth 100000 in
theorem walk_FieldPuts (a0 b0 : Addr) (n : BitVec 64) (s : ByteArray) (hs : s.size ≤ 9223372036854775807) (t : ByteArray) (ht : t.size ≤ 9223372036854775807) (w : World) (hS : Sent a0 b0 w.heap.size w) :
    Calls Tryd.prog 3 #[.int .u64 (U n), .string s, .string t] w fun e w' => e = .returned (.bool true) ∧ Below w.heap.size w w' := by
  have c1 := cutS_size s
  have c2 := cutS_size t
  have HCs := Lib.hid (fun W => cut_any s hs W)
  have HCt := Lib.hid (fun W => cut_any t ht W)
  have HP := Lib.hid (fun W => Put_at n _ rfl W)
  have HR := Lib.hid (fun W => refPut_at n _ rfl W)
  have HG := Lib.hid (fun W hS => Get_any a0 b0 (cutS s) (by omega) w.heap.size W hS)
  have HH := Lib.hid (fun W => refGet_any (cutS s) (by omega) W)
  have HL := Lib.hid (fun W => Least_any (cutS s) (cutS t) W)
  have HM := Lib.hid (fun W => refLeast_any (cutS s) (cutS t) (by omega) (by omega) W)
  have HS := Lib.hid hS
  clear hS c1 c2 hs ht
  generalize cutS s = S at *
  generalize cutS t = T at *
  generalize bytesF n = X at *
  generalize getN S = gn at *
  generalize getR S = gr at *
  generalize numE S = ge at *
  generalize compareBytes S.data.toList T.data.toList = gc at *
  go_enter Tryd.func3, Tryd.ntmps3
  go_wp2_with fail
  with_reducible refine (shown_any a0 b0 w.heap.size _ HS.out).mono ?_
  rintro e w1 ⟨rfl, hB1⟩
  have HB1 := Lib.hid hB1
  clear hB1
  go_wp2_with fail
  with_reducible refine (HCs.out _).mono ?_
  rintro e w2 ⟨rfl, rfl⟩
  go_wp2_with fail
  with_reducible refine (HG.out _ (HS.out.later HB1.out)).mono ?_
  rintro e w2 ⟨rfl, hB2⟩
  have HB2 := Lib.hid (HB1.out.trans (hB2.mono HB1.out.size))
  clear hB2
  go_wp2_with fail
  with_reducible refine (HCs.out _).mono ?_
  rintro e w3 ⟨rfl, rfl⟩
  go_wp2_with fail
  with_reducible refine (HH.out _).mono ?_
  rintro e w3 ⟨rfl, hB3⟩
  have HB3 := Lib.hid (HB2.out.trans (hB3.mono HB2.out.size))
  clear hB3
  go_wp2_with fail
  with_reducible refine (HP.out _).mono ?_
  rintro e w4 ⟨rfl, hB4⟩
  have HB4 := Lib.hid (HB3.out.trans (hB4.mono HB3.out.size))
  clear hB4
  go_wp2_with fail
  with_reducible refine (HR.out _).mono ?_
  rintro e w5 ⟨rfl, hB5⟩
  have HB5 := Lib.hid (HB4.out.trans (hB5.mono HB4.out.size))
  clear hB5
  go_wp2_with fail
  with_reducible refine (HCs.out _).mono ?_
  rintro e w6 ⟨rfl, rfl⟩
  go_wp2_with fail
  with_reducible refine (HCt.out _).mono ?_
  rintro e w6 ⟨rfl, rfl⟩
  go_wp2_with fail
  with_reducible refine (HL.out _).mono ?_
  rintro e w6 ⟨rfl, rfl⟩
  go_wp2_with fail
  with_reducible refine (HCs.out _).mono ?_
  rintro e w6 ⟨rfl, rfl⟩
  go_wp2_with fail
  with_reducible refine (HCt.out _).mono ?_
  rintro e w6 ⟨rfl, rfl⟩
  go_wp2_with fail
  with_reducible refine (HM.out _).mono ?_
  rintro e w6 ⟨rfl, hB6⟩
  have HB6 := Lib.hid (HB5.out.trans (hB6.mono HB5.out.size))
  clear hB6
  go_wp2_with fail
  go_ret
  exact ⟨rfl, HB6.out⟩
end Go.Proofs.YtbibnfchmffhaaaDoor
