/-
  Texts in order: Least of package field, by the library's comparison.
-/
import Derived.Test.YtbibnfchmffhaaaDoorChecked
import Derived.Test.YtbibnfchmffhaaaDoorLater
import Derived.Lib.Bytealg
namespace Go.Proofs.YtbibnfchmffhaaaDoor
open Go.RowKit Go.Extern Go.Lib

set_option maxRecDepth 100000 in
theorem Compare_any (s t : ByteArray) (w : World) : Calls Tryd.prog 40 #[.string s, .string t] w fun e w' => e = .returned (.int .i64 (compareBytes s.data.toList t.data.toList)) ∧ w' = w := by
  have h := @run_callFunc_extern Tryd.prog 46 _ Extern.BytealgCompare.compare Tryd.func46 (by kernel_rfl) (by kernel_rfl) (by kernel_rfl) (by kernel_rfl)
  have hc := fun w : World => run_compareString (P := Tryd.prog) s t w
  go_enter Tryd.func40, Tryd.ntmps40
  go_wp2
  go_ret
  exact ⟨rfl, rfl⟩
set_option maxRecDepth 100000 in
theorem strCompare_any (s t : ByteArray) (w : World) : Calls Tryd.prog 34 #[.string s, .string t] w fun e w' => e = .returned (.int .i64 (compareBytes s.data.toList t.data.toList)) ∧ w' = w := by
  go_enter Tryd.func34, Tryd.ntmps34
  go_wp2_with fail
  refine (Compare_any s t _).mono ?_
  rintro e w1 ⟨rfl, rfl⟩
  go_wp2_with fail
  go_ret
  exact ⟨rfl, rfl⟩
set_option maxRecDepth 100000 in
theorem Least_any (s t : ByteArray) (w : World) : Calls Tryd.prog 16 #[.string s, .string t] w fun e w' => e = .returned (.int .i64 (compareBytes s.data.toList t.data.toList)) ∧ w' = w := by
  go_enter Tryd.func16, Tryd.ntmps16
  go_wp2_with fail
  refine (strCompare_any s t _).mono ?_
  rintro e w1 ⟨rfl, rfl⟩
  go_wp2_with fail
  go_ret
  exact ⟨rfl, rfl⟩
end Go.Proofs.YtbibnfchmffhaaaDoor
