/-
  What is shown of package field: known bytes.
-/
import Derived.Test.YtbibnfchmffhaaaDoorFldL
namespace Go.Proofs.YtbibnfchmffhaaaDoor
open Go.RowKit Go.Lib

theorem shown_get1 : numE ⟨#[249, 0]⟩ = 20 := by decide +kernel
theorem shown_get2 : numE ⟨#[250, 0, 0, 1]⟩ = 21 := by decide +kernel
theorem shown_put1 : bytesF 2287#64 = ⟨#[248, 255]⟩ := by decide +kernel
theorem shown_put2 : bytesF 67824#64 = ⟨#[250, 1, 8, 240]⟩ := by decide +kernel
theorem shown_text : textF ⟨#[97, 98]⟩ = ⟨#[2, 97, 98]⟩ := by decide +kernel
set_option maxRecDepth 100000 in
theorem shown_any (a0 b0 : Addr) (B : Nat) (w : World) (hS : Sent a0 b0 B w) : Calls Tryd.prog 10 #[] w fun e w' => e = .returned (.bool true) ∧ Below w.heap.size w w' := by
  have u1 : (2287 : Int) = U 2287#64 := by decide +kernel
  have u2 : (67824 : Int) = U 67824#64 := by decide +kernel
  have H1 := Lib.hid (fun W => by have h := Put_at 2287#64 _ u1 W; rw [shown_put1] at h; exact h)
  have H2 := Lib.hid (fun W => by have h := Put_at 67824#64 _ u2 W; rw [shown_put2] at h; exact h)
  have H3 := Lib.hid (fun W => by have h := PutText_ok ⟨#[97, 98]⟩ (by decide) W; rw [shown_text] at h; exact h)
  have H4 := Lib.hid (fun W hS => by have h := Get_any a0 b0 ⟨#[249, 0]⟩ (by decide) B W hS; rw [shown_get1] at h; exact h)
  have H5 := Lib.hid (fun W hS => by have h := Get_any a0 b0 ⟨#[250, 0, 0, 1]⟩ (by decide) B W hS; rw [shown_get2] at h; exact h)
  have HS := Lib.hid hS
  clear u1 u2 hS
  go_enter Tryd.func10, Tryd.ntmps10
  go_wp2_with fail
  with_reducible refine (H3.out _).mono ?_
  rintro e w1 ⟨rfl, hB1⟩
  have HB1 := Lib.hid hB1
  clear hB1
  go_wp2_with fail
  with_reducible refine (H4.out _ (HS.out.later (HB1.out.mono HS.out.bs))).mono ?_
  rintro e w2 ⟨rfl, hB2⟩
  have HB2 := Lib.hid (HB1.out.trans (hB2.mono HB1.out.size))
  clear hB2
  go_wp2_with fail
  with_reducible refine (H5.out _ (HS.out.later (HB2.out.mono HS.out.bs))).mono ?_
  rintro e w3 ⟨rfl, hB3⟩
  have HB3 := Lib.hid (HB2.out.trans (hB3.mono HB2.out.size))
  clear hB3
  go_wp2_with fail
  with_reducible refine (H1.out _).mono ?_
  rintro e w4 ⟨rfl, hB4⟩
  have HB4 := Lib.hid (HB3.out.trans (hB4.mono HB3.out.size))
  clear hB4
  go_wp2_with fail
  with_reducible refine (H2.out _).mono ?_
  rintro e w5 ⟨rfl, hB5⟩
  have HB5 := Lib.hid (HB4.out.trans (hB5.mono HB4.out.size))
  clear hB5
  go_wp2_with fail
  go_ret
  exact ⟨rfl, HB5.out⟩
end Go.Proofs.YtbibnfchmffhaaaDoor
