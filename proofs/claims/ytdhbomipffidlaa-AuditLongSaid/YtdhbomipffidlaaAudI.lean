/-
  What is appended: an append that copies; what is told.
-/
import Derived.Test.YtdhbomipffidlaaAudG
import Derived.Deep.AppendSrc
namespace Go.Proofs.Ytdhbomipffidlaa
open Go.RowKit Go.Shelf

set_option maxRecDepth 100000 in
theorem told_wrong (w : World) : Calls Try.prog 33 #[.iface 56 (.agg #[])] w fun e w' => e = .returned (.int .i64 160) ∧ Below w.heap.size w w' := by
  have ta : ∀ W : World, (Instr.typeAssert (.iface 56 (.agg #[])) 66 56 true).run Try.prog W = .ok (.tuple #[.agg #[], .bool true]) W := fun W => by kernel_rfl
  go_enter Try.func33, Try.ntmps33
  go_wp2
  go_ret
  exact ⟨rfl, (Below.refl _ w).alloc (Nat.le_refl _) _⟩

theorem cells_of {w : World} {b o : Nat} {m : LE} (hc : ∀ j, j < m.length → FourE w b (o + j * 4) (nthE m j)) : ∀ j u, (rowsE m)[j]? = some u → w.cell? ((⟨b, o, none⟩ : Addr).add j) = some u := by
  intro j u hu
  have hj2 : j < m.length * 4 := by have := (List.getElem?_eq_some_iff.1 hu).1; rw [rowsE_length] at this; exact this
  have hd := Nat.div_add_mod j 4
  have hm4 : j % 4 < 4 := Nat.mod_lt _ (by omega)
  have hq : j / 4 < m.length := by omega
  have e0 : j = j / 4 * 4 + j % 4 := by omega
  rw [e0, rowsE_get m _ _ hq hm4] at hu
  rw [addE_mk, show o + j = o + j / 4 * 4 + j % 4 by omega]
  obtain ⟨c0, c1, c2, c3⟩ := hc (j / 4) hq
  generalize j % 4 = k at *
  match k, hm4 with
  | 0, _ => rw [Nat.add_zero, c0]; exact hu
  | 1, _ => rw [c1]; exact hu
  | 2, _ => rw [c2]; exact hu
  | 3, _ => rw [c3]; exact hu
/-- One entry appended onto a list that has no room: all is copied. -/
theorem append_copy (w : World) (A : Option Addr) (B : Nat) (l : LE) (N : Nat) (hN : l.length = N) (hl : N ≤ 65535) (hA : AtE w B A l) (hA0 : A = none → N = 0) (x : Ent) (b : Nat) (hx : FourE w b 0 x) :
    ∃ v' W, (Builtin.append_ #[25, 25] 25 #[.slice A N N, .slice (some ⟨b, 0, none⟩) 1 1]).run Try.prog w = .ok v' W ∧ OwnE W w.heap.size v' (l ++ [x]) ∧ Below w.heap.size w W := by
  have hone : ∀ j, j < [x].length → FourE w b (0 + j * 4) (nthE [x] j) := fun j hj => by
    obtain rfl : j = 0 := by simpa using hj
    exact hx
  obtain ⟨i0, hi, hz0, hz1, hz2⟩ := ent_parts
  cases A with
  | none =>
    have h0 := hA0 rfl
    subst h0
    have e : l = [] := List.eq_nil_of_length_eq_zero hN
    subst e
    exact append_ents w w.heap.size (.slice none 0 0) [] [x] b 0 1 (OwnE.nil _ _) hone (Nat.le_refl _) (by simp)
  | some a =>
    have holds : ∀ j v, (rowsE l)[j]? = some v → w.cell? (a.add j) = some v := by
      intro j v hv
      have hj : j < l.length * 4 := by have := (List.getElem?_eq_some_iff.1 hv).1; rw [rowsE_length] at this; exact this
      obtain ⟨b1, o1, e, -, hc⟩ := hA (by omega)
      injection e with e
      subst e
      exact cells_of hc j v hv
    have hr := run_append_grow (P := Try.prog) w 25 25 41 i0 noE.val Try.underlying25 hi hz0 a N N (rowsE l) (by rw [rowsE_length, hN, hz1]) holds ⟨b, 0, none⟩ 1 1 (rowsE [x]) (by rw [rowsE_length, hz1]; rfl) (cells_of hone)
      (by omega) (by omega) (by rw [hz2]; exact growslice_fits (by omega) (by omega))
    have hge := grownCap_ge w (N + 1) N 41
    have hcm : grownCap w (N + 1) N 41 ≤ maxLen := grownCap_le_maxLen w (N + 1) N 41 (by simp only [maxLen]; omega)
    have hlx : (l ++ [x]).length = N + 1 := by rw [List.length_append, hN]; rfl
    refine ⟨_, _, hr, ⟨rowsE_length _, .inr ⟨w.heap.size, _, _, by rw [hlx], Nat.le_refl _, new_at w.drew _ _ rfl, by rw [hlx]; exact hge, hcm, ?_, ?_⟩⟩, ?_⟩
    · have h4 : noE.val.cells.size = 4 := rfl
      simp only [Array.size_append, List.size_toArray, size_zeroCells, h4, rowsE_length, hN, List.length_singleton]
      omega
    · rw [rowsE_append, hlx]
      simp only [Array.toList_append]
      have : (rowsE l ++ rowsE [x]).length = (N + 1) * 4 := by rw [List.length_append, rowsE_length, rowsE_length, hN, List.length_singleton]; omega
      rw [← this]
      exact List.take_left
    · exact ((Below.refl _ w).drew).alloc (Nat.le_refl _) _
end Go.Proofs.Ytdhbomipffidlaa
