/-
  What the listed variables of package field give the walks; the door's own heap meets the condition.
-/
import Derived.Test.YtpekedldoplmmaaDoorFldA
import Derived.Test.YtpekedldoplmmaaDoorRows
import Derived.Test.YtpekedldoplmmaaDoorCards
import Derived.Test.YtpekedldoplmmaaDoorTie
import Derived.ProofKit
import Derived.LaidMore
import Derived.OpenShut
import Derived.Stop.Joined
import Derived.Stop.LaidTwo
import Derived.SevenTiedAt
namespace Go.Proofs.YtpekedldoplmmaaDoor
open Go.ChangeShapes Go.WideShapes Go.ChangeAt Go.RowKit

/-- What is listed. -/
abbrev laid2 {H : Type} : List (String × DataW H) := [("aviary/field.errMore", Rows.laid_aviary_field_errMore), ("aviary/field.errNone", Rows.laid_aviary_field_errNone)]
theorem gMore : Tryd.prog.globalNamed "aviary/field.errMore" = some 1 := by kernel_rfl
theorem gNone : Tryd.prog.globalNamed "aviary/field.errNone" = some 0 := by kernel_rfl
theorem tMore : (Tryd.prog.globals[1]?).map (·.type) = some 54 := by kernel_rfl
theorem tNone : (Tryd.prog.globals[0]?).map (·.type) = some 54 := by kernel_rfl
theorem es_star : "*" ++ "errors.errorString" = "*errors.errorString" := by decide
theorem es_row (u : TypeId) (h : Tryd.prog.typeName? 3 u = some "*errors.errorString") : u = 122 :=
  typeName_ptr_named (nm := "errors.errorString") (by rw [es_star]; kernel_rfl) (by kernel_rfl) (by decide) u (by rw [es_star]; exact h)
theorem es_cells : Tryd.prog.cellsOf 148 = 1 := by kernel_rfl
theorem str_cells : Tryd.prog.cellsOf 9 = 1 := by kernel_rfl

theorem door_met (os : Os) (args : Array Value) : laidMetH Tryd.prog laid2 ((World.doorLaid Tryd.prog 47 os).forCall (fun _ _ => 0) ⟨#[], args, []⟩).memory :=
  laidMetH_of_parts3 (fuel := 8) (laidMet_of_run' 8 (by kernel_rfl) (by kernel_rfl)) (by kernel_rfl) (by kernel_rfl)

theorem sent_of_laid {W : World} (h : laidMetH Tryd.prog laid2 W) : ∃ a b, Sent a b W.heap.size W := by
  rw [MakeChecks.laidMetH_plain _ _ _ (by kernel_rfl)] at h
  obtain ⟨a0, a1, s0, s1, c0, c1, t0, t1, hv0, hv1, hc0, hs0, hz0, hc1, hs1, hz1, hne, hb0, hb1⟩ := laid_sentinels2 h gMore tMore gNone tNone Tryd.underlying54 es_row Tryd.underlying122 Tryd.underlying148 rfl rfl Tryd.underlying9 es_cells str_cells
  have hg0 : W.cell? ⟨1, 0, none⟩ = some (.iface 122 (.pointer (some a0))) := by simpa using World.var?_cell gMore hv0 0
  have hg1 : W.cell? ⟨0, 0, none⟩ = some (.iface 122 (.pointer (some a1))) := by simpa using World.var?_cell gNone hv1 0
  have l0 := World.block_lt_of_cell? _ _ hg0
  have l1 := World.block_lt_of_cell? _ _ hg1
  refine ⟨a0, a1, hg0, hg1, hne, ⟨_, _, hb0⟩, ⟨_, _, hb1⟩, (Array.getElem?_eq_some_iff.1 hb0).1, (Array.getElem?_eq_some_iff.1 hb1).1, ?_, Nat.le_refl _⟩
  have l0' : 1 < W.heap.size := l0
  have l1' : 0 < W.heap.size := l1
  omega
end Go.Proofs.YtpekedldoplmmaaDoor
