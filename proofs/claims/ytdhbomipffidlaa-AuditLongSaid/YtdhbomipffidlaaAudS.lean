/-
  Words for the walks of audit. Printed by gen_audl.py.
-/
import Derived.Test.YtdhbomipffidlaaAudR
namespace Go.Proofs.Ytdhbomipffidlaa
open Go.RowKit Go.Shelf
attribute [local go_sem] Oper.semAt_some calmOp calmUpon effOp effUpon

/-- What stands behind a piece of code that lays a block wherever it may is asked once, of all the ways through it. -/
theorem wp_join_f3 {α β γ : Type} {P : Program} {c : Code} {Q : Exit → Act → World → Prop} {a : Act} {w : World} (f : α → β → γ → Act) (Φ : α → β → γ → World → Prop) (h1 : c.wp P (fun e a' w' => e = .normal ∧ ∃ x y z, a' = f x y z ∧ Φ x y z w') a w) (h2 : ∀ x y z w', Φ x y z w' → Q .normal (f x y z) w') : c.wp P Q a w :=
  wp_mono h1 fun e a' w' ⟨he, x, y, z, ha, h⟩ => by subst he ha; exact h2 x y z w' h
theorem LieE.put {W W' : World} {lo B : Nat} {o : Obj} {A : Option Addr} {l : LE} (h : LieE W lo A l) (hP : Put W W' B o) (hB : B < lo) : LieE W' lo A l := fun hl => by
  obtain ⟨g, o', cs, e1, e2, e3, e4⟩ := h hl
  exact ⟨g, o', cs, e1, e2, (hP.other (by omega)).trans e3, fun j hj => (e4 j hj).put hP (by omega)⟩
theorem LieE.new_put {W W' : World} {lo : Nat} {o o' : Obj} {A : Option Addr} {l : LE} (h : LieE W lo A l) (hP : Put (W.alloc o) W' W.heap.size o') : LieE W' lo A l := fun hl => by
  obtain ⟨g, off, cs, e1, e2, e3, e4⟩ := h hl
  have hlt := (Array.getElem?_eq_some_iff.1 e3).1
  have hB : Below W.heap.size W (W.alloc o) := (Below.refl _ W).alloc (Nat.le_refl _) _
  exact ⟨g, off, cs, e1, e2, (hP.other (by omega)).trans ((hB.block g hlt).trans e3), fun j hj => ((e4 j hj).below hB hlt).put hP (by omega)⟩
end Go.Proofs.Ytdhbomipffidlaa
