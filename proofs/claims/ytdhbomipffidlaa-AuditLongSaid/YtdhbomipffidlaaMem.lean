/-
  Blocks of the memory: one block becomes another object, all else stays. No program in sight.
-/
import Derived.WalkKit
import Derived.Deep.Draws
namespace Go.Proofs.Ytdhbomipffidlaa
open Go.RowKit

/-- Block b of the world becomes o; nothing else turns. -/
structure Put (w w' : World) (b : Nat) (o : Obj) : Prop where
  heap : w'.heap = w.heap.setIfInBounds b o
  os : w'.os = w.os
  tape : w'.tape = w.tape
  output : w'.output = w.output
theorem Put.drew {w w' : World} {b : Nat} {o : Obj} (h : Put w w' b o) : Put w w'.drew b o := ⟨h.heap, h.os, h.tape, h.output⟩
theorem Put.drewN {w w' : World} {b : Nat} {o : Obj} (h : Put w w' b o) (n : Nat) : Put w (w'.drewN n) b o := ⟨h.heap, h.os, h.tape, h.output⟩
theorem Put.get {w w' : World} {b : Nat} {o : Obj} (h : Put w w' b o) (hb : b < w.heap.size) : w'.heap[b]? = some o := by
  rw [h.heap]; simp [hb]
theorem Put.size {w w' : World} {b : Nat} {o : Obj} (h : Put w w' b o) : w'.heap.size = w.heap.size := by rw [h.heap]; simp
theorem Put.other {w w' : World} {b : Nat} {o : Obj} (h : Put w w' b o) {k : Nat} (hk : k ≠ b) : w'.heap[k]? = w.heap[k]? := by
  rw [h.heap, Array.getElem?_setIfInBounds_ne (Ne.symm hk)]
theorem Put.trans {w w1 w2 : World} {b : Nat} {o1 o2 : Obj} (h : Put w w1 b o1) (k : Put w1 w2 b o2) : Put w w2 b o2 :=
  ⟨by rw [k.heap, h.heap]; exact Array.ext_getElem? fun i => by simp [Array.getElem?_setIfInBounds], k.os.trans h.os, k.tape.trans h.tape, k.output.trans h.output⟩
theorem Put.refl {w : World} {b : Nat} {o : Obj} (h : w.heap[b]? = some o) : Put w w b o :=
  ⟨Array.ext_getElem? fun i => by
    rw [Array.getElem?_setIfInBounds]
    by_cases hi : b = i
    · subst hi; rw [if_pos rfl, if_pos (Array.getElem?_eq_some_iff.1 h).1]; exact h
    · rw [if_neg hi], rfl, rfl, rfl⟩
theorem Put.set {w w' : World} {b : Nat} {cs : Array Value} {T : TypeId} {fr : Nat × Nat} (h : Put w w' b (.cells cs T fr)) (i : Nat) (v : Value) :
    Put w (w'.setCell ⟨b, i, none⟩ v) b (.cells (cs.setIfInBounds i v) T fr) := by
  refine ⟨?_, h.os, h.tape, h.output⟩
  simp only [World.setCell]
  rw [h.heap]
  refine Array.ext_getElem? fun k => ?_
  rw [Array.getElem?_modify, Array.getElem?_setIfInBounds, Array.getElem?_setIfInBounds]
  by_cases hk : b = k
  · subst hk
    by_cases hb : b < w.heap.size <;> simp [hb]
  · rw [if_neg hk, if_neg hk, if_neg hk]
theorem Put.below {w w' : World} {b B : Nat} {o : Obj} (h : Put w w' b o) (hB : B ≤ b) : Below B w w' :=
  ⟨h.os, h.tape, h.output, by rw [h.size]; exact Nat.le_refl _, fun k hk => h.other (by omega)⟩

theorem new_at (w : World) (o : Obj) (k : Nat) (h : k = w.heap.size) : (w.alloc o).heap[k]? = some o := by
  subst h
  show (w.heap.push o)[w.heap.size]? = _
  simp
theorem old_at {w : World} {o o' : Obj} {k : Nat} (h : w.heap[k]? = some o') : (w.alloc o).heap[k]? = some o' := by
  have hk := (Array.getElem?_eq_some_iff.1 h).1
  show (w.heap.push o)[k]? = _
  rw [Array.getElem?_push, if_neg (by omega)]; exact h
theorem abs_code {P : Program} {c : Code} {Q : Exit → Act → World → Prop} {a : Act} {w : World} (R : World → Prop) (h : R w) (k : ∀ w', R w' → c.wp P Q a w') : c.wp P Q a w := k w h
theorem abs_call {P : Program} {f : FuncId} {args : Array Value} {R0 : Ending → World → Prop} {w : World} (R : World → Prop) (h : R w) (k : ∀ w', R w' → Calls P f args w' R0) : Calls P f args w R0 := k w h
theorem abs_list {P : Program} {ops : Array Oper} {Q : Exit → Act → World → Prop} {a : Act} {w : World} (R : World → Prop) (h : R w) (k : ∀ w', R w' → wpList P ops Q [] a w') : wpList P ops Q [] a w := k w h


end Go.Proofs.Ytdhbomipffidlaa
