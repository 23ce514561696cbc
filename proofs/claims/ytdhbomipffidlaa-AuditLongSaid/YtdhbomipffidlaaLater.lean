/-
  Regions that draw their order and hold calls which make memory: one walk in the order of the text, in whatever world that is as the first one was below some block. No program in sight.
-/
import Derived.Test.YtdhbomipffidlaaMem
import Derived.WalkKit
import Derived.WalkSpells
import Derived.WalkLawsBesides
import Derived.BigQuiet
import Derived.Deep.QuietTactic
import Derived.Lib.Hide
namespace Go.Proofs.Ytdhbomipffidlaa
open Go.RowKit

/-- A world that is as w was below block B. -/
structure Later (B : Nat) (w : World) where
  W : World
  below : Below B w W

instance later_nonempty (B : Nat) (w : World) : Nonempty (Later B w) := ⟨⟨w, Below.refl B w⟩⟩

theorem wp_region_later {P : Program} {id : Nat} {Q : Exit → Act → World → Prop} {a : Act} {w : World} {l : List Oper} (B : Nat) (hm : P.follows .mixedOrders = true) (hB : Region.lexB .any l.toArray = true)
    (h : wpQuiet P l.toArray (fun W => ∃ s : Later B w, W = s.W) (fun a' => ∀ W, (∃ s : Later B w, W = s.W) → Q .normal a' W) l a) : (Code.region id l.toArray true).wp P Q a w :=
  wp_region_quiet (C := fun W => ∃ s : Later B w, W = s.W) hm hB ⟨⟨w.drew, (Below.refl B w).drew⟩, rfl⟩ (by simpa using h)

theorem Later.cell {B : Nat} {w : World} (s : Later B w) {p : Addr} {v : Value} (h : w.cell? p = some v) (hp : p.block < B) : s.W.cell? p = some v := (s.below.cell hp).trans h
/-- A callee that makes memory, within such a region. -/
theorem Calls.later {P : Program} {f : FuncId} {args : Array Value} {B : Nat} {w : World} {s : Later B w} {v : Value} (hB : B ≤ w.heap.size)
    (h : Calls P f args s.W fun e W' => e = .returned v ∧ Below s.W.heap.size s.W W') : Calls P f args s.W fun e W' => e = .returned v ∧ ∃ s' : Later B w, W' = s'.W :=
  h.mono fun _ W' ⟨he, hb⟩ => ⟨he, ⟨W', s.below.trans (hb.mono (Nat.le_trans hB s.below.size))⟩, rfl⟩
/-- A callee that leaves the world alone. -/
theorem Calls.later_same {P : Program} {f : FuncId} {args : Array Value} {B : Nat} {w : World} {s : Later B w} {v : Value}
    (h : Calls P f args s.W fun e W' => e = .returned v ∧ W' = s.W) : Calls P f args s.W fun e W' => e = .returned v ∧ ∃ s' : Later B w, W' = s'.W :=
  h.mono fun _ _ ⟨he, hb⟩ => ⟨he, s, hb⟩
/-- A callee that draws. -/
theorem Calls.later_drew {P : Program} {f : FuncId} {args : Array Value} {B : Nat} {w : World} {s : Later B w} {v : Value}
    (h : Calls P f args s.W fun e W' => e = .returned v ∧ ∃ n, W' = s.W.drewN n) : Calls P f args s.W fun e W' => e = .returned v ∧ ∃ s' : Later B w, W' = s'.W :=
  h.mono fun _ W' ⟨he, n, hb⟩ => ⟨he, ⟨W', by subst hb; exact ⟨s.below.os, s.below.tape, s.below.output, s.below.size, s.below.block⟩⟩, rfl⟩

end Go.Proofs.Ytdhbomipffidlaa
