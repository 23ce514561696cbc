/-
  A range over a function whose iterator keeps a state of its own in cells, and whose rounds all go on: one law. No program in sight.
-/
import Derived.RangeFuncNested
import Derived.RangeFuncBound
import Derived.RangeFuncCalls
import Derived.RangeFuncLeaves
import Derived.Shelf.Abstract
import Derived.Shelf.RegionOpen
import Derived.WalkKit
import Derived.OwnWalkIn
import Derived.TacticsInMore
import Derived.LoopNIn
import Derived.LoopIn
import Derived.Maps.AppendAt
namespace Go.Proofs.Ytdhbomipffidlaa
open Go.RowKit Go.Shelf

/-- A scope through which the run goes without a goto, inside a fence. -/
theorem wpIn_scope_straight {F : Fence} {n : Nat} {P : Program} {c : Code} {Q : Exit → Act → World → Prop} {a : Act} {w : World} (h : c.wpIn F n P (Exit.noGoto Q) a w) : (Code.scope c).wpIn F n P Q a w := by
  intro b k cs hro hb hr
  obtain ⟨e, a₁, w₁, hq, harr⟩ := h b (.inScope c :: k) cs hro hb hr
  have s1 : StepsIn (Machine.fenced P F) P (lone (b.atR a (.code (.scope c) :: k)) cs w) (lone (b.atR a (.code c :: .inScope c :: k)) cs w) :=
    .one (fenced_calm (fr := b.atR a (.code (.scope c) :: k)) hb hr rfl) (step_lone_go (by simp [stepG, stepG.exec, Frame.atR]))
  have s2 : ∀ a' w', StepsIn (Machine.fenced P F) P (lone (b.atR a' (.inScope c :: k)) cs w') (lone (b.atR a' k) cs w') := fun a' w' =>
    .one (fenced_calm (fr := b.atR a' (.inScope c :: k)) hb hr rfl) (step_lone_go (by simp [stepG, stepG.exec, Frame.atR]))
  cases e with
  | normal => exact ⟨.normal, a₁, w₁, hq, s1.trans (StepsIn.trans harr (s2 _ _))⟩
  | exit id =>
    refine ⟨.exit id, a₁, w₁, hq, fun k' hk => s1.trans (harr.1 k' (by simp [exitTo, hk])), fun h1 h2 => ?_⟩
    obtain ⟨k1, hk1, hs⟩ := harr.2 h1 (by simp [exitTo, h2])
    exact ⟨k1, hk1, s1.trans hs⟩
  | goto l => exact hq.elim
  | ret => exact ⟨.ret, a₁, w₁, hq, .of_steps s1 harr⟩
  | panic ch => exact ⟨.panic ch, a₁, w₁, hq, .of_steps s1 harr⟩
  | outgrown => exact ⟨.outgrown, a₁, w₁, hq, .of_steps s1 harr⟩

theorem cells_kept {W W' : World} {row : Option Nat} {b : Nat} {cs : Array Value} {T : TypeId} {fr : Nat × Nat} (h : W.heap[b]? = some (.cells cs T fr)) (hg : W.grownBy W' row)
    (hr : ∀ r, row = some r → ∃ o : Obj, W.heap[r]? = some o ∧ o.isCells = false) : W'.heap[b]? = some (.cells cs T fr) := by
  refine (hg.block b (Array.getElem?_eq_some_iff.1 h).1 (fun e => ?_)).trans h
  obtain ⟨o, ho, hc⟩ := hr b e.symm
  rw [h] at ho
  cases ho
  cases hc
theorem keeps_of_cells {W W' : World} {b : Nat} {cs : Array Value} {T : TypeId} {fr : Nat × Nat} (h : W.heap[b]? = some (.cells cs T fr)) (hs : W'.heap.size = W.heap.size) (ho : ∀ k, k ≠ b → W'.heap[k]? = W.heap[k]?) : KeepsOthers W W' :=
  ⟨by omega, fun k o hk hc => (ho k (fun e => by subst e; rw [h] at hk; cases hk; cases hc)).trans hk⟩

/-- The iterator's promise: whatever J abides its own steps St and is carried on by each round, is carried through all of xs. -/
def SeqSt {α : Type} (F : Fence) (n : Nat) (P : Program) (gf : Nat) (lb : Array Value) (encs : α → Array Value) (Kp St : World → World → Prop) (S : List α → Prop) (N : Nat) (Pre : World → Prop) : Prop :=
  ∀ (l : Nat) (J : List α → World → Prop), (∀ pre A B, J pre A → St A B → J pre B) →
    (∀ pre x W1, J pre W1 → pre.length < N → YieldAt F (n - 1) P l (encs x) W1 fun e W' => e = .returned (.bool true) ∧ J (pre ++ [x]) W' ∧ Kp W1 W') →
    ∀ W, J [] W → Pre W → CallsIn F n P gf (#[.func (.yield l) #[] #[]] ++ lb) W fun e W' => (∃ v, e = .returned v) ∧ ∃ xs, S xs ∧ J xs W'

theorem wpIn_rangeFunc_st {α : Type} {F : Fence} {n : Nat} {P : Program} {g : Operand} {ps : Array Tmp} {assign body : Code} {Q : Exit → Act → World → Prop} {a : Act} {w : World}
    (hro : F.round = none) (h1 : 1 ≤ n) {gf : Nat} {lb : Array Value} (hg : a.eval g = .func (.func gf) #[] lb) (hFg : F.fn gf) (eg : ∀ args w, (callFunc gf args).run P w = .ok (.enter gf args) w)
    {encs : α → Array Value} {Kp St : World → World → Prop} {S : List α → Prop} {N : Nat} {Pre : World → Prop}
    (hseq : SeqSt F (n - 1) P gf lb encs Kp St S N Pre) (hPre : ∀ W, Below w.heap.size w W → Pre W)
    (hKt : ∀ {A B C : World}, Kp A B → Kp B C → Kp A C) (hKb : ∀ (W : World) (l : Nat) (o' : Obj), w.heap.size ≤ l → Kp W (W.putObj l o'))
    (hSt : ∀ (A B : World) (k : Nat) (o : Obj), St A B → A.heap[k]? = some o → o.isCells = false → B.heap[k]? = some o)
    (hps : ∀ x, (encs x).size = ps.size)
    (I : List α → World → Prop) (hI : OwnFrom w.heap.size I) (hIs : ∀ pre A B, I pre A → St A B → I pre B) (h0 : I [] w) (a₁ : α → Act)
    (hassign : ∀ (l : Nat) (x : α) (W : World) (K : Act → World → Prop), K (a₁ x) W →
      assign.wpIn (F.inRound l) (n - 1 - 1) P (Exit.then K (fun _ _ _ => False)) { tmps := (ps.zip (encs x)).foldl (fun t (p, v) => t.setIfInBounds p v) a.tmps, defers := [] } W)
    (hbody : ∀ (l : Nat) (pre : List α) (x : α) (W : World), I pre W → pre.length < N → body.wpIn (F.inRound l) (n - 1 - 1) P (fun e _ W' => e = .normal ∧ KeepsFrom w.heap.size W W' ∧ Kp W W' ∧ I (pre ++ [x]) W') (a₁ x) W)
    (hdone : ∀ (D : Nat) (xs : List α) (W : World), w.heap.size ≤ D → S xs → I xs W → W.heap[D]? = some (.deferred (some [])) → Q .normal { a with defers := { target := .collected D, args := #[] } :: a.defers } W) :
    (Code.rangeFunc g ps assign body).wpIn F n P Q a w := by
  refine wpIn_rangeFunc fun fn hfn => ?_
  rw [hro]
  generalize hrec : (fun (st : LoopState) (pe : Option Code) => ({ state := st, pending := pe, fn, tmps := a.tmps, params := ps, assign, body, defers := w.heap.size } : Loop)) = rec
  generalize hW1 : (w.alloc (.deferred (some []))).alloc (.loop (rec .ready none)) = W1
  have hb1 : Below w.heap.size w W1 := by
    rw [← hW1]; exact ((Below.refl _ w).alloc (Nat.le_refl _) _).alloc (by simp) _
  have hI1 : I [] W1 := by rw [← hW1]; exact hI.alloc _ (hI.alloc _ h0)
  have hL1 : W1.heap[w.heap.size + 1]? = some (.loop (rec .ready none)) := by
    rw [← hW1]
    have h := World.alloc_heap_new (w.alloc (.deferred (some []))) (.loop (rec .ready none))
    rwa [World.size_alloc] at h
  have hD1 : W1.heap[w.heap.size]? = some (.deferred (some [])) := by
    rw [← hW1]; exact (Below.heap_alloc _ _ _ (by simp)).trans (World.alloc_heap_new w _)
  refine ⟨w.heap.size + 1, [{ target := .collected w.heap.size, args := #[] }], W1, { target := .fn (.func gf) lb, args := #[.func (.yield (w.heap.size + 1)) #[] #[]] }, W1, gf,
    #[.func (.yield (w.heap.size + 1)) #[] #[]] ++ lb, W1, ?_, ?_, ?_, ?_, fun _ => h1, ?_⟩
  · rw [← hW1, ← hrec]; exact run_enterLoop_outer _ _ _ _ _
  · simp only [resolve, hg]
    simp [go_sem]
  · intro f' hf'; simp [Target.leads] at hf'; subst hf'; exact hFg
  · simp [invoke, go_sem, eg]
  · refine (hseq (w.heap.size + 1) (fun pre W => I pre W ∧ W.heap[w.heap.size + 1]? = some (.loop (rec .ready none)) ∧ W.heap[w.heap.size]? = some (.deferred (some [])))
      (fun pre A B h hst => ⟨hIs _ _ _ h.1 hst, hSt _ _ _ _ hst h.2.1 rfl, hSt _ _ _ _ hst h.2.2 rfl⟩) ?_ W1 ⟨hI1, hL1, hD1⟩ (hPre _ hb1)).mono ?_
    · rintro pre x W ⟨hi, hl, hd⟩ hlen
      have hlt : w.heap.size + 1 < W.heap.size := (Array.getElem?_eq_some_iff.1 hl).1
      have hst : (rec .ready none).state = .ready := by rw [← hrec]
      have hbusy : ({ rec .ready none with state := .busy } : Loop) = rec .busy none := by rw [← hrec]
      have hbeg := run_beginRound (P := P) hl hst
      rw [hbusy] at hbeg
      have hy := run_yield (P := P) (args := encs x) hl (by rw [← hrec]; exact hps x)
      refine ⟨_, _, _, _, hy, ?_⟩
      have e1 : (rec .ready none).fn = fn := by rw [← hrec]
      have e2 : (rec .ready none).params = ps := by rw [← hrec]
      have e3 : (rec .ready none).tmps = a.tmps := by rw [← hrec]
      have e4 : (rec .ready none).assign = assign := by rw [← hrec]
      have e5 : (rec .ready none).body = body := by rw [← hrec]
      rw [e1, e2, e3, e4, e5]
      refine roundIn_of_wpIn hfn (hassign _ x W _ ⟨_, hbeg, ?_⟩)
      have hl2 := World.putObj_heap_same (w := W) (o := .loop (rec .busy none)) hlt
      have hd2 := (World.putObj_heap_other (w := W) (o := .loop (rec .busy none)) (show w.heap.size ≠ w.heap.size + 1 by omega)).trans hd
      refine wpIn_mono (hbody _ pre x _ (hI.putObj _ hi (by omega) hl rfl) hlen) ?_
      rintro e a3 W3 ⟨rfl, hk3, hkp, hi3⟩
      have hl3 := hk3.same _ _ (by omega) hl2 rfl
      have hd3 := hk3.same _ _ (Nat.le_refl _) hd2 rfl
      have hend := run_endRound (P := P) none hl3
      have eR : ({ rec .busy none with state := if (none : Option Code).isNone = true then .ready else .done, pending := none } : Loop) = rec .ready none := by rw [← hrec]; rfl
      rw [eR] at hend
      refine ⟨_, _, hend, rfl, ⟨hI.putObj _ hi3 (by omega) hl3 rfl, World.putObj_heap_same (Array.getElem?_eq_some_iff.1 hl3).1, (World.putObj_heap_other (by omega)).trans hd3⟩,
        hKt (hKt (hKb _ _ _ (by omega)) hkp) (hKb _ _ _ (by omega))⟩
    · rintro e W2 ⟨⟨v, rfl⟩, xs, hS, hi, hl, hd⟩
      refine ⟨none, _, ?_, hdone _ xs _ (Nat.le_refl _) hS (hI.putObj (.loop (rec .exhausted none)) hi (by omega) hl rfl) ((World.putObj_heap_other (by omega)).trans hd)⟩
      have hend := run_endLoop (P := P) hl (by rw [← hrec]; simp)
      rw [← hrec] at hend ⊢
      exact hend

end Go.Proofs.Ytdhbomipffidlaa
