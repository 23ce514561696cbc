/-
  A range over a function once more: rounds that go on and rounds that leave; the iterator's own steps on the memory; what comes may hang on what has come; what the iterator leaves in the memory. No program in sight.
-/
import Derived.Test.YthnnbpmpaeddgaaIter
namespace Go.Proofs.Ythnnbpmpaeddgaa
open Go.RowKit Go.Shelf

/-- The iterator's promise. -/
def SeqGo {α : Type} (F : Fence) (n : Nat) (P : Program) (gf : Nat) (lb : Array Value) (encs : α → Array Value) (Kp St : World → World → Prop) (S Sp : List α → World → Prop) (Pre : World → Prop) (ok : List α → α → Prop) : Prop :=
  ∀ (l : Nat) (J Jx : List α → World → Prop), (∀ pre A B, J pre A → St A B → J pre B) → (∀ pre A B, Jx pre A → St A B → Jx pre B) →
    (∀ pre x W1, ok pre x → J pre W1 → YieldAt F (n - 1) P l (encs x) W1 fun e W' => (e = .returned (.bool true) ∧ J (pre ++ [x]) W' ∧ Kp W1 W') ∨ (e = .returned (.bool false) ∧ Jx (pre ++ [x]) W' ∧ Kp W1 W')) →
    ∀ W, J [] W → Pre W → CallsIn F n P gf (#[.func (.yield l) #[] #[]] ++ lb) W fun e W' => (∃ v, e = .returned v) ∧ ((∃ xs, S xs W' ∧ J xs W') ∨ (∃ pre, Sp pre W' ∧ Jx pre W'))

/-- How the body of a round may be left. -/
def postGo {α : Type} (B : Nat) (Kp : World → World → Prop) (I : List α → World → Prop) (Ix : Code → List α → World → Prop) (xs : List α) (W : World) : Exit → Act → World → Prop
  | .normal, _, W' => KeepsFrom B W W' ∧ Kp W W' ∧ I xs W'
  | .ret, _, W' => KeepsFrom B W W' ∧ Kp W W' ∧ Ix .ret xs W'
  | .exit id, _, W' => KeepsFrom B W W' ∧ Kp W W' ∧ Ix (.exit id) xs W'
  | .goto t, _, W' => KeepsFrom B W W' ∧ Kp W W' ∧ Ix (.goto t) xs W'
  | .panic _, _, _ => False
  | .outgrown, _, _ => False

theorem wpIn_rangeFunc_go {α : Type} {F : Fence} {n : Nat} {P : Program} {g : Operand} {ps : Array Tmp} {assign body : Code} {Q : Exit → Act → World → Prop} {a : Act} {w : World}
    (hro : F.round = none) (h1 : 1 ≤ n) {gf : Nat} {lb : Array Value} (hg : a.eval g = .func (.func gf) #[] lb) (hFg : F.fn gf) (eg : ∀ args w, (callFunc gf args).run P w = .ok (.enter gf args) w)
    {encs : α → Array Value} {Kp St : World → World → Prop} {S Sp : List α → World → Prop} {Pre : World → Prop} {ok : List α → α → Prop}
    (hseq : SeqGo F (n - 1) P gf lb encs Kp St S Sp Pre ok) (hPre : ∀ W, Below w.heap.size w W → Pre W)
    (hKt : ∀ {A B C : World}, Kp A B → Kp B C → Kp A C) (hKb : ∀ (W : World) (l : Nat) (o' : Obj), w.heap.size ≤ l → Kp W (W.putObj l o'))
    (hSt : ∀ (A B : World) (k : Nat) (o : Obj), St A B → A.heap[k]? = some o → o.isCells = false → B.heap[k]? = some o)
    (hS : OwnFrom w.heap.size S) (hSp : OwnFrom w.heap.size Sp) (hps : ∀ x, (encs x).size = ps.size)
    (I : List α → World → Prop) (Ix : Code → List α → World → Prop) (hI : OwnFrom w.heap.size I) (hIx : ∀ c, OwnFrom w.heap.size (Ix c)) (hIs : ∀ pre A B, I pre A → St A B → I pre B) (hIxs : ∀ c pre A B, Ix c pre A → St A B → Ix c pre B) (h0 : I [] w) (a₁ : α → Act)
    (hassign : ∀ (l : Nat) (x : α) (W : World) (K : Act → World → Prop), K (a₁ x) W →
      assign.wpIn (F.inRound l) (n - 1 - 1) P (Exit.then K (fun _ _ _ => False)) { tmps := (ps.zip (encs x)).foldl (fun t (p, v) => t.setIfInBounds p v) a.tmps, defers := [] } W)
    (hbody : ∀ (l : Nat) (pre : List α) (x : α) (W : World), ok pre x → I pre W → body.wpIn (F.inRound l) (n - 1 - 1) P (postGo w.heap.size Kp I Ix (pre ++ [x]) W) (a₁ x) W)
    (hdone : ∀ (D : Nat) (xs : List α) (W : World), w.heap.size ≤ D → S xs W → I xs W → W.heap[D]? = some (.deferred (some [])) → Q .normal { a with defers := { target := .collected D, args := #[] } :: a.defers } W)
    (hstop : ∀ (D : Nat) (c : Code) (pre : List α) (W : World), w.heap.size ≤ D → Sp pre W → Ix c pre W → W.heap[D]? = some (.deferred (some [])) → c.wpIn F n P Q { a with defers := { target := .collected D, args := #[] } :: a.defers } W) :
    (Code.rangeFunc g ps assign body).wpIn F n P Q a w := by
  refine wpIn_rangeFunc fun fn hfn => ?_
  rw [hro]
  generalize hrec : (fun (st : LoopState) (pe : Option Code) => ({ state := st, pending := pe, fn, tmps := a.tmps, params := ps, assign, body, defers := w.heap.size } : Loop)) = rec
  generalize hW1 : (w.alloc (.deferred (some []))).alloc (.loop (rec .ready none)) = W1
  have hb1 : Below w.heap.size w W1 := by
    rw [← hW1]; exact ((Below.refl _ w).alloc (Nat.le_refl _) _).alloc (by simp) _
  have hI1 : I [] W1 := by rw [← hW1]; exact hI.alloc _ (hI.alloc _ h0)
  have hL1 : W1.heap[w.heap.size + 1]? = some (.loop (rec .ready none)) := by
    rw [← hW1]
    have h := World.alloc_heap_new (w.alloc (.deferred (some []))) (.loop (rec .ready none))
    rwa [World.size_alloc] at h
  have hD1 : W1.heap[w.heap.size]? = some (.deferred (some [])) := by
    rw [← hW1]; exact (Below.heap_alloc _ _ _ (by simp)).trans (World.alloc_heap_new w _)
  refine ⟨w.heap.size + 1, [{ target := .collected w.heap.size, args := #[] }], W1, { target := .fn (.func gf) lb, args := #[.func (.yield (w.heap.size + 1)) #[] #[]] }, W1, gf,
    #[.func (.yield (w.heap.size + 1)) #[] #[]] ++ lb, W1, ?_, ?_, ?_, ?_, fun _ => h1, ?_⟩
  · rw [← hW1, ← hrec]; exact run_enterLoop_outer _ _ _ _ _
  · simp only [resolve, hg]
    simp [go_sem]
  · intro f' hf'; simp [Target.leads] at hf'; subst hf'; exact hFg
  · simp [invoke, go_sem, eg]
  · refine (hseq (w.heap.size + 1) (fun pre W => I pre W ∧ W.heap[w.heap.size + 1]? = some (.loop (rec .ready none)) ∧ W.heap[w.heap.size]? = some (.deferred (some [])))
      (fun pre W => ∃ c, Ix c pre W ∧ W.heap[w.heap.size + 1]? = some (.loop (rec .done (some c))) ∧ W.heap[w.heap.size]? = some (.deferred (some [])))
      (fun pre A B h hst => ⟨hIs _ _ _ h.1 hst, hSt _ _ _ _ hst h.2.1 rfl, hSt _ _ _ _ hst h.2.2 rfl⟩)
      (fun pre A B h hst => by obtain ⟨c, hc, hl, hk⟩ := h; exact ⟨c, hIxs c _ _ _ hc hst, hSt _ _ _ _ hst hl rfl, hSt _ _ _ _ hst hk rfl⟩) ?_ W1 ⟨hI1, hL1, hD1⟩ (hPre _ hb1)).mono ?_
    · rintro pre x W hok ⟨hi, hl, hd⟩
      have hlt : w.heap.size + 1 < W.heap.size := (Array.getElem?_eq_some_iff.1 hl).1
      have hst : (rec .ready none).state = .ready := by rw [← hrec]
      have hbusy : ({ rec .ready none with state := .busy } : Loop) = rec .busy none := by rw [← hrec]
      have hbeg := run_beginRound (P := P) hl hst
      rw [hbusy] at hbeg
      have hy := run_yield (P := P) (args := encs x) hl (by rw [← hrec]; exact hps x)
      refine ⟨_, _, _, _, hy, ?_⟩
      have e1 : (rec .ready none).fn = fn := by rw [← hrec]
      have e2 : (rec .ready none).params = ps := by rw [← hrec]
      have e3 : (rec .ready none).tmps = a.tmps := by rw [← hrec]
      have e4 : (rec .ready none).assign = assign := by rw [← hrec]
      have e5 : (rec .ready none).body = body := by rw [← hrec]
      rw [e1, e2, e3, e4, e5]
      refine roundIn_of_wpIn hfn (hassign _ x W _ ⟨_, hbeg, ?_⟩)
      have hl2 := World.putObj_heap_same (w := W) (o := .loop (rec .busy none)) hlt
      have hd2 := (World.putObj_heap_other (w := W) (o := .loop (rec .busy none)) (show w.heap.size ≠ w.heap.size + 1 by omega)).trans hd
      refine wpIn_mono (hbody _ pre x _ hok (hI.putObj _ hi (by omega) hl rfl)) ?_
      have fin : ∀ (jump : Option Code) (W3 : World), KeepsFrom w.heap.size (W.putObj (w.heap.size + 1) (.loop (rec .busy none))) W3 →
          (Instr.endRound (w.heap.size + 1) jump).run P W3 = .ok (.bool jump.isNone) (W3.putObj (w.heap.size + 1) (.loop (rec (if jump.isNone then .ready else .done) jump))) ∧
          W3.heap[w.heap.size + 1]? = some (.loop (rec .busy none)) ∧
          (W3.putObj (w.heap.size + 1) (.loop (rec (if jump.isNone then .ready else .done) jump))).heap[w.heap.size + 1]? = some (.loop (rec (if jump.isNone then .ready else .done) jump)) ∧
          (W3.putObj (w.heap.size + 1) (.loop (rec (if jump.isNone then .ready else .done) jump))).heap[w.heap.size]? = some (.deferred (some [])) := fun jump W3 hk3 => by
        have hl3 := hk3.same _ _ (by omega) hl2 rfl
        have hend := run_endRound (P := P) jump hl3
        have eR : ({ rec .busy none with state := if jump.isNone = true then .ready else .done, pending := jump } : Loop) = rec (if jump.isNone then .ready else .done) jump := by rw [← hrec]
        rw [eR] at hend
        exact ⟨hend, hl3, World.putObj_heap_same (Array.getElem?_eq_some_iff.1 hl3).1, (World.putObj_heap_other (by omega)).trans (hk3.same _ _ (Nat.le_refl _) hd2 rfl)⟩
      rintro e a3 W3 hp
      cases e with
      | normal =>
        obtain ⟨hk3, hkp3, hi3⟩ := hp
        obtain ⟨hr, hl3, hl4, hk4⟩ := fin none W3 hk3
        exact ⟨_, _, hr, .inl ⟨rfl, ⟨hI.putObj _ hi3 (by omega) hl3 rfl, hl4, hk4⟩, hKt (hKt (hKb _ _ _ (by omega)) hkp3) (hKb _ _ _ (by omega))⟩⟩
      | ret =>
        obtain ⟨hk3, hkp3, hi3⟩ := hp
        obtain ⟨hr, hl3, hl4, hk4⟩ := fin (some .ret) W3 hk3
        exact ⟨_, _, hr, .inr ⟨rfl, ⟨.ret, (hIx _).putObj _ hi3 (by omega) hl3 rfl, hl4, hk4⟩, hKt (hKt (hKb _ _ _ (by omega)) hkp3) (hKb _ _ _ (by omega))⟩⟩
      | exit id =>
        obtain ⟨hk3, hkp3, hi3⟩ := hp
        obtain ⟨hr, hl3, hl4, hk4⟩ := fin (some (.exit id)) W3 hk3
        exact ⟨_, _, hr, .inr ⟨rfl, ⟨.exit id, (hIx _).putObj _ hi3 (by omega) hl3 rfl, hl4, hk4⟩, hKt (hKt (hKb _ _ _ (by omega)) hkp3) (hKb _ _ _ (by omega))⟩⟩
      | goto t =>
        obtain ⟨hk3, hkp3, hi3⟩ := hp
        obtain ⟨hr, hl3, hl4, hk4⟩ := fin (some (.goto t)) W3 hk3
        exact ⟨_, _, hr, .inr ⟨rfl, ⟨.goto t, (hIx _).putObj _ hi3 (by omega) hl3 rfl, hl4, hk4⟩, hKt (hKt (hKb _ _ _ (by omega)) hkp3) (hKb _ _ _ (by omega))⟩⟩
      | panic ch => exact hp.elim
      | outgrown => exact hp.elim
    · rintro e W2 ⟨⟨v, rfl⟩, (⟨xs, hSx, hi, hl, hd⟩ | ⟨pre, hSpx, c, hi, hl, hd⟩)⟩
      · refine ⟨none, _, ?_, hdone _ xs _ (Nat.le_refl _) (hS.putObj (.loop (rec .exhausted none)) hSx (by omega) hl rfl) (hI.putObj (.loop (rec .exhausted none)) hi (by omega) hl rfl) ((World.putObj_heap_other (by omega)).trans hd)⟩
        have hend := run_endLoop (P := P) hl (by rw [← hrec]; simp)
        rw [← hrec] at hend ⊢
        exact hend
      · refine ⟨some c, _, ?_, hstop _ c pre _ (Nat.le_refl _) (hSp.putObj (.loop (rec .exhausted (some c))) hSpx (by omega) hl rfl) ((hIx c).putObj (.loop (rec .exhausted (some c))) hi (by omega) hl rfl) ((World.putObj_heap_other (by omega)).trans hd)⟩
        have hend := run_endLoop (P := P) hl (by rw [← hrec]; simp)
        rw [← hrec] at hend ⊢
        exact hend
end Go.Proofs.Ythnnbpmpaeddgaa
