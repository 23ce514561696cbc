/-
  A region that draws its order, walked by a plan: calm operations are taken first, where one alone may come up it comes, where two may both ways are walked. No program in sight.
-/
import Derived.Test.YtdhbomipffidlaaMixL
namespace Go.Proofs.Ytdhbomipffidlaa
open Go.RowKit

/-- In what order the operations are walked. -/
inductive Plan where
  | done
  | calm (i : Nat) (p : Plan)
  | one (i : Nat) (p : Plan)
  | fork (i : Nat) (p : Plan) (j : Nat) (q : Plan)

/-- Does the plan fit the region? -/
def planB (md : Region.Mode) (ops : Array Oper) (cs : List Nat) : Nat → Plan → Array Bool → Bool
  | 0, .done, listed => (Region.ready md ops listed).isEmpty
  | f + 1, .calm i p, listed => (Region.ready md ops listed).contains i && (Region.free md ops listed i && (!isEff (cs.getD i 0) && planB md ops cs f p (listed.setIfInBounds i true)))
  | f + 1, .one i p, listed => decide (Region.ready md ops listed = [i]) && planB md ops cs f p (listed.setIfInBounds i true)
  | f + 1, .fork i p j q, listed => decide (Region.ready md ops listed = [i, j]) && (planB md ops cs f p (listed.setIfInBounds i true) && planB md ops cs f q (listed.setIfInBounds j true))
  | _, _, _ => false
/-- The walk by a plan. -/
def wpP (F : Fence) (n : Nat) (P : Program) (ops : Array Oper) (C : World → Prop) (cs : List Nat) (Q : Act → World → Prop) : Plan → Act → World → Prop
  | .done, a, w => Q a w
  | .calm i p, a, w => opL F n P ops C cs i (wpP F n P ops C cs Q p) a w
  | .one i p, a, w => opL F n P ops C cs i (wpP F n P ops C cs Q p) a w
  | .fork i p j q, a, w => opL F n P ops C cs i (wpP F n P ops C cs Q p) a w ∧ opL F n P ops C cs j (wpP F n P ops C cs Q q) a w

section
variable {F : Fence} {n : Nat} {P : Program} {ops : Array Oper} {md : Region.Mode} {C : World → Prop} {Q : Act → World → Prop} {cs : List Nat}

theorem anyL_plan (hsel : Region.noSelect ops = true) : ∀ (f : Nat) (p : Plan) (listed : Array Bool) (a : Act) (w : World), HeadInv md ops ops.size listed → planB md ops cs f p listed = true → wpP F n P ops C cs Q p a w →
    anyL F n P md ops C cs (fun listed' a' w' => Region.ready md ops listed' = [] ∧ Q a' w') f listed a w
  | 0, .done, listed, a, w, _, hB, h => by
    unfold planB at hB
    exact ⟨by simpa using hB, h⟩
  | f + 1, .calm i p, listed, a, w, inv, hB, h => by
    unfold planB at hB
    simp only [Bool.and_eq_true, Bool.not_eq_true'] at hB
    obtain ⟨h1, h2, h3, h4⟩ := hB
    have hr : i ∈ Region.ready md ops listed := by simpa using h1
    obtain ⟨_, o, h0, _⟩ := mem_ready.1 hr
    have hop : opL F n P ops C cs i (anyL F n P md ops C cs (fun listed' a' w' => Region.ready md ops listed' = [] ∧ Q a' w') f (listed.setIfInBounds i true)) a w :=
      opL_mono (fun a' w' _ hk => anyL_plan hsel f p _ a' w' (inv.set hr (ready_lt hr)) h4 hk) h
    obtain ⟨v, hy, hK⟩ := ym_of_opL h0 h3 hop
    exact anyL_calm h0 (Region.noSelect_spec hsel) h3 (fun listed' a' w' hL j hj => by rw [hL.1] at hj; cases hj) f listed a w inv (Region.free_spec h0 h2) hr hy hK
  | f + 1, .one i p, listed, a, w, inv, hB, h => by
    unfold planB at hB
    simp only [Bool.and_eq_true, decide_eq_true_eq] at hB
    obtain ⟨h1, h4⟩ := hB
    have hr : i ∈ Region.ready md ops listed := by rw [h1]; simp
    refine ⟨by rw [h1]; simp, fun k hk => ?_⟩
    rw [h1] at hk
    obtain rfl : k = i := by simpa using hk
    exact opL_mono (fun a' w' _ hk => anyL_plan hsel f p _ a' w' (inv.set hr (ready_lt hr)) h4 hk) h
  | f + 1, .fork i p j q, listed, a, w, inv, hB, h => by
    unfold planB at hB
    simp only [Bool.and_eq_true, decide_eq_true_eq] at hB
    obtain ⟨h1, h4, h5⟩ := hB
    have hri : i ∈ Region.ready md ops listed := by rw [h1]; simp
    have hrj : j ∈ Region.ready md ops listed := by rw [h1]; simp
    refine ⟨by rw [h1]; simp, fun k hk => ?_⟩
    rw [h1] at hk
    rcases (by simpa using hk : k = i ∨ k = j) with rfl | rfl
    · exact opL_mono (fun a' w' _ hk => anyL_plan hsel f p _ a' w' (inv.set hri (ready_lt hri)) h4 hk) h.1
    · exact opL_mono (fun a' w' _ hk => anyL_plan hsel f q _ a' w' (inv.set hrj (ready_lt hrj)) h5 hk) h.2
  | 0, .calm i p, listed, a, w, _, hB, h => by unfold planB at hB; cases hB
  | 0, .one i p, listed, a, w, _, hB, h => by unfold planB at hB; cases hB
  | 0, .fork i p j q, listed, a, w, _, hB, h => by unfold planB at hB; cases hB
  | f + 1, .done, listed, a, w, _, hB, h => by unfold planB at hB; cases hB

theorem region_plan {id : Nat} {Q' : Exit → Act → World → Prop} {a : Act} {w : World} {l : List Oper} (cs : List Nat) (p : Plan) (hsem : ∀ (i : Nat) o, l.toArray[i]? = some o → ∀ ρ, o.semAt F.round ρ = execOp ρ o)
    (hm : P.follows .mixedOrders = true) (hsel : Region.noSelect l.toArray = true) (hB : planB .any l.toArray cs l.toArray.size p (Array.replicate l.toArray.size false) = true) (hlast : lastB .any l.toArray cs = true) (hC : C w.drew)
    (h : wpP F n P l.toArray C cs (fun a' w' => Q' .normal a' w') p a w.drew) : (Code.region id l.toArray true).wpIn F n P Q' a w := by
  have hsz : l.toArray.size = l.length := by simp
  have inv0 : HeadInv .any l.toArray l.toArray.size (Array.replicate l.toArray.size false) :=
    ⟨by simp, fun j oj _ hl => (by rw [getD_replicate_false] at hl; cases hl), fun t ht h2 => absurd h2 (by omega)⟩
  have hst := StrL.of hlast
  have H := anyL_plan (md := .any) hsel _ p _ a w.drew inv0 hB h
  refine wpIn_region_any hm ?_
  exact wpAnyIn_of_anyL (Q' := Q') hsem hst (fun listed a' W hL => hL) _ _ _ _ inv0 (.inr hC) H

theorem wpP_done {a : Act} {w : World} (h : Q a w) : wpP F n P ops C cs Q .done a w := h
theorem wpP_calm {i : Nat} {p : Plan} {a : Act} {w : World} {o : Oper} (h0 : ops[i]? = some o) (hc : cs.getD i 0 = 0)
    (h : ∀ K : Act → Prop, (∀ a, wpP F n P ops C cs Q p a w → K a) → if Region.wanted o (yielded ops a.tmps) = true then calmOp F P o a C K else o.askedIn F P a C ∧ K (a.put o.dst undef)) : wpP F n P ops C cs Q (.calm i p) a w := by
  have h := h _ (fun _ h => h)
  unfold wpP opL clOf
  simp only [h0, hc]
  have e : ∀ u, ((0 : Nat) = 3 ∨ C u) → C u := fun u hu => hu.resolve_left (by simp)
  split
  · rename_i hw; rw [if_pos hw] at h
    rw [if_neg (by simp [isEff])]
    obtain ⟨h1, v, h2, h3⟩ := h
    exact ⟨askedIn_mono h1 e, v, fun u hu => h2 u (e u hu), h3⟩
  · rename_i hw; rw [if_neg hw] at h; exact ⟨askedIn_mono h.1 e, h.2⟩
theorem wpP_plain {i : Nat} {p : Plan} {a : Act} {w : World} {o : Oper} (h0 : ops[i]? = some o) (hc : cs.getD i 0 = 3)
    (h : ∀ K : Act → Prop, (∀ a, wpP F n P ops C cs Q p a w → K a) → if Region.wanted o (yielded ops a.tmps) = true then calmOp F P o a (fun _ => True) K else o.askedIn F P a (fun _ => True) ∧ K (a.put o.dst undef)) : wpP F n P ops C cs Q (.calm i p) a w := by
  have h := h _ (fun _ h => h)
  unfold wpP opL clOf
  simp only [h0, hc]
  split
  · rename_i hw; rw [if_pos hw] at h
    rw [if_neg (by simp [isEff])]
    obtain ⟨h1, v, h2, h3⟩ := h
    exact ⟨askedIn_mono h1 (fun _ _ => trivial), v, fun u _ => h2 u trivial, h3⟩
  · rename_i hw; rw [if_neg hw] at h; exact ⟨askedIn_mono h.1 (fun _ _ => trivial), h.2⟩
theorem wpP_one {i : Nat} {p : Plan} {a : Act} {w : World} (h : wpP F n P ops C cs Q (.calm i p) a w) : wpP F n P ops C cs Q (.one i p) a w := h
theorem wpP_eff {i : Nat} {p : Plan} {a : Act} {w : World} {o : Oper} (h0 : ops[i]? = some o) (hc : cs.getD i 0 = 1) (hg : o.guard = none)
    (h : ∀ K : Value → World → Prop, (∀ v w', C w' → wpP F n P ops C cs Q p (a.put o.dst v) w' → K v w') → effOp F n P o a w K) : wpP F n P ops C cs Q (.one i p) a w := by
  have h := h (fun v w' => ((1 : Nat) = 2 ∨ C w') ∧ wpP F n P ops C cs Q p (a.put o.dst v) w') (fun _ _ h1 h2 => ⟨.inr h1, h2⟩)
  have hw : Region.wanted o (yielded ops a.tmps) = true := by simp [Region.wanted, hg]
  unfold wpP opL
  simp only [h0, hc]
  rw [if_pos hw, if_pos (by simp [isEff])]
  exact h
theorem wpP_last {i : Nat} {p : Plan} {a : Act} {w : World} {o : Oper} (h0 : ops[i]? = some o) (hc : cs.getD i 0 = 2) (hg : o.guard = none)
    (h : ∀ K : Value → World → Prop, (∀ v w', wpP F n P ops C cs Q p (a.put o.dst v) w' → K v w') → effOp F n P o a w K) : wpP F n P ops C cs Q (.one i p) a w := by
  have h := h (fun v w' => (True ∨ C w') ∧ wpP F n P ops C cs Q p (a.put o.dst v) w') (fun _ _ h2 => ⟨.inl trivial, h2⟩)
  have hw : Region.wanted o (yielded ops a.tmps) = true := by simp [Region.wanted, hg]
  unfold wpP opL
  simp only [h0, hc]
  rw [if_pos hw, if_pos (by simp [isEff])]
  exact h
theorem wpP_fork {i j : Nat} {p q : Plan} {a : Act} {w : World} (h1 : wpP F n P ops C cs Q (.one i p) a w) (h2 : wpP F n P ops C cs Q (.one j q) a w) : wpP F n P ops C cs Q (.fork i p j q) a w := ⟨h1, h2⟩
end

theorem region_plan_round {n : Nat} {P : Program} {C : World → Prop} {r id : Nat} {Q' : Exit → Act → World → Prop} {a : Act} {w : World} {l : List Oper} (cs : List Nat) (p : Plan) (hm : P.follows .mixedOrders = true) (hsel : Region.noSelect l.toArray = true) (hB : planB .any l.toArray cs l.toArray.size p (Array.replicate l.toArray.size false) = true) (hlast : lastB .any l.toArray cs = true) (hd : noDefer l = true) (hC : C w.drew)
    (h : wpP (Fence.wide.inRound r) n P l.toArray C cs (fun a' w' => Q' .normal a' w') p a w.drew) : (Code.region id l.toArray true).wpIn (Fence.wide.inRound r) n P Q' a w :=
  region_plan cs p (fun i o hi => noDefer_sem hd _ i o hi) hm hsel hB hlast hC h
theorem region_plan_plain {P : Program} {C : World → Prop} {id : Nat} {Q' : Exit → Act → World → Prop} {a : Act} {w : World} {l : List Oper} (cs : List Nat) (p : Plan) (hm : P.follows .mixedOrders = true) (hsel : Region.noSelect l.toArray = true) (hB : planB .any l.toArray cs l.toArray.size p (Array.replicate l.toArray.size false) = true) (hlast : lastB .any l.toArray cs = true) (hd : noDefer l = true) (hC : C w.drew)
    (h : wpP Fence.wide 3 P l.toArray C cs (fun a' w' => Q' .normal a' w') p a w.drew) : (Code.region id l.toArray true).wp P Q' a w :=
  (wpIn_wide (n := 3)).1 (region_plan cs p (fun i o hi => noDefer_sem hd _ i o hi) hm hsel hB hlast hC h)
end Go.Proofs.Ytdhbomipffidlaa
