/-
  The law of mixed regions once more, with a last operation that leaves the class of worlds, and operations beside it that ask nothing of the memory. No program in sight.
-/
import Derived.Test.YtdhbomipffidlaaMix
namespace Go.Proofs.Ytdhbomipffidlaa
open Go.RowKit

def isEff (c : Nat) : Bool := c == 1 || c == 2
/-- The worlds in which operation i must read the same: all, if it is plain (3). -/
def clOf (cs : List Nat) (C : World → Prop) (i : Nat) (w : World) : Prop := cs.getD i 0 = 3 ∨ C w

/-- The walk in the order of the text; codes: 0 reads, 1 turns the memory within the class, 2 the last one that does, and leaves it, 3 asks nothing of the memory. -/
def wpL (F : Fence) (n : Nat) (P : Program) (ops : Array Oper) (C : World → Prop) (Q : Act → World → Prop) : List Nat → List Oper → Act → World → Prop
  | _, [], a, w => Q a w
  | c, o :: rest, a, w => if Region.wanted o (yielded ops a.tmps) = true then
      (if isEff (c.headD 0) = true then effOp F n P o a w (fun v w' => (c.headD 0 = 2 ∨ C w') ∧ wpL F n P ops C Q c.tail rest (a.put o.dst v) w')
       else calmOp F P o a (fun u => c.headD 0 = 3 ∨ C u) (fun a' => wpL F n P ops C Q c.tail rest a' w))
    else o.askedIn F P a (fun u => c.headD 0 = 3 ∨ C u) ∧ wpL F n P ops C Q c.tail rest (a.put o.dst undef) w

section
variable {F : Fence} {n : Nat} {P : Program} {ops : Array Oper} {md : Region.Mode} {C : World → Prop} {Q : Act → World → Prop} {cs : List Nat}

theorem wpL_nil {c : List Nat} {a : Act} {w : World} (h : Q a w) : wpL F n P ops C Q c [] a w := by cases c <;> exact h
theorem askedIn_mono {o : Oper} {a : Act} {C C' : World → Prop} (h : o.askedIn F P a C) (k : ∀ u, C' u → C u) : o.askedIn F P a C' := by
  unfold Oper.askedIn at *
  exact fun w hc => h w (k w hc)
theorem wpL_calm {c : List Nat} {a : Act} {w : World} {o : Oper} {rest : List Oper}
    (h : ∀ K : Act → Prop, (∀ a, wpL F n P ops C Q c rest a w → K a) → if Region.wanted o (yielded ops a.tmps) = true then calmOp F P o a C K else o.askedIn F P a C ∧ K (a.put o.dst undef)) : wpL F n P ops C Q (0 :: c) (o :: rest) a w := by
  have h := h _ (fun _ h => h)
  unfold wpL
  have e : ∀ u, ((0 :: c).headD 0 = 3 ∨ C u) → C u := fun u hu => hu.resolve_left (by simp)
  split
  · rename_i hw; rw [if_pos hw] at h
    rw [if_neg (by simp [isEff])]
    obtain ⟨h1, v, h2, h3⟩ := h
    exact ⟨askedIn_mono h1 e, v, fun u hu => h2 u (e u hu), h3⟩
  · rename_i hw; rw [if_neg hw] at h; exact ⟨askedIn_mono h.1 e, h.2⟩
theorem wpL_plain {c : List Nat} {a : Act} {w : World} {o : Oper} {rest : List Oper}
    (h : ∀ K : Act → Prop, (∀ a, wpL F n P ops C Q c rest a w → K a) → if Region.wanted o (yielded ops a.tmps) = true then calmOp F P o a (fun _ => True) K else o.askedIn F P a (fun _ => True) ∧ K (a.put o.dst undef)) : wpL F n P ops C Q (3 :: c) (o :: rest) a w := by
  have h := h _ (fun _ h => h)
  unfold wpL
  split
  · rename_i hw; rw [if_pos hw] at h
    rw [if_neg (by simp [isEff])]
    obtain ⟨h1, v, h2, h3⟩ := h
    exact ⟨askedIn_mono h1 (fun _ _ => trivial), v, fun u _ => h2 u trivial, h3⟩
  · rename_i hw; rw [if_neg hw] at h; exact ⟨askedIn_mono h.1 (fun _ _ => trivial), h.2⟩
theorem wpL_eff {c : List Nat} {a : Act} {w : World} {o : Oper} {rest : List Oper} (hg : o.guard = none)
    (h : ∀ K : Value → World → Prop, (∀ v w', C w' → wpL F n P ops C Q c rest (a.put o.dst v) w' → K v w') → effOp F n P o a w K) : wpL F n P ops C Q (1 :: c) (o :: rest) a w := by
  have h := h (fun v w' => ((1 :: c).headD 0 = 2 ∨ C w') ∧ wpL F n P ops C Q c rest (a.put o.dst v) w') (fun _ _ h1 h2 => ⟨.inr h1, h2⟩)
  unfold wpL
  have hw : Region.wanted o (yielded ops a.tmps) = true := by simp [Region.wanted, hg]
  rw [if_pos hw]; simpa [isEff] using h
theorem wpL_last {c : List Nat} {a : Act} {w : World} {o : Oper} {rest : List Oper} (hg : o.guard = none)
    (h : ∀ K : Value → World → Prop, (∀ v w', wpL F n P ops C Q c rest (a.put o.dst v) w' → K v w') → effOp F n P o a w K) : wpL F n P ops C Q (2 :: c) (o :: rest) a w := by
  have h := h (fun v w' => ((2 :: c).headD 0 = 2 ∨ C w') ∧ wpL F n P ops C Q c rest (a.put o.dst v) w') (fun _ _ h2 => ⟨.inl rfl, h2⟩)
  unfold wpL
  have hw : Region.wanted o (yielded ops a.tmps) = true := by simp [Region.wanted, hg]
  rw [if_pos hw]; simpa [isEff] using h

def opL (F : Fence) (n : Nat) (P : Program) (ops : Array Oper) (C : World → Prop) (cs : List Nat) (i : Nat) (K : Act → World → Prop) (a : Act) (w : World) : Prop :=
  match ops[i]? with
  | none => K a w
  | some o => if Region.wanted o (yielded ops a.tmps) = true then
      (if isEff (cs.getD i 0) = true then effOp F n P o a w (fun v w' => (cs.getD i 0 = 2 ∨ C w') ∧ K (a.put o.dst v) w') else calmOp F P o a (clOf cs C i) (fun a' => K a' w))
    else o.askedIn F P a (clOf cs C i) ∧ K (a.put o.dst undef) w

theorem opL_mono {i : Nat} {a : Act} {w : World} {K K' : Act → World → Prop} (h : ∀ a w', (w' = w ∨ cs.getD i 0 = 2 ∨ C w') → K a w' → K' a w') (hh : opL F n P ops C cs i K a w) : opL F n P ops C cs i K' a w := by
  unfold opL at *
  split
  · rename_i ho; simp only [ho] at hh; exact h _ _ (.inl rfl) hh
  · rename_i o ho
    simp only [ho] at hh
    split
    · rename_i hw
      rw [if_pos hw] at hh
      split
      · rename_i hb; rw [if_pos hb] at hh; exact effOp_mono (fun v w' ⟨hc, hk⟩ => ⟨hc, h _ _ (.inr hc) hk⟩) hh
      · rename_i hb; rw [if_neg hb] at hh
        obtain ⟨h1, v, h2, h3⟩ := hh
        exact ⟨h1, v, h2, h _ _ (.inl rfl) h3⟩
    · rename_i hw
      rw [if_neg hw] at hh
      exact ⟨hh.1, h _ _ (.inl rfl) hh.2⟩

theorem wpOpIn_of_opL {Q' : Exit → Act → World → Prop} (hsem : ∀ (i : Nat) o, ops[i]? = some o → ∀ ρ, o.semAt F.round ρ = execOp ρ o) {i : Nat} {a : Act} {w : World} {K K' : Act → World → Prop} (hC : clOf cs C i w)
    (h : ∀ a w', (w' = w ∨ cs.getD i 0 = 2 ∨ C w') → K a w' → K' a w') (hh : opL F n P ops C cs i K a w) : wpOpIn F n P ops Q' i K' a w := by
  unfold opL at hh
  unfold wpOpIn
  split
  · rename_i ho; simp only [ho] at hh; exact h _ _ (.inl rfl) hh
  · rename_i o ho
    simp only [ho] at hh
    split
    · rename_i hw
      rw [if_pos hw] at hh
      unfold Oper.wpIn
      rw [hsem i o ho]
      split at hh
      · refine ⟨hh.1, ?_⟩
        have hh := hh.2
        generalize (execOp a.eval o).run P w = r at *
        cases r with
        | ok x w' =>
          cases x <;> simp only [effUpon] at hh <;> simp only [Oper.uponIn]
          case value v => exact h _ _ (.inr hh.1) hh.2
          case skip => exact h _ _ (.inr hh.1) hh.2
          case enter f args => exact ⟨hh.1, hh.2.mono fun e w'' ⟨v, he, hr⟩ => by subst he; exact h _ _ (.inr hr.1) hr.2⟩
        | halt x w' => simp only [effUpon] at hh
      · obtain ⟨h1, v, h2, h3⟩ := hh
        refine ⟨h1 w hC, ?_⟩
        have h2 := h2 w hC
        generalize (execOp a.eval o).run P w = r at *
        cases r with
        | ok x w' =>
          cases x <;> simp only [calmUpon] at h2 <;> simp only [Oper.uponIn]
          case value u => obtain ⟨rfl, rfl⟩ := h2; exact h _ _ (.inl rfl) h3
          case skip => obtain ⟨rfl, rfl⟩ := h2; exact h _ _ (.inl rfl) h3
        | halt x w' => simp only [calmUpon] at h2
    · rename_i hw
      rw [if_neg hw] at hh
      exact ⟨hh.1 w hC, h _ _ (.inl rfl) hh.2⟩

/-- The last one has been. -/
def Gone (cs : List Nat) (listed : Array Bool) : Prop := ∃ i, cs.getD i 0 = 2 ∧ listed.getD i false = true
def InvL (cs : List Nat) (C : World → Prop) (listed : Array Bool) (w : World) : Prop := Gone cs listed ∨ C w
/-- Where the last one has been, all but the plain ones have. -/
def StrL (md : Region.Mode) (ops : Array Oper) (cs : List Nat) : Prop := ∀ (listed : Array Bool), HeadInv md ops ops.size listed → Gone cs listed → ∀ j, j < ops.size → cs.getD j 0 ≠ 3 → listed.getD j false = true

theorem Gone.set {listed : Array Bool} {j : Nat} (h : Gone cs listed) : Gone cs (listed.setIfInBounds j true) := by
  obtain ⟨i, h1, h2⟩ := h
  exact ⟨i, h1, getD_set_true h2⟩
theorem gone_set {listed : Array Bool} {j : Nat} (hj : j < listed.size) (h : cs.getD j 0 = 2) : Gone cs (listed.setIfInBounds j true) := ⟨j, h, by simp [hj]⟩
theorem InvL.next {listed : Array Bool} {j : Nat} {w w' : World} (hj : j < listed.size) (h : InvL cs C listed w) (k : w' = w ∨ cs.getD j 0 = 2 ∨ C w') : InvL cs C (listed.setIfInBounds j true) w' := by
  rcases k with rfl | k | k
  · rcases h with h | h
    · exact .inl h.set
    · exact .inr h
  · exact .inl (gone_set hj k)
  · exact .inr k
theorem InvL.cl {listed : Array Bool} {j : Nat} {w : World} (hst : StrL md ops cs) (inv : HeadInv md ops ops.size listed) (h : InvL cs C listed w) (hj : j < ops.size) (hun : listed.getD j false = false) : clOf cs C j w := by
  by_cases h3 : cs.getD j 0 = 3
  · exact .inl h3
  · rcases h with h | h
    · have := hst listed inv h j hj h3
      rw [this] at hun; cases hun
    · exact .inr h

def anyL (F : Fence) (n : Nat) (P : Program) (md : Region.Mode) (ops : Array Oper) (C : World → Prop) (cs : List Nat) (L : Array Bool → Act → World → Prop) : Nat → Array Bool → Act → World → Prop
  | 0, listed, a, w => L listed a w
  | f + 1, listed, a, w => Region.ready md ops listed ≠ [] ∧ ∀ i ∈ Region.ready md ops listed, opL F n P ops C cs i (anyL F n P md ops C cs L f (listed.setIfInBounds i true)) a w

theorem ready_lt {listed : Array Bool} {i : Nat} (hi : i ∈ Region.ready md ops listed) : i < ops.size := by
  obtain ⟨_, oj, hoj, _⟩ := mem_ready.1 hi
  exact (Array.getElem?_eq_some_iff.1 hoj).1

theorem wpAnyIn_of_anyL {L : Array Bool → Act → World → Prop} {Q' : Exit → Act → World → Prop} (hsem : ∀ (i : Nat) o, ops[i]? = some o → ∀ ρ, o.semAt F.round ρ = execOp ρ o) (hst : StrL md ops cs) (hL : ∀ listed a w, L listed a w → wpAnyIn F n P md ops Q' 0 listed a w) :
    ∀ (f : Nat) (listed : Array Bool) (a : Act) (w : World), HeadInv md ops ops.size listed → InvL cs C listed w → anyL F n P md ops C cs L f listed a w → wpAnyIn F n P md ops Q' f listed a w
  | 0, _, _, _, _, _, h => hL _ _ _ h
  | f + 1, listed, a, w, inv, hC, h => by
    refine ⟨fun h0 => absurd h0 h.1, fun i hi => ?_⟩
    have hlt := ready_lt hi
    have hls : i < listed.size := by rw [inv.size]; exact hlt
    exact wpOpIn_of_opL hsem (hC.cl hst inv hlt (getD_both (mem_ready.1 hi).1)) (fun a' w' hw' h' => wpAnyIn_of_anyL hsem hst hL f _ a' w' (inv.set hi hlt) (hC.next hls hw') h') (h.2 i hi)

theorem YM.opL {i : Nat} {o : Oper} {v : Value} {a : Act} {w : World} (hi : ops[i]? = some o) (he : isEff (cs.getD i 0) = false ∨ Region.wanted o (yielded ops a.tmps) = false) (hy : YM F P ops (clOf cs C i) o v a) {K : Act → World → Prop} (h : K (a.put o.dst v) w) : opL F n P ops C cs i K a w := by
  unfold Go.Proofs.Ytdhbomipffidlaa.opL
  simp only [hi]
  rcases hy.2 with ⟨hw, hv⟩ | ⟨hw, rfl⟩
  · have he : isEff (cs.getD i 0) = false := by
      rcases he with he | he
      · exact he
      · rw [hw] at he; cases he
    rw [if_pos hw, if_neg (by rw [he]; exact Bool.false_ne_true)]
    exact ⟨hy.1, v, hv, h⟩
  · rw [if_neg (by rw [hw]; exact Bool.false_ne_true)]
    exact ⟨hy.1, h⟩
theorem ym_of_opL {i : Nat} {o : Oper} {a : Act} {w : World} {K : Act → World → Prop} (hi : ops[i]? = some o) (he : isEff (cs.getD i 0) = false) (h : opL F n P ops C cs i K a w) : ∃ v, YM F P ops (clOf cs C i) o v a ∧ K (a.put o.dst v) w := by
  unfold opL at h
  simp only [hi] at h
  by_cases hw : Region.wanted o (yielded ops a.tmps) = true
  · rw [if_pos hw, if_neg (by rw [he]; exact Bool.false_ne_true)] at h
    obtain ⟨h1, v, h2, h3⟩ := h
    exact ⟨v, ⟨h1, .inl ⟨hw, h2⟩⟩, h3⟩
  · rw [if_neg hw] at h
    exact ⟨undef, ⟨h.1, .inr ⟨by simpa using hw, rfl⟩⟩, h.2⟩

theorem opL_put {j : Nat} {oi oj : Oper} {v : Value} {D : World → Prop} (hj : ops[j]? = some oj) (hap : oi.apart ops oj = true)
    (hsi : ∀ cs b, oi.op ≠ .select cs b) (hsj : ∀ cs b, oj.op ≠ .select cs b) {K : Act → World → Prop} {a : Act} {w : World}
    (hy : YM F P ops D oi v a) (h : opL F n P ops C cs j K (a.put oi.dst v) w) :
    opL F n P ops C cs j (fun a' w' => YM F P ops D oi v a' ∧ K (a'.put oi.dst v) w') a w := by
  obtain ⟨h1, h2, h3⟩ := Oper.apart_spec hap
  have keep : ∀ (a : Act), YM F P ops D oi v a → ∀ u, YM F P ops D oi v (a.put oj.dst u) := fun a hy u =>
    hy.of_same (execOp_put oi hsi a oj.dst u h3) (wanted_put oi a oj.dst u h3) (fun w => about_put oi w a oj.dst u h3)
  have hask : ∀ E, oj.askedIn F P (a.put oi.dst v) E → oj.askedIn F P a E := fun E ha w hc f hf => ha w hc f (by rw [about_put oj w a oi.dst v h1]; exact hf)
  unfold opL at *
  simp only [hj] at *
  rw [wanted_put oj a oi.dst v h1] at h
  split
  · rename_i hw
    rw [if_pos hw] at h
    split
    · rename_i hb
      rw [if_pos hb] at h
      unfold effOp at *
      rw [about_put oj w a oi.dst v h1, execOp_put oj hsj a oi.dst v h1] at h
      exact ⟨h.1, effUpon_mono (fun u w' hK => ⟨hK.1, keep a hy u, by rw [← Act.put_comm a v u h2]; exact hK.2⟩) h.2⟩
    · rename_i hb
      rw [if_neg hb] at h
      obtain ⟨k1, u, k2, k3⟩ := h
      refine ⟨hask _ k1, u, fun w' hc => ?_, keep a hy u, by rw [← Act.put_comm a v u h2]; exact k3⟩
      have := k2 w' hc
      rwa [execOp_put oj hsj a oi.dst v h1] at this
  · rename_i hw
    rw [if_neg hw] at h
    exact ⟨hask _ h.1, keep a hy _, by rw [← Act.put_comm a v undef h2]; exact h.2⟩

theorem anyL_calm {i : Nat} {oi : Oper} {v : Value} {L : Array Bool → Act → World → Prop} (hi : ops[i]? = some oi) (hsel : ∀ (j : Nat) (o : Oper) cs b, ops[j]? = some o → o.op ≠ .select cs b)
    (hb : isEff (cs.getD i 0) = false) (hdone : ∀ listed a w, L listed a w → ∀ j, ¬ j ∈ Region.ready md ops listed) :
    ∀ (f : Nat) (listed : Array Bool) (a : Act) (w : World), HeadInv md ops ops.size listed →
      (∀ j oj, ops[j]? = some oj → j ≠ i → listed.getD j true = false → (∀ e ∈ oj.after, Region.binds md e = true → e.on ≠ i) → oi.apart ops oj = true) →
      i ∈ Region.ready md ops listed → YM F P ops (clOf cs C i) oi v a →
      anyL F n P md ops C cs L f (listed.setIfInBounds i true) (a.put oi.dst v) w → anyL F n P md ops C cs L (f + 1) listed a w := by
  intro f
  induction f with
  | zero =>
    intro listed a w inv _ hr hy H
    refine ⟨List.ne_nil_of_mem hr, fun j hj => ?_⟩
    by_cases hji : j = i
    · subst hji; exact hy.opL hi (.inl hb) H
    · exact absurd (ready_mono hj hji) (hdone _ _ _ H j)
  | succ f ih =>
    intro listed a w inv hfree hr hy H
    refine ⟨List.ne_nil_of_mem hr, fun j hj => ?_⟩
    by_cases hji : j = i
    · subst hji; exact hy.opL hi (.inl hb) H
    · obtain ⟨hjun, oj, hoj, hall⟩ := mem_ready.1 hj
      have hun := (mem_ready.1 hr).1
      have hnot : ∀ e ∈ oj.after, Region.binds md e = true → e.on ≠ i := fun e he hb heq => by
        have h1 := hall e he hb
        rw [heq, getD_both hun] at h1
        cases h1
      have h2 := opL_put hoj (hfree j oj hoj hji hjun hnot) (fun cs b => hsel i oi cs b hi) (fun cs b => hsel j oj cs b hoj) hy (H.2 j (ready_mono hj hji))
      refine opL_mono (fun a' w' _ h3 => ih _ a' w' (inv.set hj (ready_lt hj)) (fun k ok hk hki hun' hno => hfree k ok hk hki ?_ hno) (ready_mono hr (Ne.symm hji)) h3.1 ?_) h2
      · by_cases hjk : j = k
        · subst hjk; exact hjun
        · rw [getD_set_ne true hjk] at hun'; exact hun'
      · rw [Array.setIfInBounds_comm _ _ hji]
        exact h3.2

theorem anyL_eff {i : Nat} {oi : Oper} {L : Array Bool → Act → World → Prop} (hroom : ∀ k, F.room k) (hi : ops[i]? = some oi) (hsel : ∀ (j : Nat) (o : Oper) cs b, ops[j]? = some o → o.op ≠ .select cs b) (hst : StrL md ops cs)
    (hb : isEff (cs.getD i 0) = true) (hg : oi.guard = none) (hdone : ∀ listed a w, L listed a w → ∀ j, ¬ j ∈ Region.ready md ops listed) :
    ∀ (f : Nat) (listed : Array Bool) (a : Act) (w : World), HeadInv md ops ops.size listed →
      (∀ j oj, ops[j]? = some oj → j ≠ i → listed.getD j true = false → (∀ e ∈ oj.after, Region.binds md e = true → e.on ≠ i) → oi.apart ops oj = true) →
      (∀ j oj, ops[j]? = some oj → isEff (cs.getD j 0) = true → j ≠ i → listed.getD j true = false → ∃ e ∈ oj.after, Region.binds md e = true ∧ isEff (cs.getD e.on 0) = true ∧ listed.getD e.on false = false) →
      i ∈ Region.ready md ops listed →
      opL F n P ops C cs i (anyL F n P md ops C cs L f (listed.setIfInBounds i true)) a w → anyL F n P md ops C cs L (f + 1) listed a w := by
  have hwant : ∀ a : Act, Region.wanted oi (yielded ops a.tmps) = true := fun a => by simp [Region.wanted, hg]
  have hef : ∀ (K : Act → World → Prop) a w, opL F n P ops C cs i K a w ↔ effOp F n P oi a w (fun v w' => (cs.getD i 0 = 2 ∨ C w') ∧ K (a.put oi.dst v) w') := fun K a w => by
    unfold opL
    simp only [hi]
    rw [if_pos (hwant a), if_pos hb]
  intro f
  induction f with
  | zero =>
    intro listed a w inv _ _ hr H
    refine ⟨List.ne_nil_of_mem hr, fun j hj => ?_⟩
    by_cases hji : j = i
    · subst hji; exact H
    · obtain ⟨v, w1, -, hL⟩ := effUpon_some hroom ((hef _ _ _).1 H).2
      exact absurd (ready_mono hj hji) (hdone _ _ _ hL j)
  | succ f ih =>
    intro listed a w inv hfree hne hr H
    refine ⟨List.ne_nil_of_mem hr, fun j hj => ?_⟩
    have hun := (mem_ready.1 hr).1
    by_cases hji : j = i
    · subst hji; exact H
    · obtain ⟨hjun, oj, hoj, hall⟩ := mem_ready.1 hj
      have hjlt := ready_lt hj
      have hbj : isEff (cs.getD j 0) = false := by
        cases hbj : isEff (cs.getD j 0) with
        | false => rfl
        | true =>
          obtain ⟨e, he, h1, _, h3⟩ := hne j oj hoj hbj hji hjun
          rw [hall e he h1] at h3
          cases h3
      have hnot : ∀ e ∈ oj.after, Region.binds md e = true → e.on ≠ i := fun e he hb heq => by
        have h1 := hall e he hb
        rw [heq, getD_both hun] at h1
        cases h1
      obtain ⟨p1, p2, p3⟩ := Oper.apart_spec (hfree j oj hoj hji hjun hnot)
      have hsi : ∀ cs b, oi.op ≠ .select cs b := fun cs b => hsel i oi cs b hi
      have hsj : ∀ cs b, oj.op ≠ .select cs b := fun cs b => hsel j oj cs b hoj
      have keep : ∀ (a : Act) v u, YM F P ops (clOf cs C j) oj v a ↔ YM F P ops (clOf cs C j) oj v (a.put oi.dst u) := fun a v u =>
        ⟨fun h => h.of_same (execOp_put oj hsj a oi.dst u p1) (wanted_put oj a oi.dst u p1) (fun w => about_put oj w a oi.dst u p1),
         fun h => h.of_same (execOp_put oj hsj a oi.dst u p1).symm (wanted_put oj a oi.dst u p1).symm (fun w => (about_put oj w a oi.dst u p1).symm)⟩
      have hcl : ∀ w', (cs.getD i 0 = 2 ∨ C w') → clOf cs C j w' := fun w' hw' => by
        rcases hw' with h2 | h2
        · by_cases h3 : cs.getD j 0 = 3
          · exact .inl h3
          · have hls : i < listed.size := by rw [inv.size]; exact ready_lt hr
            have := hst _ (inv.set hr (ready_lt hr)) (gone_set hls h2) j hjlt h3
            rw [getD_set_ne false (Ne.symm hji), getD_both hjun] at this
            cases this
        · exact .inr h2
      have H1 := (hef _ _ _).1 H
      obtain ⟨v1, w1, hC1, hL⟩ := effUpon_some hroom H1.2
      obtain ⟨vj, hyj, -⟩ := ym_of_opL hoj hbj (hL.2 j (ready_mono hj hji))
      have hyj := (keep a vj v1).2 hyj
      refine hyj.opL hoj (.inl hbj) ?_
      refine ih (listed.setIfInBounds j true) (a.put oj.dst vj) w (inv.set hj hjlt) (fun k ok hk hki hun' hno => hfree k ok hk hki ?_ hno) (fun k ok hk hbk hki hun' => ?_) (ready_mono hr (Ne.symm hji)) ?_
      · by_cases hjk : j = k
        · subst hjk; exact hjun
        · rw [getD_set_ne true hjk] at hun'; exact hun'
      · have hjk : j ≠ k := fun e => by subst e; rw [hbk] at hbj; cases hbj
        rw [getD_set_ne true hjk] at hun'
        obtain ⟨e, he, h1, h2, h3⟩ := hne k ok hk hbk hki hun'
        have hje : j ≠ e.on := fun h => by rw [← h, hbj] at h2; cases h2
        exact ⟨e, he, h1, h2, by rw [getD_set_ne false hje]; exact h3⟩
      · refine (hef _ _ _).2 ?_
        unfold effOp at *
        rw [about_put oi w a oj.dst vj p3, execOp_put oi hsi a oj.dst vj p3]
        refine ⟨H1.1, effUpon_mono (fun v w' hK => ⟨hK.1, ?_⟩) H1.2⟩
        obtain ⟨v', hy', hk'⟩ := ym_of_opL hoj hbj (hK.2.2 j (ready_mono hj hji))
        have e := hy'.unique ((keep a vj v).1 hyj) (hcl w' hK.1)
        subst e
        rw [Array.setIfInBounds_comm _ _ (Ne.symm hji), Act.put_comm a _ _ p2] at hk'
        exact hk'

theorem isEff_map (cs : List Nat) (j : Nat) : (cs.map isEff).getD j false = isEff (cs.getD j 0) := by
  rw [List.getD_eq_getElem?_getD, List.getD_eq_getElem?_getD, List.getElem?_map]
  cases cs[j]? <;> rfl

theorem anyL_lex {Lq : Act → World → Prop} (hroom : ∀ k, F.room k) (hsel : Region.noSelect ops = true) (hst : StrL md ops cs) (hlink : linkB md ops (cs.map isEff) = true) :
    ∀ (l : List Oper) (k : Nat) (c : List Nat) (listed : Array Bool) (a : Act) (w : World), (∀ j, j < l.length → l[j]? = ops[k + j]?) → (∀ j, c.getD j 0 = cs.getD (k + j) 0) → HeadInv md ops ops.size listed →
    (∀ t, t < k → listed.getD t true = true) → (∀ t, k ≤ t → listed.getD t false = false) → Region.lexHead md ops 0 l.length k listed = true → wpL F n P ops C Lq c l a w →
    anyL F n P md ops C cs (fun listed' a' w' => Region.ready md ops listed' = [] ∧ Lq a' w') l.length listed a w
  | [], k, c, listed, a, w, _, _, _, _, _, hB, h => by
    refine ⟨by simpa [Region.lexHead, Region.seqB] using hB, ?_⟩
    cases c <;> exact h
  | o :: l, k, c, listed, a, w, hl, hcs, inv, hup, hlow, hB, h => by
    have h0 : ops[k]? = some o := by simpa using (hl 0 (by simp)).symm
    simp only [List.length_cons, Region.lexHead, Bool.and_eq_true] at hB
    have hr' : k ∈ Region.ready md ops listed := by simpa using hB.1.1
    have hkn := ready_lt hr'
    have hhead : c.headD 0 = cs.getD k 0 := by
      have := hcs 0
      rw [Nat.add_zero] at this
      rw [← this]
      cases c <;> rfl
    have htail : ∀ j, c.tail.getD j 0 = cs.getD (k + 1 + j) 0 := fun j => by
      have := hcs (j + 1)
      rw [show k + 1 + j = k + (j + 1) by omega, ← this]
      cases c <;> simp
    have rec_ : ∀ a' w', wpL F n P ops C Lq c.tail l a' w' → anyL F n P md ops C cs (fun listed' a' w' => Region.ready md ops listed' = [] ∧ Lq a' w') l.length (listed.setIfInBounds k true) a' w' := fun a' w' h' =>
      anyL_lex hroom hsel hst hlink l (k + 1) c.tail _ a' w' (fun j hj => by have := hl (j + 1) (by simp; omega); simpa [Nat.add_assoc, Nat.add_comm 1 j] using this) htail (inv.set hr' hkn)
        (fun t ht => by
          by_cases e : k = t
          · subst e
            rcases Nat.lt_or_ge k listed.size with h' | h'
            · simp [h']
            · simp [h']
          · rw [getD_set_ne true e]; exact hup t (by omega))
        (fun t ht => by rw [getD_set_ne false (by omega)]; exact hlow t (by omega)) hB.2 h'
    have hop : opL F n P ops C cs k (anyL F n P md ops C cs (fun listed' a' w' => Region.ready md ops listed' = [] ∧ Lq a' w') l.length (listed.setIfInBounds k true)) a w := by
      unfold wpL at h
      unfold opL clOf
      simp only [h0]
      rw [hhead] at h
      split
      · rename_i hw
        rw [if_pos hw] at h
        split
        · rename_i hb; rw [if_pos hb] at h; exact effOp_mono (fun v w' ⟨h1, h2⟩ => ⟨h1, rec_ _ _ h2⟩) h
        · rename_i hb; rw [if_neg hb] at h
          obtain ⟨h1, v, h2, h3⟩ := h
          exact ⟨h1, v, h2, rec_ _ _ h3⟩
      · rename_i hw
        rw [if_neg hw] at h
        exact ⟨h.1, rec_ _ _ h.2⟩
    have hdone : ∀ (listed' : Array Bool) (a' : Act) (w' : World), (Region.ready md ops listed' = [] ∧ Lq a' w') → ∀ j, ¬ j ∈ Region.ready md ops listed' := fun listed' a' w' hL j hj => by rw [hL.1] at hj; cases hj
    cases hb : isEff (cs.getD k 0) with
    | false =>
      obtain ⟨v, hy, hK⟩ := ym_of_opL h0 hb hop
      exact anyL_calm h0 (Region.noSelect_spec hsel) hb hdone l.length listed a w inv (Region.free_spec h0 hB.1.2) hr' hy hK
    | true =>
      refine anyL_eff hroom h0 (Region.noSelect_spec hsel) hst hb (linkB_spec hlink h0 (by rw [isEff_map]; exact hb)).1 hdone l.length listed a w inv (Region.free_spec h0 hB.1.2) ?_ hr' hop
      intro j oj hj hbj hjk hun
      have hkj : k < j := by
        rcases Nat.lt_or_ge j k with h' | h'
        · rw [hup j h'] at hun; cases hun
        · omega
      rcases (linkB_spec hlink hj (by rw [isEff_map]; exact hbj)).2 with h1 | ⟨e, he, h1, h2, h3⟩
      · have := h1 k hkj
        rw [isEff_map, hb] at this; cases this
      · rw [isEff_map] at h2
        exact ⟨e, he, h1, h2, hlow _ (h3 k hkj (by rw [isEff_map]; exact hb))⟩

/-- Each that is not plain is waited for by the last one, or by such a one behind it. -/
def lastB (md : Region.Mode) (ops : Array Oper) (cs : List Nat) : Bool :=
  (List.range ops.size).all fun i => cs.getD i 0 != 2 || (List.range ops.size).all fun j => cs.getD j 0 == 3 || j == i || (decide (j < i) && (List.range (i + 1)).any fun t => decide (j < t) && cs.getD t 0 != 3 && Region.waitsFor md ops t j)
theorem StrL.of (h : lastB md ops cs = true) : StrL md ops cs := by
  intro listed inv ⟨i, hi2, hil⟩
  have hi : i < ops.size := by
    rcases Nat.lt_or_ge i ops.size with h' | h'
    · exact h'
    · rw [← inv.size] at h'
      have : listed.getD i false = false := by simp [Array.getElem?_eq_none h']
      rw [this] at hil; cases hil
  have h1 := List.all_eq_true.1 h i (List.mem_range.2 hi)
  rw [hi2] at h1
  simp only [bne_self_eq_false, Bool.false_or] at h1
  have main : ∀ d j, i - j = d → j < ops.size → cs.getD j 0 ≠ 3 → listed.getD j false = true := by
    intro d
    induction d using Nat.strongRecOn with
    | _ d ih =>
      intro j hd hj h3
      have h2 := List.all_eq_true.1 h1 j (List.mem_range.2 hj)
      simp only [Bool.or_eq_true, Bool.and_eq_true, decide_eq_true_eq, beq_iff_eq] at h2
      rcases h2 with (h2 | h2) | ⟨hji, h2⟩
      · exact absurd h2 h3
      · subst h2; exact hil
      · obtain ⟨t, ht, ht2⟩ := List.any_eq_true.1 h2
        simp only [Bool.and_eq_true, decide_eq_true_eq, bne_iff_ne] at ht2
        obtain ⟨ot, hot, e, he, hb, hon⟩ := Region.waitsFor_spec ht2.2
        have hti : t ≤ i := by have := List.mem_range.1 ht; omega
        have htl := ih (i - t) (by omega) t rfl (Array.getElem?_eq_some_iff.1 hot).1 ht2.1.2
        have := inv.closed t ot hot htl e he hb
        rw [hon] at this
        exact this
  exact fun j hj h3 => main _ j rfl hj h3

theorem region_mix_last {id : Nat} {Q' : Exit → Act → World → Prop} {a : Act} {w : World} {l : List Oper} (cs : List Nat) (hroom : ∀ k, F.room k) (hsem : ∀ (i : Nat) o, l.toArray[i]? = some o → ∀ ρ, o.semAt F.round ρ = execOp ρ o)
    (hm : P.follows .mixedOrders = true) (hB : lexAllB .any l.toArray = true) (hlast : lastB .any l.toArray cs = true) (hlink : linkB .any l.toArray (cs.map isEff) = true) (hC : C w.drew)
    (h : wpL F n P l.toArray C (fun a' w' => Q' .normal a' w') cs l a w.drew) : (Code.region id l.toArray true).wpIn F n P Q' a w := by
  simp only [lexAllB, Bool.and_eq_true] at hB
  obtain ⟨hsel, hlex⟩ := hB
  have hsz : l.toArray.size = l.length := by simp
  have inv0 : HeadInv .any l.toArray l.toArray.size (Array.replicate l.toArray.size false) :=
    ⟨by simp, fun j oj _ hl => (by rw [getD_replicate_false] at hl; cases hl), fun t ht h2 => absurd h2 (by omega)⟩
  have hst := StrL.of hlast
  have H := anyL_lex (md := .any) hroom hsel hst hlink l 0 cs _ a w.drew (fun j hj => by simp) (fun j => by rw [Nat.zero_add]) inv0 (fun t ht => absurd ht (by omega)) (fun t _ => getD_replicate_false _ _) (by rw [← hsz]; exact hlex) h
  refine wpIn_region_any hm ?_
  have := wpAnyIn_of_anyL (Q' := Q') hsem hst (fun listed a' W hL => hL) _ _ _ _ inv0 (.inr hC) H
  rw [hsz]
  rw [hsz] at this
  exact this
end

theorem region_mix_last_round {n : Nat} {P : Program} {C : World → Prop} {r id : Nat} {Q' : Exit → Act → World → Prop} {a : Act} {w : World} {l : List Oper} (cs : List Nat) (hm : P.follows .mixedOrders = true) (hB : lexAllB .any l.toArray = true) (hlast : lastB .any l.toArray cs = true) (hlink : linkB .any l.toArray (cs.map isEff) = true) (hd : noDefer l = true) (hC : C w.drew)
    (h : wpL (Fence.wide.inRound r) n P l.toArray C (fun a' w' => Q' .normal a' w') cs l a w.drew) : (Code.region id l.toArray true).wpIn (Fence.wide.inRound r) n P Q' a w :=
  region_mix_last cs (room_round r) (fun i o hi => noDefer_sem hd _ i o hi) hm hB hlast hlink hC h
theorem region_mix_last_plain {P : Program} {C : World → Prop} {id : Nat} {Q' : Exit → Act → World → Prop} {a : Act} {w : World} {l : List Oper} (cs : List Nat) (hm : P.follows .mixedOrders = true) (hB : lexAllB .any l.toArray = true) (hlast : lastB .any l.toArray cs = true) (hlink : linkB .any l.toArray (cs.map isEff) = true) (hd : noDefer l = true) (hC : C w.drew)
    (h : wpL Fence.wide 3 P l.toArray C (fun a' w' => Q' .normal a' w') cs l a w.drew) : (Code.region id l.toArray true).wp P Q' a w :=
  (wpIn_wide (n := 3)).1 (region_mix_last cs room_wide (fun i o hi => noDefer_sem hd _ i o hi) hm hB hlast hlink hC h)

end Go.Proofs.Ytdhbomipffidlaa
