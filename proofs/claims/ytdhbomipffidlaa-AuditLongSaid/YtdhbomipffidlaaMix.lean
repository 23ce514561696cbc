/-
  A region that draws its order and mixes operations that only read with a chain of operations that turn the memory, each of which waits for the one ahead of it: one walk in the order of the text serves every order. Inside a fence, in a round too. No program in sight.
-/
import Derived.Sort.QuietTacIn
import Derived.StillTail
import Derived.Test.YtdhbomipffidlaaLater
namespace Go.Proofs.Ytdhbomipffidlaa
open Go.RowKit

/-- It reads: the world stays, and the value is v. -/
def calmUpon (u : World) (v : Value) : Result Next → Prop
  | .ok (.value x) w' => w' = u ∧ x = v
  | .ok .skip w' => w' = u ∧ v = undef
  | _ => False
/-- It turns the memory: a value and a world of which R says something. -/
def effUpon (F : Fence) (n : Nat) (P : Program) (R : Value → World → Prop) : Result Next → Prop
  | .ok (.value v) w' => R v w'
  | .ok .skip w' => R undef w'
  | .ok (.enter f args) w' => (F.depth.isSome = true → 1 ≤ n) ∧ CallsIn F (n - 1) P f args w' fun e w'' => ∃ v, e = .returned v ∧ R v w''
  | _ => False
def effOp (F : Fence) (n : Nat) (P : Program) (o : Oper) (a : Act) (w : World) (R : Value → World → Prop) : Prop :=
  (∀ f, o.about P w a.eval = some f → F.fn f) ∧ effUpon F n P R ((execOp a.eval o).run P w)
def calmOp (F : Fence) (P : Program) (o : Oper) (a : Act) (C : World → Prop) (K : Act → Prop) : Prop :=
  o.askedIn F P a C ∧ ∃ v, (∀ u, C u → calmUpon u v ((execOp a.eval o).run P u)) ∧ K (a.put o.dst v)

/-- The walk in the order of the text; the flags say which operations turn the memory. -/
def wpM (F : Fence) (n : Nat) (P : Program) (ops : Array Oper) (C : World → Prop) (Q : Act → World → Prop) : List Bool → List Oper → Act → World → Prop
  | _, [], a, w => Q a w
  | bs, o :: rest, a, w => if Region.wanted o (yielded ops a.tmps) = true then
      (if bs.headD false = true then effOp F n P o a w (fun v w' => C w' ∧ wpM F n P ops C Q bs.tail rest (a.put o.dst v) w')
       else calmOp F P o a C (fun a' => wpM F n P ops C Q bs.tail rest a' w))
    else o.askedIn F P a C ∧ wpM F n P ops C Q bs.tail rest (a.put o.dst undef) w

section
variable {F : Fence} {n : Nat} {P : Program} {ops : Array Oper} {md : Region.Mode} {C : World → Prop} {Q : Act → World → Prop} {bs : List Bool}

theorem wpM_nil {bs : List Bool} {a : Act} {w : World} (h : Q a w) : wpM F n P ops C Q bs [] a w := by cases bs <;> exact h
theorem wpM_calm {a : Act} {w : World} {o : Oper} {rest : List Oper}
    (h : ∀ K : Act → Prop, (∀ a, wpM F n P ops C Q bs rest a w → K a) → if Region.wanted o (yielded ops a.tmps) = true then calmOp F P o a C K else o.askedIn F P a C ∧ K (a.put o.dst undef)) : wpM F n P ops C Q (false :: bs) (o :: rest) a w := by
  have h := h _ (fun _ h => h)
  unfold wpM
  split
  · rename_i hw; rw [if_pos hw] at h; simpa using h
  · rename_i hw; rw [if_neg hw] at h; exact h
theorem wpM_eff {a : Act} {w : World} {o : Oper} {rest : List Oper} (hg : o.guard = none)
    (h : ∀ K : Value → World → Prop, (∀ v w', C w' → wpM F n P ops C Q bs rest (a.put o.dst v) w' → K v w') → effOp F n P o a w K) : wpM F n P ops C Q (true :: bs) (o :: rest) a w := by
  have h := h (fun v w' => C w' ∧ wpM F n P ops C Q bs rest (a.put o.dst v) w') (fun _ _ h1 h2 => ⟨h1, h2⟩)
  unfold wpM
  have hw : Region.wanted o (yielded ops a.tmps) = true := by simp [Region.wanted, hg]
  rw [if_pos hw]; simpa using h

theorem effUpon_mono {R R' : Value → World → Prop} (hR : ∀ v w, R v w → R' v w) {r : Result Next} (h : effUpon F n P R r) : effUpon F n P R' r := by
  cases r with
  | ok x w' =>
    cases x <;> simp only [effUpon] at h ⊢ <;> first
      | exact hR _ _ h
      | exact ⟨h.1, h.2.mono fun e w'' ⟨v, he, hr⟩ => ⟨v, he, hR _ _ hr⟩⟩
  | halt x w' => simp only [effUpon] at h
theorem effUpon_some {R : Value → World → Prop} (hroom : ∀ m, F.room m) {r : Result Next} (h : effUpon F n P R r) : ∃ v w, R v w := by
  cases r with
  | ok x w' =>
    cases x <;> simp only [effUpon] at h <;> first
      | exact ⟨_, _, h⟩
      | (obtain ⟨e, w'', _, ⟨v, _, hr⟩, _⟩ := h.2.2 [] (hroom _); exact ⟨v, w'', hr⟩)
  | halt x w' => simp only [effUpon] at h

def opM (F : Fence) (n : Nat) (P : Program) (ops : Array Oper) (C : World → Prop) (bs : List Bool) (i : Nat) (K : Act → World → Prop) (a : Act) (w : World) : Prop :=
  match ops[i]? with
  | none => K a w
  | some o => if Region.wanted o (yielded ops a.tmps) = true then
      (if bs.getD i false = true then effOp F n P o a w (fun v w' => C w' ∧ K (a.put o.dst v) w') else calmOp F P o a C (fun a' => K a' w))
    else o.askedIn F P a C ∧ K (a.put o.dst undef) w

theorem effOp_mono {o : Oper} {a : Act} {w : World} {R R' : Value → World → Prop} (hR : ∀ v w, R v w → R' v w) (h : effOp F n P o a w R) : effOp F n P o a w R' := ⟨h.1, effUpon_mono hR h.2⟩

theorem opM_mono {i : Nat} {a : Act} {w : World} {K K' : Act → World → Prop} (hC : C w) (h : ∀ a w, C w → K a w → K' a w) (hh : opM F n P ops C bs i K a w) : opM F n P ops C bs i K' a w := by
  unfold opM at *
  split
  · rename_i ho; simp only [ho] at hh; exact h _ _ hC hh
  · rename_i o ho
    simp only [ho] at hh
    split
    · rename_i hw
      rw [if_pos hw] at hh
      split
      · rename_i hb; rw [if_pos hb] at hh; exact effOp_mono (fun v w' ⟨hc, hk⟩ => ⟨hc, h _ _ hc hk⟩) hh
      · rename_i hb; rw [if_neg hb] at hh
        obtain ⟨h1, v, h2, h3⟩ := hh
        exact ⟨h1, v, h2, h _ _ hC h3⟩
    · rename_i hw
      rw [if_neg hw] at hh
      exact ⟨hh.1, h _ _ hC hh.2⟩

theorem wpOpIn_of_opM {Q' : Exit → Act → World → Prop} (hsem : ∀ (i : Nat) o, ops[i]? = some o → ∀ ρ, o.semAt F.round ρ = execOp ρ o) {i : Nat} {a : Act} {w : World} {K K' : Act → World → Prop} (hC : C w) (h : ∀ a w, C w → K a w → K' a w)
    (hh : opM F n P ops C bs i K a w) : wpOpIn F n P ops Q' i K' a w := by
  unfold opM at hh
  unfold wpOpIn
  split
  · rename_i ho; simp only [ho] at hh; exact h _ _ hC hh
  · rename_i o ho
    simp only [ho] at hh
    split
    · rename_i hw
      rw [if_pos hw] at hh
      unfold Oper.wpIn
      rw [hsem i o ho]
      split at hh
      · refine ⟨hh.1, ?_⟩
        have hh := hh.2
        generalize (execOp a.eval o).run P w = r at *
        cases r with
        | ok x w' =>
          cases x <;> simp only [effUpon] at hh <;> simp only [Oper.uponIn]
          case value v => exact h _ _ hh.1 hh.2
          case skip => exact h _ _ hh.1 hh.2
          case enter f args => exact ⟨hh.1, hh.2.mono fun e w'' ⟨v, he, hr⟩ => by subst he; exact h _ _ hr.1 hr.2⟩
        | halt x w' => simp only [effUpon] at hh
      · obtain ⟨h1, v, h2, h3⟩ := hh
        refine ⟨h1 w hC, ?_⟩
        have h2 := h2 w hC
        generalize (execOp a.eval o).run P w = r at *
        cases r with
        | ok x w' =>
          cases x <;> simp only [calmUpon] at h2 <;> simp only [Oper.uponIn]
          case value u => obtain ⟨rfl, rfl⟩ := h2; exact h _ _ hC h3
          case skip => obtain ⟨rfl, rfl⟩ := h2; exact h _ _ hC h3
        | halt x w' => simp only [calmUpon] at h2
    · rename_i hw
      rw [if_neg hw] at hh
      exact ⟨hh.1 w hC, h _ _ hC hh.2⟩

/-- Whatever order is picked of the operations ahead of the tail, which begins at m. -/
def anyM (F : Fence) (n : Nat) (P : Program) (md : Region.Mode) (ops : Array Oper) (C : World → Prop) (bs : List Bool) (m : Nat) (L : Array Bool → Act → World → Prop) : Nat → Array Bool → Act → World → Prop
  | 0, listed, a, w => L listed a w
  | f + 1, listed, a, w => Region.ready md ops listed ≠ [] ∧ ∀ i ∈ Region.ready md ops listed, i < m ∧ opM F n P ops C bs i (anyM F n P md ops C bs m L f (listed.setIfInBounds i true)) a w

theorem wpAnyIn_of_anyM {m g : Nat} {L : Array Bool → Act → World → Prop} {Q' : Exit → Act → World → Prop} (hsem : ∀ (i : Nat) o, ops[i]? = some o → ∀ ρ, o.semAt F.round ρ = execOp ρ o) (hL : ∀ listed a w, C w → L listed a w → wpAnyIn F n P md ops Q' g listed a w) :
    ∀ (f : Nat) (listed : Array Bool) (a : Act) (w : World), C w → anyM F n P md ops C bs m L f listed a w → wpAnyIn F n P md ops Q' (f + g) listed a w
  | 0, _, _, _, hC, h => by rw [Nat.zero_add]; exact hL _ _ _ hC h
  | f + 1, listed, a, w, hC, h => by
    rw [show f + 1 + g = (f + g) + 1 by omega]
    exact ⟨fun h0 => absurd h0 h.1, fun i hi => wpOpIn_of_opM hsem hC (fun a' w' hC' h' => wpAnyIn_of_anyM hsem hL f _ a' w' hC' h') (h.2 i hi).2⟩

/-- In state a the operation reads v, in every world of the class, or is passed over. -/
def YM (F : Fence) (P : Program) (ops : Array Oper) (C : World → Prop) (o : Oper) (v : Value) (a : Act) : Prop :=
  o.askedIn F P a C ∧ ((Region.wanted o (yielded ops a.tmps) = true ∧ ∀ u, C u → calmUpon u v ((execOp a.eval o).run P u)) ∨ (Region.wanted o (yielded ops a.tmps) = false ∧ v = undef))

theorem YM.of_same {o : Oper} {v : Value} {a a' : Act} (hy : YM F P ops C o v a) (he : execOp a'.eval o = execOp a.eval o)
    (hw : Region.wanted o (yielded ops a'.tmps) = Region.wanted o (yielded ops a.tmps)) (hb : ∀ w, o.about P w a'.eval = o.about P w a.eval) : YM F P ops C o v a' := by
  unfold YM Oper.askedIn at *
  rw [he, hw]
  exact ⟨fun w hc f hf => hy.1 w hc f (by rw [← hb w]; exact hf), hy.2⟩
theorem YM.unique {o : Oper} {v v' : Value} {a : Act} {u : World} (h : YM F P ops C o v a) (h' : YM F P ops C o v' a) (hC : C u) : v = v' := by
  rcases h.2 with ⟨hw, hv⟩ | ⟨hw, hv⟩ <;> rcases h'.2 with ⟨hw', hv'⟩ | ⟨hw', hv'⟩
  · have a1 := hv u hC
    have a2 := hv' u hC
    generalize (execOp a.eval o).run P u = r at *
    cases r with
    | ok x w' => cases x <;> simp only [calmUpon] at a1 a2 <;> first | exact a1.2.symm.trans a2.2 | exact a1.2.trans a2.2.symm
    | halt x w' => simp only [calmUpon] at a1
  · rw [hw] at hw'; cases hw'
  · rw [hw] at hw'; cases hw'
  · rw [hv, hv']
theorem YM.opM {i : Nat} {o : Oper} {v : Value} {a : Act} {w : World} (hi : ops[i]? = some o) (he : bs.getD i false = false ∨ Region.wanted o (yielded ops a.tmps) = false) (hy : YM F P ops C o v a) {K : Act → World → Prop} (h : K (a.put o.dst v) w) : opM F n P ops C bs i K a w := by
  unfold Go.Proofs.Ytdhbomipffidlaa.opM
  simp only [hi]
  rcases hy.2 with ⟨hw, hv⟩ | ⟨hw, rfl⟩
  · have he : bs.getD i false = false := by
      rcases he with he | he
      · exact he
      · rw [hw] at he; cases he
    rw [if_pos hw, if_neg (by rw [he]; exact Bool.false_ne_true)]
    exact ⟨hy.1, v, hv, h⟩
  · rw [if_neg (by rw [hw]; exact Bool.false_ne_true)]
    exact ⟨hy.1, h⟩
theorem ym_of_opM {i : Nat} {o : Oper} {a : Act} {w : World} {K : Act → World → Prop} (hi : ops[i]? = some o) (he : bs.getD i false = false ∨ Region.wanted o (yielded ops a.tmps) = false) (h : opM F n P ops C bs i K a w) : ∃ v, YM F P ops C o v a ∧ K (a.put o.dst v) w := by
  unfold opM at h
  simp only [hi] at h
  by_cases hw : Region.wanted o (yielded ops a.tmps) = true
  · have he : bs.getD i false = false := by
      rcases he with he | he
      · exact he
      · rw [hw] at he; cases he
    rw [if_pos hw, if_neg (by rw [he]; exact Bool.false_ne_true)] at h
    obtain ⟨h1, v, h2, h3⟩ := h
    exact ⟨v, ⟨h1, .inl ⟨hw, h2⟩⟩, h3⟩
  · rw [if_neg hw] at h
    exact ⟨undef, ⟨h.1, .inr ⟨by simpa using hw, rfl⟩⟩, h.2⟩

theorem opM_put {j : Nat} {oi oj : Oper} {v : Value} (hj : ops[j]? = some oj) (hap : oi.apart ops oj = true)
    (hsi : ∀ cs b, oi.op ≠ .select cs b) (hsj : ∀ cs b, oj.op ≠ .select cs b) {K : Act → World → Prop} {a : Act} {w : World}
    (hy : YM F P ops C oi v a) (h : opM F n P ops C bs j K (a.put oi.dst v) w) :
    opM F n P ops C bs j (fun a' w' => YM F P ops C oi v a' ∧ K (a'.put oi.dst v) w') a w := by
  obtain ⟨h1, h2, h3⟩ := Oper.apart_spec hap
  have keep : ∀ (a : Act), YM F P ops C oi v a → ∀ u, YM F P ops C oi v (a.put oj.dst u) := fun a hy u =>
    hy.of_same (execOp_put oi hsi a oj.dst u h3) (wanted_put oi a oj.dst u h3) (fun w => about_put oi w a oj.dst u h3)
  have hask : oj.askedIn F P (a.put oi.dst v) C → oj.askedIn F P a C := fun ha w hc f hf => ha w hc f (by rw [about_put oj w a oi.dst v h1]; exact hf)
  unfold opM at *
  simp only [hj] at *
  rw [wanted_put oj a oi.dst v h1] at h
  split
  · rename_i hw
    rw [if_pos hw] at h
    split
    · rename_i hb
      rw [if_pos hb] at h
      unfold effOp at *
      rw [about_put oj w a oi.dst v h1, execOp_put oj hsj a oi.dst v h1] at h
      exact ⟨h.1, effUpon_mono (fun u w' hK => ⟨hK.1, keep a hy u, by rw [← Act.put_comm a v u h2]; exact hK.2⟩) h.2⟩
    · rename_i hb
      rw [if_neg hb] at h
      obtain ⟨k1, u, k2, k3⟩ := h
      refine ⟨hask k1, u, fun w' hc => ?_, keep a hy u, by rw [← Act.put_comm a v u h2]; exact k3⟩
      have := k2 w' hc
      rwa [execOp_put oj hsj a oi.dst v h1] at this
  · rename_i hw
    rw [if_neg hw] at h
    exact ⟨hask h.1, keep a hy _, by rw [← Act.put_comm a v undef h2]; exact h.2⟩

/-- While something ahead of m is left, nothing from m on may come up. -/
def TailWaits (md : Region.Mode) (ops : Array Oper) (m : Nat) : Prop :=
  ∀ (listed : Array Bool), HeadInv md ops m listed → ∀ i, i < m → listed.getD i true = false → ∀ j ∈ Region.ready md ops listed, j < m
theorem TailWaits.of {m : Nat} (hs : Region.sinkB md ops m = true) (hc : Region.chainB md ops m = true) (hn : m < ops.size) : TailWaits md ops m :=
  fun _ inv i him hun j hj => Nat.lt_of_not_le fun h => tail_waits hs hc hn inv _ i rfl him hun j h hj
theorem TailWaits.all : TailWaits md ops ops.size :=
  fun _ _ _ _ _ j hj => by
    obtain ⟨_, oj, hoj, _⟩ := mem_ready.1 hj
    exact (Array.getElem?_eq_some_iff.1 hoj).1

/-- A calm operation that may come up may be taken first. -/
theorem anyM_calm {m i : Nat} {oi : Oper} {v : Value} {L : Array Bool → Act → World → Prop} (hi : ops[i]? = some oi) (hsel : ∀ (j : Nat) (o : Oper) cs b, ops[j]? = some o → o.op ≠ .select cs b)
    (htw : TailWaits md ops m) (him : i < m) (hb : bs.getD i false = false) (hdone : ∀ listed a w, L listed a w → ∀ j ∈ Region.ready md ops listed, m ≤ j) :
    ∀ (f : Nat) (listed : Array Bool) (a : Act) (w : World), HeadInv md ops m listed →
      (∀ j oj, ops[j]? = some oj → j ≠ i → listed.getD j true = false → (∀ e ∈ oj.after, Region.binds md e = true → e.on ≠ i) → oi.apart ops oj = true) →
      i ∈ Region.ready md ops listed → C w → YM F P ops C oi v a →
      anyM F n P md ops C bs m L f (listed.setIfInBounds i true) (a.put oi.dst v) w → anyM F n P md ops C bs m L (f + 1) listed a w := by
  intro f
  induction f with
  | zero =>
    intro listed a w inv _ hr hC hy H
    refine ⟨List.ne_nil_of_mem hr, fun j hj => ?_⟩
    have hjn : j < m := htw _ inv i him (mem_ready.1 hr).1 j hj
    refine ⟨hjn, ?_⟩
    by_cases hji : j = i
    · subst hji; exact hy.opM hi (.inl hb) H
    · exact absurd (hdone _ _ _ H j (ready_mono hj hji)) (by omega)
  | succ f ih =>
    intro listed a w inv hfree hr hC hy H
    refine ⟨List.ne_nil_of_mem hr, fun j hj => ?_⟩
    have hun := (mem_ready.1 hr).1
    have hjn : j < m := htw _ inv i him hun j hj
    refine ⟨hjn, ?_⟩
    by_cases hji : j = i
    · subst hji; exact hy.opM hi (.inl hb) H
    · obtain ⟨hjun, oj, hoj, hall⟩ := mem_ready.1 hj
      have hnot : ∀ e ∈ oj.after, Region.binds md e = true → e.on ≠ i := fun e he hb heq => by
        have h1 := hall e he hb
        rw [heq, getD_both hun] at h1
        cases h1
      have h2 := opM_put hoj (hfree j oj hoj hji hjun hnot) (fun cs b => hsel i oi cs b hi) (fun cs b => hsel j oj cs b hoj) hy (H.2 j (ready_mono hj hji)).2
      refine opM_mono hC (fun a' w' hC' h3 => ih _ a' w' (inv.set hj hjn) (fun k ok hk hki hun' hno => hfree k ok hk hki ?_ hno) (ready_mono hr (Ne.symm hji)) hC' h3.1 ?_) h2
      · by_cases hjk : j = k
        · subst hjk; exact hjun
        · rw [getD_set_ne true hjk] at hun'; exact hun'
      · rw [Array.setIfInBounds_comm _ _ hji]
        exact h3.2

/-- The next of the chain, if it may come up, may be taken first. -/
theorem anyM_eff {m i : Nat} {oi : Oper} {L : Array Bool → Act → World → Prop} (hroom : ∀ k, F.room k) (hi : ops[i]? = some oi) (hsel : ∀ (j : Nat) (o : Oper) cs b, ops[j]? = some o → o.op ≠ .select cs b)
    (htw : TailWaits md ops m) (him : i < m) (hb : bs.getD i false = true) (hg : oi.guard = none) (hdone : ∀ listed a w, L listed a w → ∀ j ∈ Region.ready md ops listed, m ≤ j) :
    ∀ (f : Nat) (listed : Array Bool) (a : Act) (w : World), HeadInv md ops m listed →
      (∀ j oj, ops[j]? = some oj → j ≠ i → listed.getD j true = false → (∀ e ∈ oj.after, Region.binds md e = true → e.on ≠ i) → oi.apart ops oj = true) →
      (∀ j oj, ops[j]? = some oj → bs.getD j false = true → j ≠ i → listed.getD j true = false → ∃ e ∈ oj.after, Region.binds md e = true ∧ bs.getD e.on false = true ∧ listed.getD e.on false = false) →
      i ∈ Region.ready md ops listed → C w →
      opM F n P ops C bs i (anyM F n P md ops C bs m L f (listed.setIfInBounds i true)) a w → anyM F n P md ops C bs m L (f + 1) listed a w := by
  have hwant : ∀ a : Act, Region.wanted oi (yielded ops a.tmps) = true := fun a => by simp [Region.wanted, hg]
  have hef : ∀ (K : Act → World → Prop) a w, opM F n P ops C bs i K a w ↔ effOp F n P oi a w (fun v w' => C w' ∧ K (a.put oi.dst v) w') := fun K a w => by
    unfold opM
    simp only [hi]
    rw [if_pos (hwant a), if_pos hb]
  intro f
  induction f with
  | zero =>
    intro listed a w inv _ _ hr hC H
    refine ⟨List.ne_nil_of_mem hr, fun j hj => ?_⟩
    have hjn : j < m := htw _ inv i him (mem_ready.1 hr).1 j hj
    refine ⟨hjn, ?_⟩
    by_cases hji : j = i
    · subst hji; exact H
    · obtain ⟨v, w1, -, hL⟩ := effUpon_some hroom ((hef _ _ _).1 H).2
      exact absurd (hdone _ _ _ hL j (ready_mono hj hji)) (by omega)
  | succ f ih =>
    intro listed a w inv hfree hne hr hC H
    refine ⟨List.ne_nil_of_mem hr, fun j hj => ?_⟩
    have hun := (mem_ready.1 hr).1
    have hjn : j < m := htw _ inv i him hun j hj
    refine ⟨hjn, ?_⟩
    by_cases hji : j = i
    · subst hji; exact H
    · obtain ⟨hjun, oj, hoj, hall⟩ := mem_ready.1 hj
      have hbj : bs.getD j false = false := by
        cases hbj : bs.getD j false with
        | false => rfl
        | true =>
          obtain ⟨e, he, h1, _, h3⟩ := hne j oj hoj hbj hji hjun
          rw [hall e he h1] at h3
          cases h3
      have hnot : ∀ e ∈ oj.after, Region.binds md e = true → e.on ≠ i := fun e he hb heq => by
        have h1 := hall e he hb
        rw [heq, getD_both hun] at h1
        cases h1
      obtain ⟨p1, p2, p3⟩ := Oper.apart_spec (hfree j oj hoj hji hjun hnot)
      have hsi : ∀ cs b, oi.op ≠ .select cs b := fun cs b => hsel i oi cs b hi
      have hsj : ∀ cs b, oj.op ≠ .select cs b := fun cs b => hsel j oj cs b hoj
      have keep : ∀ (a : Act) v u, YM F P ops C oj v a ↔ YM F P ops C oj v (a.put oi.dst u) := fun a v u =>
        ⟨fun h => h.of_same (execOp_put oj hsj a oi.dst u p1) (wanted_put oj a oi.dst u p1) (fun w => about_put oj w a oi.dst u p1),
         fun h => h.of_same (execOp_put oj hsj a oi.dst u p1).symm (wanted_put oj a oi.dst u p1).symm (fun w => (about_put oj w a oi.dst u p1).symm)⟩
      have H1 := (hef _ _ _).1 H
      obtain ⟨v1, w1, hC1, hL⟩ := effUpon_some hroom H1.2
      obtain ⟨vj, hyj, -⟩ := ym_of_opM hoj (.inl hbj) (hL.2 j (ready_mono hj hji)).2
      have hyj := (keep a vj v1).2 hyj
      refine hyj.opM hoj (.inl hbj) ?_
      refine ih (listed.setIfInBounds j true) (a.put oj.dst vj) w (inv.set hj hjn) (fun k ok hk hki hun' hno => hfree k ok hk hki ?_ hno) (fun k ok hk hbk hki hun' => ?_) (ready_mono hr (Ne.symm hji)) hC ?_
      · by_cases hjk : j = k
        · subst hjk; exact hjun
        · rw [getD_set_ne true hjk] at hun'; exact hun'
      · have hjk : j ≠ k := fun e => by subst e; rw [hbk] at hbj; cases hbj
        rw [getD_set_ne true hjk] at hun'
        obtain ⟨e, he, h1, h2, h3⟩ := hne k ok hk hbk hki hun'
        have hje : j ≠ e.on := fun h => by rw [← h, hbj] at h2; cases h2
        exact ⟨e, he, h1, h2, by rw [getD_set_ne false hje]; exact h3⟩
      · refine (hef _ _ _).2 ?_
        unfold effOp at *
        rw [about_put oi w a oj.dst vj p3, execOp_put oi hsi a oj.dst vj p3]
        refine ⟨H1.1, effUpon_mono (fun v w' hK => ⟨hK.1, ?_⟩) H1.2⟩
        obtain ⟨v', hy', hk'⟩ := ym_of_opM hoj (.inl hbj) (hK.2.2 j (ready_mono hj hji)).2
        have e := hy'.unique ((keep a vj v).1 hyj) hK.1
        subst e
        rw [Array.setIfInBounds_comm _ _ (Ne.symm hji), Act.put_comm a _ _ p2] at hk'
        exact hk'

/-- Each of the chain, but the first, waits for the one ahead of it. -/
def linkB (md : Region.Mode) (ops : Array Oper) (bs : List Bool) : Bool :=
  (List.range ops.size).all fun j => !bs.getD j false || (match ops[j]? with
    | some o => decide (o.guard = none) && ((List.range j).all (fun t => !bs.getD t false) || o.after.any (fun e => Region.binds md e && bs.getD e.on false && (List.range j).all (fun t => decide (t ≤ e.on) || !bs.getD t false)))
    | none => true)

theorem linkB_spec {j : Nat} {o : Oper} (h : linkB md ops bs = true) (hj : ops[j]? = some o) (hb : bs.getD j false = true) :
    o.guard = none ∧ ((∀ t, t < j → bs.getD t false = false) ∨ ∃ e ∈ o.after, Region.binds md e = true ∧ bs.getD e.on false = true ∧ ∀ t, t < j → bs.getD t false = true → t ≤ e.on) := by
  have hlt : j < ops.size := (Array.getElem?_eq_some_iff.1 hj).1
  have h := List.all_eq_true.1 h j (List.mem_range.2 hlt)
  simp only [hb, hj, Bool.not_true, Bool.false_or, Bool.and_eq_true, Bool.or_eq_true, decide_eq_true_eq] at h
  refine ⟨h.1, ?_⟩
  rcases h.2 with h | h
  · left
    intro t ht
    have := List.all_eq_true.1 h t (List.mem_range.2 ht)
    simpa using this
  · right
    obtain ⟨e, he, h2⟩ := Array.any_eq_true'.1 h
    simp only [Bool.and_eq_true] at h2
    refine ⟨e, he, h2.1.1, h2.1.2, fun t ht hbt => ?_⟩
    have := List.all_eq_true.1 h2.2 t (List.mem_range.2 ht)
    rw [hbt, Bool.not_true, Bool.or_false, decide_eq_true_eq] at this
    exact this

theorem anyM_lex {m g : Nat} {Lq : Act → World → Prop} (hroom : ∀ k, F.room k) (hsel : Region.noSelect ops = true) (htw : TailWaits md ops m) (hlink : linkB md ops bs = true) :
    ∀ (l : List Oper) (k : Nat) (cs : List Bool) (listed : Array Bool) (a : Act) (w : World), (∀ j, j < l.length → l[j]? = ops[k + j]?) → (∀ j, cs.getD j false = bs.getD (k + j) false) → k + l.length = m → HeadInv md ops m listed →
    (∀ t, t < k → listed.getD t true = true) → (∀ t, k ≤ t → listed.getD t false = false) → Region.lexHead md ops g l.length k listed = true → C w → wpM F n P ops C Lq cs l a w →
    anyM F n P md ops C bs m (fun listed' a' w' => Region.seqB md ops g m listed' = true ∧ Lq a' w') l.length listed a w
  | [], k, cs, listed, a, w, _, _, hk, _, _, _, hB, _, h => by
    obtain rfl : k = m := by simpa using hk
    refine ⟨by simpa [Region.lexHead] using hB, ?_⟩
    cases cs <;> exact h
  | o :: l, k, cs, listed, a, w, hl, hcs, hk, inv, hup, hlow, hB, hC, h => by
    have h0 : ops[k]? = some o := by simpa using (hl 0 (by simp)).symm
    simp only [List.length_cons, Region.lexHead, Bool.and_eq_true] at hB
    have hkn : k < m := by simp only [List.length_cons] at hk; omega
    have hr' : k ∈ Region.ready md ops listed := by simpa using hB.1.1
    have hhead : cs.headD false = bs.getD k false := by
      have := hcs 0
      rw [Nat.add_zero] at this
      rw [← this]
      cases cs <;> rfl
    have htail : ∀ j, cs.tail.getD j false = bs.getD (k + 1 + j) false := fun j => by
      have := hcs (j + 1)
      rw [show k + 1 + j = k + (j + 1) by omega, ← this]
      cases cs <;> simp
    have rec_ : ∀ a' w', C w' → wpM F n P ops C Lq cs.tail l a' w' → anyM F n P md ops C bs m (fun listed' a' w' => Region.seqB md ops g m listed' = true ∧ Lq a' w') l.length (listed.setIfInBounds k true) a' w' := fun a' w' hC' h' =>
      anyM_lex hroom hsel htw hlink l (k + 1) cs.tail _ a' w' (fun j hj => by have := hl (j + 1) (by simp; omega); simpa [Nat.add_assoc, Nat.add_comm 1 j] using this) htail (by simp only [List.length_cons] at hk; omega) (inv.set hr' hkn)
        (fun t ht => by
          by_cases e : k = t
          · subst e
            rcases Nat.lt_or_ge k listed.size with h' | h'
            · simp [h']
            · simp [h']
          · rw [getD_set_ne true e]; exact hup t (by omega))
        (fun t ht => by rw [getD_set_ne false (by omega)]; exact hlow t (by omega)) hB.2 hC' h'
    have hop : opM F n P ops C bs k (anyM F n P md ops C bs m (fun listed' a' w' => Region.seqB md ops g m listed' = true ∧ Lq a' w') l.length (listed.setIfInBounds k true)) a w := by
      unfold wpM at h
      unfold opM
      simp only [h0]
      rw [hhead] at h
      split
      · rename_i hw
        rw [if_pos hw] at h
        split
        · rename_i hb; rw [if_pos hb] at h; exact effOp_mono (fun v w' ⟨h1, h2⟩ => ⟨h1, rec_ _ _ h1 h2⟩) h
        · rename_i hb; rw [if_neg hb] at h
          obtain ⟨h1, v, h2, h3⟩ := h
          exact ⟨h1, v, h2, rec_ _ _ hC h3⟩
      · rename_i hw
        rw [if_neg hw] at h
        exact ⟨h.1, rec_ _ _ hC h.2⟩
    cases hb : bs.getD k false with
    | false =>
      obtain ⟨v, hy, hK⟩ := ym_of_opM h0 (.inl hb) hop
      exact anyM_calm h0 (Region.noSelect_spec hsel) htw hkn hb (fun listed' a' w' hL => seqB_ready hL.1) l.length listed a w inv (Region.free_spec h0 hB.1.2) hr' hC hy hK
    | true =>
      refine anyM_eff hroom h0 (Region.noSelect_spec hsel) htw hkn hb (linkB_spec hlink h0 hb).1 (fun listed' a' w' hL => seqB_ready hL.1) l.length listed a w inv (Region.free_spec h0 hB.1.2) ?_ hr' hC hop
      intro j oj hj hbj hjk hun
      have hkj : k < j := by
        rcases Nat.lt_or_ge j k with h' | h'
        · rw [hup j h'] at hun; cases hun
        · omega
      rcases (linkB_spec hlink hj hbj).2 with h1 | ⟨e, he, h1, h2, h3⟩
      · rw [h1 k hkj] at hb; cases hb
      · exact ⟨e, he, h1, h2, hlow _ (h3 k hkj hb)⟩

theorem seqIn {Q' : Exit → Act → World → Prop} : ∀ (l : List Oper) (k : Nat) (listed : Array Bool) (a : Act) (w : World), (∀ j, l[j]? = ops[k + j]?) →
    Region.seqB md ops l.length k listed = true → wpListIn F n P ops Q' l a w → wpAnyIn F n P md ops Q' l.length listed a w
  | [], _, _, _, _, _, hB, h => ⟨by simpa [Region.seqB] using hB, h⟩
  | o :: l, k, listed, a, w, hl, hB, h => by
    have h0 : ops[k]? = some o := by simpa using (hl 0).symm
    simp only [List.length_cons, Region.seqB, Bool.and_eq_true, decide_eq_true_eq] at hB
    refine ⟨fun h1 => (by rw [hB.1] at h1; cases h1), fun i hi => ?_⟩
    rw [hB.1] at hi
    have hik : i = k := by simpa using hi
    subst hik
    have hw : wpOpIn F n P ops Q' i (wpListIn F n P ops Q' l) a w := by unfold wpOpIn; simp only [h0]; exact h
    exact wpOpIn_mono (fun a' w' h' => seqIn l (i + 1) _ a' w' (fun j => by have := hl (j + 1); simpa [Nat.add_assoc, Nat.add_comm 1 j] using this) hB.2 h') hw

theorem region_mix {id : Nat} {Q' : Exit → Act → World → Prop} {a : Act} {w : World} {l : List Oper} (m : Nat) (bs : List Bool) (hroom : ∀ k, F.room k) (hsem : ∀ (i : Nat) o, l.toArray[i]? = some o → ∀ ρ, o.semAt F.round ρ = execOp ρ o)
    (hm : P.follows .mixedOrders = true) (hB : Region.lexTailB .any l.toArray m = true) (hlink : linkB .any l.toArray bs = true) (hC : C w.drew)
    (h : wpM F n P l.toArray C (fun a' w' => wpListIn F n P l.toArray Q' (l.drop m) a' w') bs (l.take m) a w.drew) : (Code.region id l.toArray true).wpIn F n P Q' a w := by
  simp only [Region.lexTailB, Bool.and_eq_true, decide_eq_true_eq] at hB
  obtain ⟨⟨⟨⟨hsel, hn⟩, hs⟩, hc⟩, hlex⟩ := hB
  have hn' : m < l.length := by simpa using hn
  have htw := TailWaits.of hs hc hn
  have htl : (l.take m).length = m := by simp; omega
  have hdl : (l.drop m).length = l.toArray.size - m := by simp
  have inv0 : HeadInv .any l.toArray m (Array.replicate l.toArray.size false) :=
    ⟨by simp, fun j oj _ hl => (by rw [getD_replicate_false] at hl; cases hl), fun t _ ht => getD_in (by simpa using ht) (getD_replicate_false _ _)⟩
  have H := anyM_lex (md := .any) (g := l.toArray.size - m) hroom hsel htw hlink (l.take m) 0 bs _ a w.drew (fun j hj => by
    have hj' : j < m := by rw [htl] at hj; exact hj
    simp [hj']) (fun j => by rw [Nat.zero_add]) (by simpa using htl) inv0 (fun t ht => absurd ht (by omega)) (fun t _ => getD_replicate_false _ _) (by rw [htl]; exact hlex) hC h
  refine wpIn_region_any hm ?_
  have := wpAnyIn_of_anyM (Q' := Q') (g := l.toArray.size - m) hsem (fun listed a' W _ hL => by
    have := seqIn (md := .any) (Q' := Q') (l.drop m) m listed a' W (fun j => by simp [List.getElem?_drop]) (by rw [hdl]; exact hL.1) hL.2
    rwa [hdl] at this) _ _ _ _ hC H
  rw [htl, show m + (l.toArray.size - m) = l.toArray.size by omega] at this
  exact this
/-- Whether the order of the text is one of the region's, and each may be moved to its place. -/
def lexAllB (md : Region.Mode) (ops : Array Oper) : Bool := Region.noSelect ops && Region.lexHead md ops 0 ops.size 0 (Array.replicate ops.size false)
/-- The same without a tail: all operations in the walk. -/
theorem region_mix_all {id : Nat} {Q' : Exit → Act → World → Prop} {a : Act} {w : World} {l : List Oper} (bs : List Bool) (hroom : ∀ k, F.room k) (hsem : ∀ (i : Nat) o, l.toArray[i]? = some o → ∀ ρ, o.semAt F.round ρ = execOp ρ o)
    (hm : P.follows .mixedOrders = true) (hB : lexAllB .any l.toArray = true) (hlink : linkB .any l.toArray bs = true) (hC : C w.drew)
    (h : wpM F n P l.toArray C (fun a' w' => Q' .normal a' w') bs l a w.drew) : (Code.region id l.toArray true).wpIn F n P Q' a w := by
  simp only [lexAllB, Bool.and_eq_true] at hB
  obtain ⟨hsel, hlex⟩ := hB
  have hsz : l.toArray.size = l.length := by simp
  have inv0 : HeadInv .any l.toArray l.toArray.size (Array.replicate l.toArray.size false) :=
    ⟨by simp, fun j oj _ hl => (by rw [getD_replicate_false] at hl; cases hl), fun t ht h2 => absurd h2 (by omega)⟩
  have H := anyM_lex (md := .any) (g := 0) hroom hsel TailWaits.all hlink l 0 bs _ a w.drew (fun j hj => by simp) (fun j => by rw [Nat.zero_add]) (by simp) inv0 (fun t ht => absurd ht (by omega)) (fun t _ => getD_replicate_false _ _) (by rw [← hsz]; exact hlex) hC h
  refine wpIn_region_any hm ?_
  have := wpAnyIn_of_anyM (Q' := Q') (g := 0) hsem (fun listed a' W _ hL => ⟨by simpa [Region.seqB] using hL.1, hL.2⟩) _ _ _ _ hC H
  rw [Nat.add_zero] at this
  rw [hsz]
  exact this
end

def noDefer (l : List Oper) : Bool := l.all fun o => match o.op with | .defer _ => false | _ => true
theorem noDefer_sem {l : List Oper} (h : noDefer l = true) (r : Option Nat) (i : Nat) (o : Oper) (hi : l.toArray[i]? = some o) (ρ : Operand → Value) : o.semAt r ρ = execOp ρ o := by
  cases r with
  | none => exact Oper.semAt_none ..
  | some k =>
    refine Oper.semAt_some k ρ o fun c hc => ?_
    have hm : o ∈ l := by
      have : l[i]? = some o := by simpa using hi
      exact List.mem_of_getElem? this
    have := List.all_eq_true.1 h o hm
    rw [hc] at this
    cases this
theorem room_round (l k : Nat) : (Fence.wide.inRound l).room k := fun _ h => by simp [Fence.wide] at h

/-- In a round. -/
theorem region_mix_round {n : Nat} {P : Program} {C : World → Prop} {r id : Nat} {Q' : Exit → Act → World → Prop} {a : Act} {w : World} {l : List Oper} (m : Nat) (bs : List Bool) (hm : P.follows .mixedOrders = true) (hB : Region.lexTailB .any l.toArray m = true) (hlink : linkB .any l.toArray bs = true) (hd : noDefer l = true) (hC : C w.drew)
    (h : wpM (Fence.wide.inRound r) n P l.toArray C (fun a' w' => wpListIn (Fence.wide.inRound r) n P l.toArray Q' (l.drop m) a' w') bs (l.take m) a w.drew) : (Code.region id l.toArray true).wpIn (Fence.wide.inRound r) n P Q' a w :=
  region_mix m bs (room_round r) (fun i o hi => noDefer_sem hd _ i o hi) hm hB hlink hC h
/-- In a plain walk. -/
theorem region_mix_plain {P : Program} {C : World → Prop} {id : Nat} {Q' : Exit → Act → World → Prop} {a : Act} {w : World} {l : List Oper} (m : Nat) (bs : List Bool) (hm : P.follows .mixedOrders = true) (hB : Region.lexTailB .any l.toArray m = true) (hlink : linkB .any l.toArray bs = true) (hd : noDefer l = true) (hC : C w.drew)
    (h : wpM Fence.wide 3 P l.toArray C (fun a' w' => wpListIn Fence.wide 3 P l.toArray Q' (l.drop m) a' w') bs (l.take m) a w.drew) : (Code.region id l.toArray true).wp P Q' a w :=
  (wpIn_wide (n := 3)).1 (region_mix m bs room_wide (fun i o hi => noDefer_sem hd _ i o hi) hm hB hlink hC h)

theorem region_mix_all_round {n : Nat} {P : Program} {C : World → Prop} {r id : Nat} {Q' : Exit → Act → World → Prop} {a : Act} {w : World} {l : List Oper} (bs : List Bool) (hm : P.follows .mixedOrders = true) (hB : lexAllB .any l.toArray = true) (hlink : linkB .any l.toArray bs = true) (hd : noDefer l = true) (hC : C w.drew)
    (h : wpM (Fence.wide.inRound r) n P l.toArray C (fun a' w' => Q' .normal a' w') bs l a w.drew) : (Code.region id l.toArray true).wpIn (Fence.wide.inRound r) n P Q' a w :=
  region_mix_all bs (room_round r) (fun i o hi => noDefer_sem hd _ i o hi) hm hB hlink hC h
theorem region_mix_all_plain {P : Program} {C : World → Prop} {id : Nat} {Q' : Exit → Act → World → Prop} {a : Act} {w : World} {l : List Oper} (bs : List Bool) (hm : P.follows .mixedOrders = true) (hB : lexAllB .any l.toArray = true) (hlink : linkB .any l.toArray bs = true) (hd : noDefer l = true) (hC : C w.drew)
    (h : wpM Fence.wide 3 P l.toArray C (fun a' w' => Q' .normal a' w') bs l a w.drew) : (Code.region id l.toArray true).wp P Q' a w :=
  (wpIn_wide (n := 3)).1 (region_mix_all bs room_wide (fun i o hi => noDefer_sem hd _ i o hi) hm hB hlink hC h)

end Go.Proofs.Ytdhbomipffidlaa
