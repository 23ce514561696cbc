/-
  Which sketches are right: the program's.
-/
import Derived.Test.YthnnbpmpaeddgaaExaD
import Derived.Test.YthnnbpmpaeddgaaTailIn
namespace Go.Proofs.Ythnnbpmpaeddgaa
open Go.RowKit Go.Shelf
attribute [local go_sem] Oper.semAt_some

/-- What a round keeps: one block, and all below another one. -/
def Keep2 (B0 bl : Nat) (A B : World) : Prop := B.heap[bl]? = A.heap[bl]? ∧ ∀ k, k < B0 → B.heap[k]? = A.heap[k]?
def pairVals (l : L64) (i : Nat) : Array Value := #[.int .u64 (U (nth l (i - 1))), .int .u64 (U (nth l i))]
theorem At.keep2 {A B : World} {B0 bl : Nat} {a : Option Addr} {l : L64} (h : At A B0 a l) (k : Keep2 B0 bl A B) : At B B0 a l := fun hl => by
  obtain ⟨b, o, e, hlt, hc⟩ := h hl
  exact ⟨b, o, e, hlt, fun j hj => (World.cell?_of_block (a := ⟨b, o + j, none⟩) (k.2 b hlt)).trans (hc j hj)⟩

set_option maxRecDepth 100000 in
set_option maxHeartbeats 2000000 in
theorem pairs1_go (n : Nat) (hn : 1 ≤ n) (A : Option Addr) (c : Nat) (l : L64) (N : Nat) (hN : l.length = N) (hN2 : N ≤ 65536) (B0 bl : Nat) :
    SeqGo Fence.wide n Try.prog 37 #[.pointer (some ⟨bl, 0, none⟩)] (pairVals l) (Keep2 B0 bl) (fun A B => ∃ q, B = A.drewN q) (fun xs _ => xs.length = N - 1) (fun _ _ => True)
      (fun W => W.cell? ⟨bl, 0, none⟩ = some (.slice A N c) ∧ At W B0 A l) (fun pre x => x = pre.length + 1 ∧ x < N) := by
  intro ly J Jx hJ hJx hY W h0 ⟨hb, hA⟩
  have HN := Lib.hid hN
  clear hN
  refine callsIn_of_wp Try.func37 rfl trivial ?_ rfl
  simp only [Try.ntmps37, List.size_toArray, List.length_cons, List.length_nil, Nat.reduceAdd, Nat.reduceSub, Array.replicate_succ, Array.replicate_zero, List.push_toArray, List.append_toArray, List.nil_append, List.cons_append]
  gi_wp2
  gi_loopw [3] (fun iv wr => ∃ (i : Nat) (pre : List Nat), iv = .int .i64 i ∧ pre.length + 1 = i ∧ (i ≤ N ∨ i = 1) ∧ wr.cell? ⟨bl, 0, none⟩ = some (.slice A N c) ∧ At wr B0 A l ∧ J pre wr) (fun iv _ => N - (intOf iv).toNat)
  case atStart => exact ⟨1, [], rfl, rfl, .inr rfl, hb, hA, h0⟩
  case round =>
    clear hb hA h0
    obtain ⟨i, pre, rfl, hi, hiN, hb, hA, hJj⟩ := hrel
    obtain ⟨wo, rfl⟩ : ∃ wo : World, wo = wr := ⟨_, rfl⟩
    by_cases hlt : i < N
    · have hA' := Lib.hid hA
      obtain ⟨b, o, rfl, hbb, hc⟩ := hA (by rw [HN.out]; omega)
      have y0 := hc (i - 1) (by rw [HN.out]; omega)
      have y1 := hc i (by rw [HN.out]; omega)
      obtain ⟨k, rfl⟩ : ∃ k, i = k + 1 := ⟨i - 1, by omega⟩
      have e1 : k + 1 - 1 = k := by omega
      rw [e1] at y0
      clear hc hA e1
      gi_wp2
      refine wpIn_region_drawn_tail 10 rfl (by kernel_rfl) (by kernel_rfl) ?_
      simp only [List.take_succ_cons, List.take_zero, List.drop_succ_cons, List.drop_zero]
      repeat (gi_big_quiet_step (fail))
      refine wpQuietIn_nil ?_
      rintro _ ⟨q, rfl⟩
      obtain ⟨fn, tmps, assign, body, hy, hR⟩ := hY pre (k + 1) (wo.drewN q) ⟨hi.symm, hlt⟩ (hJ _ _ _ hJj ⟨q, rfl⟩)
      unfold pairVals at hy
      simp only [Nat.add_sub_cancel] at hy
      gi_wp2
      refine hR.mono ?_
      have hk1 : ∀ W', Keep2 B0 bl (wo.drewN q) W' → W'.cell? ⟨bl, 0, none⟩ = some (.slice (some ⟨b, o, none⟩) N c) ∧ At W' B0 (some ⟨b, o, none⟩) l := fun W' hk => ⟨(World.cell?_of_block (a := ⟨bl, 0, none⟩) hk.1).trans hb, At.keep2 (A := wo.drewN q) hA'.out hk⟩
      have HK1 := Lib.hid hk1
      clear hk1 hb hy y0 y1
      rintro e W3 (⟨rfl, hJ3, hk3⟩ | ⟨rfl, hJ3, hk3⟩)
      · obtain ⟨hb3, hA3⟩ := HK1.out W3 hk3
        gi_wp2
        go_roundw
        case rel => exact ⟨k + 1 + 1, pre ++ [k + 1], by go_num, by rw [List.length_append, List.length_singleton, hi], .inl (by omega), hb3, hA3, hJ3⟩
        case measure => simp [intOf]; omega
      · gi_wp2
        exact bodyPost_ret (results_none rfl _ _ _) rfl ⟨⟨_, rfl⟩, .inr ⟨_, trivial, hJ3⟩⟩
    · gi_wp2
      go_end0
      exact ⟨⟨_, rfl⟩, .inl ⟨pre, by omega, hJj⟩⟩

set_option maxRecDepth 100000 in
theorem pairs_any (v : Value) (hv : ∃ A n c, v = .slice A n c) (w : World) : Calls Try.prog 32 #[v] w fun e w' => e = .returned (.func (.func 37) #[] #[.pointer (some ⟨w.heap.size, 0, none⟩)]) ∧ w' = w.alloc (.cells #[v] 22) := by
  obtain ⟨A, n, c, rfl⟩ := hv
  go_enter Try.func32, Try.ntmps32
  go_wp2
  go_ret
  exact ⟨rfl, rfl⟩

theorem abs_codeIn {F : Fence} {n : Nat} {P : Program} {c : Code} {Q : Exit → Act → World → Prop} {a : Act} {w : World} (R : World → Prop) (h : R w) (k : ∀ w', R w' → c.wpIn F n P Q a w') : c.wpIn F n P Q a w := k w h
/-- Between two rounds of checking: the box of what is told. -/
def ChkI (w : World) (b : Bool) (W : World) : Prop :=
  w.heap.size + 3 ≤ W.heap.size ∧ Below w.heap.size w W ∧ W.heap[w.heap.size + 1]? = some (.cells #[.bool b] 4 (0, 0))

set_option maxRecDepth 100000 in
set_option maxHeartbeats 4000000 in
theorem Right_any (A : Option Addr) (c : Nat) (l : L64) (N : Nat) (hN : l.length = N) (hN2 : N ≤ 65536) (w : World) (hA : At w w.heap.size A l) :
    Calls Try.prog 22 #[.agg #[.slice A N c]] w fun e w' => e = .returned (.bool (rightX l)) ∧ Below w.heap.size w w' := by
  have hrx : rightX l = (decide (N ≤ 64) && adjB l N) := by unfold rightX; rw [hN]
  have HRx := Lib.hid hrx
  have HN := Lib.hid hN
  clear hrx hN
  obtain ⟨b64, hb64⟩ : ∃ q, decide (N ≤ 64) = q := ⟨_, rfl⟩
  have hd : decide ((N : Int) ≤ 64) = b64 := by rw [← hb64, Bool.eq_iff_iff, decide_eq_true_iff, decide_eq_true_iff]; omega
  have HB := Lib.hid hb64
  clear hb64
  refine (callsIn_wide (n := 3)).1 ?_
  refine callsIn_of_wp_marks Try.func22 rfl trivial ?_ rfl
  simp only [Try.ntmps22, List.size_toArray, List.length_cons, List.length_nil, Nat.reduceAdd, Nat.reduceSub, Array.replicate_succ, Array.replicate_zero, List.push_toArray, List.append_toArray, List.nil_append, List.cons_append]
  gi_wp2
  refine wpIn_scope_straight ?_
  gi_wp2
  refine wpIn_label ?_
  gi_wp2
  refine ⟨trivial, (callsIn_wide.2 (pairs_any _ ⟨_, _, _, rfl⟩ _)).mono ?_⟩
  rintro e w1 ⟨rfl, rfl⟩
  gi_wp2
  refine abs_codeIn (fun u => Below w.heap.size w u ∧ u.heap.size = w.heap.size + 3 ∧ u.heap[w.heap.size + 1]? = some (.cells #[.bool b64] 4) ∧ u.heap[w.heap.size + 1 + 1]? = some (.cells #[.slice A N c] 22))
    ⟨(((Below.refl _ w).alloc (Nat.le_refl _) _).alloc (by simp) _).alloc (by simp; omega) _, by simp, old_at (new_at _ _ _ (by simp)), new_at _ _ _ (by simp)⟩ ?_
  rintro u ⟨hB, hsz, k1, k2⟩
  have hAu := (hA.below hB)
  have adj1 : adjB l 1 = true := rfl
  refine wpIn_rangeFunc_go (F := Fence.wide) (n := 3) rfl (by omega) (gf := 37) (lb := #[.pointer (some ⟨w.heap.size + 1 + 1, 0, none⟩)]) rfl trivial (enters_of Try.func37 (by kernel_rfl) rfl)
    (pairs1_go 2 (by omega) A c l N HN.out hN2 w.heap.size (w.heap.size + 1 + 1))
    ?pre (fun h k => ⟨k.1.trans h.1, fun j hj => (k.2 j hj).trans (h.2 j hj)⟩) ?kb ?st (fun _ _ _ _ h _ _ => h) (fun _ _ _ _ h _ _ => h) (fun _ => rfl)
    (fun pre W => ChkI w b64 W ∧ adjB l (pre.length + 1) = true) (fun c _ W => c = .exit 0 ∧ ChkI w false W ∧ adjB l N = false)
    ?own ?ownx ?sti ?stx ⟨⟨by omega, hB, k1⟩, adj1⟩
    ?a1 ?assign ?body ?done ?stop
  case assign =>
    intro l x W K hK
    gi_wp2
    exact hK
  case pre =>
    intro W hW
    have e2 := (hW.block (w.heap.size + 1 + 1) (by omega)).trans k2
    exact ⟨cell_at e2 0, hAu.below (hW.mono (by omega))⟩
  case kb => exact fun W l o' hl => ⟨World.putObj_heap_other (by omega), fun j hj => World.putObj_heap_other (by omega)⟩
  case st =>
    rintro A B k o ⟨q, rfl⟩ h _
    exact h
  case own =>
    refine OwnFrom.and (OwnFrom.and (fun s A B row hs hg hr => Nat.le_trans hs hg.size) (OwnFrom.and (ownFrom_below (Nat.le_refl _) hB.size) (Own.from ?_ _))) (fun _ _ _ _ h _ _ => h)
    intro pre A B row h hg hr
    exact cells_kept h hg hr
  case ownx =>
    intro c
    refine OwnFrom.and (fun _ _ _ _ h _ _ => h) (OwnFrom.and (OwnFrom.and (fun s A B row hs hg hr => Nat.le_trans hs hg.size) (OwnFrom.and (ownFrom_below (Nat.le_refl _) hB.size) (Own.from ?_ _))) (fun _ _ _ _ h _ _ => h))
    intro pre A B row h hg hr
    exact cells_kept h hg hr
  case sti =>
    rintro pre A B ⟨⟨h1, h2, h3⟩, h4⟩ ⟨q, rfl⟩
    exact ⟨⟨h1, dn h2 q, h3⟩, h4⟩
  case stx =>
    rintro c pre A B ⟨h0, ⟨h1, h2, h3⟩, h4⟩ ⟨q, rfl⟩
    exact ⟨h0, ⟨h1, dn h2 q, h3⟩, h4⟩
  case body =>
    rintro lr pre i W ⟨hi, hiN⟩ ⟨⟨h1, h2, h3⟩, h4⟩
    have hsucc := adjB_succ l i
    rw [hi, h4, Bool.true_and] at hsucc
    have hi0 : (pre.length + 1 == 0) = false := rfl
    rw [hi0, Bool.false_or, Nat.add_sub_cancel] at hsucc
    have c3 := cell_at h3 0
    have f3 := free_at h3 0
    have hq : i - 1 = pre.length := by omega
    have hle := U_le_iff (nth l i) (nth l (i - 1))
    rw [hq] at hle
    have HS := Lib.hid hsucc
    have HI := Lib.hid hi
    have HQ := Lib.hid hq
    clear hsucc h4
    by_cases hx : (nth l i).toNat ≤ (nth l pre.length).toNat
    · rw [decide_eq_true hx] at hle
      have HA : Hid (adjB l N = false) := Lib.hid (adjB_false (i := pre.length + 1 + 1) (by rw [HS.out, decide_eq_false]; have := HI.out; rw [← this]; omega) (by omega))
      have hP := (Put.refl h3).set 0 (.bool false)
      have HP := Lib.hid hP
      clear hx hi hq hP
      unfold pairVals
      simp only [HQ.out]
      gi_wp2
      have hP := HP.out
      exact ⟨((KeepsOthers.setCell W ⟨w.heap.size + 1, 0, none⟩ _).from _), ⟨hP.other (by omega), fun j hj => hP.other (by omega)⟩, rfl, ⟨by rw [hP.size]; exact h1, h2.trans (hP.below (by omega)), hP.get (by omega)⟩, HA.out⟩
    · rw [decide_eq_false hx] at hle
      have HA : Hid (adjB l (pre.length + 1 + 1) = true) := Lib.hid (by rw [HS.out, decide_eq_true_iff]; have := HI.out; rw [← this]; omega)
      clear hx hi hq
      unfold pairVals
      simp only [HQ.out]
      gi_wp2
      exact ⟨KeepsFrom.refl _ _, ⟨rfl, fun j hj => rfl⟩, ⟨⟨h1, h2, h3⟩, by rw [List.length_append, List.length_singleton]; exact HA.out⟩⟩
  case done =>
    rintro D xs W hD hS ⟨⟨h1, h2, h3⟩, h4⟩ hK
    have c3 := cell_at h3 0
    have HR : Hid (rightX l = b64) := Lib.hid (by
      rw [HRx.out, HB.out]
      have hS : xs.length = N - 1 := hS
      rw [hS] at h4
      have : adjB l N = true := by
        cases N with
        | zero => rfl
        | succ m => exact h4
      rw [this, Bool.and_true])
    clear h4
    gi_wp2
    rw [Exit.noGoto_ret]
    refine ⟨by simp, .inl ⟨_, _, rfl, run_takeDeferred hK, ?_⟩⟩
    refine ⟨_, results_tmp rfl _ _ _, by rw [HR.out]; rfl, ?_⟩
    exact h2.trans (belowK_b (w := w) (Nat.le_refl _) _ D _ _ (by omega) hK rfl rfl)
  case stop =>
    rintro D cd pre W hD - ⟨rfl, ⟨h1, h2, h3⟩, h4⟩ hK
    have c3 := cell_at h3 0
    have HR : Hid (rightX l = false) := Lib.hid (by rw [HRx.out, h4, Bool.and_false])
    clear h4
    gi_wp2
    rw [Exit.noGoto_ret]
    refine ⟨by simp, .inl ⟨_, _, rfl, run_takeDeferred hK, ?_⟩⟩
    refine ⟨_, results_tmp rfl _ _ _, by rw [HR.out]; rfl, ?_⟩
    exact h2.trans (belowK_b (w := w) (Nat.le_refl _) _ D _ _ (by omega) hK rfl rfl)
end Go.Proofs.Ythnnbpmpaeddgaa
