/-
  Small functions of package token: what is told, the bytes of a sum, a sum of bytes.
-/
import Derived.Test.YtpekedldoplmmaaDoorTokA
namespace Go.Proofs.YtpekedldoplmmaaDoor
open Go.RowKit Go.Shelf
attribute [local go_sem] Oper.semAt_some

set_option maxRecDepth 100000 in
theorem ttold_wrong (x : Int) (w : World) : Calls Tryd.prog 20 #[.iface 45 (.agg #[.int .i64 x])] w fun e w' => e = .returned (.int .i64 x) ∧ Below w.heap.size w w' := by
  have ta : ∀ W : World, (Instr.typeAssert (.iface 45 (.agg #[.int .i64 x])) 54 45 true).run Tryd.prog W = .ok (.tuple #[.agg #[.int .i64 x], .bool true]) W := fun W => by kernel_rfl
  go_enter Tryd.func20, Tryd.ntmps20
  go_wp2
  go_ret
  exact ⟨rfl, (Below.refl _ w).alloc (Nat.le_refl _) _⟩
set_option maxRecDepth 100000 in
theorem ttold_nil (w : World) : Calls Tryd.prog 20 #[.nilIface] w fun e w' => e = .returned (.int .i64 0) ∧ Below w.heap.size w w' := by
  have ta : ∀ W : World, (Instr.typeAssert .nilIface 54 45 true).run Tryd.prog W = .ok (.tuple #[.agg #[.int .i64 0], .bool false]) W := fun W => by kernel_rfl
  go_enter Tryd.func20, Tryd.ntmps20
  go_wp2
  go_ret
  exact ⟨rfl, (Below.refl _ w).alloc (Nat.le_refl _) _⟩
/-- Is a number a role? -/
def roleB (r : Int) : Bool := decide (1 ≤ r ∧ r ≤ 3)
set_option maxRecDepth 100000 in
theorem isRole_any (r : Int) (w : World) : Calls Tryd.prog 19 #[.int .i64 r] w fun e w' => e = .returned (.bool (roleB r)) ∧ w' = w := by
  by_cases h1 : 1 ≤ r
  · by_cases h2 : r ≤ 3
    · have HE : Hid (roleB r = true) := Lib.hid (decide_eq_true ⟨h1, h2⟩)
      go_enter Tryd.func19, Tryd.ntmps19
      go_wp2
      go_ret
      exact ⟨ret_bool HE.out.symm, rfl⟩
    · have HE : Hid (roleB r = false) := Lib.hid (decide_eq_false (fun h => h2 h.2))
      go_enter Tryd.func19, Tryd.ntmps19
      go_wp2
      go_ret
      exact ⟨ret_bool HE.out.symm, rfl⟩
  · have HE : Hid (roleB r = false) := Lib.hid (decide_eq_false (fun h => h1 h.1))
    go_enter Tryd.func19, Tryd.ntmps19
    go_wp2
    go_ret
    exact ⟨ret_bool HE.out.symm, rfl⟩

set_option maxRecDepth 100000 in
theorem tsum_any (s : ByteArray) (hs : 8 ≤ s.size) (w : World) : Calls Tryd.prog 40 #[.string s] w fun e w' => e = .returned (.int .u64 (U (takeN s 8))) ∧ w' = w := by
  go_enter Tryd.func40, Tryd.ntmps40
  go_wp2_with fail
  go_loop [3, 5] (fun m i => ∃ k : Nat, k ≤ 8 ∧ i = .int .i64 k ∧ m = .int .u64 (U (takeN s k))) (fun _ i => 8 - (intOf i).toNat)
  case atStart => exact ⟨0, Nat.zero_le _, rfl, rfl⟩
  case round =>
    obtain ⟨k, hk, rfl, rfl⟩ := hrel
    by_cases hkr : k < 8
    · have hk2 : k < s.size := by omega
      have hby := byteOf_get s k hk2
      have hsl : IntKind.u64.wrap (U (takeN s k) * 256) = U (takeN s k <<< 8) := U_shl (takeN s k) 8
      have hmo := U_mod (byteOf s k)
      go_wp2_with fail
      go_round
      case rel => exact ⟨k + 1, by omega, by go_num, by rw [U_or]; rfl⟩
      case measure => simp [intOf]; omega
    · obtain rfl : k = 8 := by omega
      go_wp2_with fail
      go_ret
      exact ⟨rfl, rfl⟩

set_option maxRecDepth 100000 in
theorem tbytes_any (m : BitVec 64) (w : World) : Calls Tryd.prog 23 #[.int .u64 (U m)] w fun e w' => e = .returned (.func (.func 35) #[] #[.pointer (some ⟨w.heap.size, 0, none⟩)]) ∧ w' = w.alloc (.cells #[.int .u64 (U m)] 22) := by
  go_enter Tryd.func23, Tryd.ntmps23
  go_wp2
  go_ret
  exact ⟨by simp, rfl⟩

set_option maxRecDepth 100000 in
set_option maxHeartbeats 2000000 in
theorem tbytes1_in (F : Fence) (n : Nat) (h7 : F.fn 35) (hro : F.round = none) (hn : 1 ≤ n) (l Bn Tn : Nat) (m : BitVec 64)
    (J : List UInt8 → World → Prop)
    (hY : ∀ pre x W1, J pre W1 → pre.length < 8 → YieldAt F (n - 1) Tryd.prog l #[.int .u8 (x.toNat : Int)] W1 fun e W' => e = .returned (.bool true) ∧ J (pre ++ [x]) W' ∧ W'.heap[Bn]? = W1.heap[Bn]?)
    (W : World) (hn1 : Boxed8 W Bn Tn (.int .u64 (U m))) (h0 : J [] W) :
    CallsIn F n Tryd.prog 35 #[.func (.yield l) #[] #[], .pointer (some ⟨Bn, 0, none⟩)] W fun e W' => (∃ v, e = .returned v) ∧ J (beGo m 8) W' := by
  refine callsIn_of_wp Tryd.func35 rfl h7 ?_ hro
  simp only [Tryd.ntmps35, List.size_toArray, List.length_cons, List.length_nil, Nat.reduceAdd, Nat.reduceSub, Array.replicate_succ, Array.replicate_zero, List.push_toArray, List.append_toArray, List.nil_append, List.cons_append]
  gi_wp2
  refine wpIn_scope_straight ?_
  gi_wp2
  refine wpIn_label ?_
  gi_wp2
  gi_loopw [3] (fun iv wr => ∃ (z : Int) (pre : List UInt8), iv = .int .i64 z ∧ -1 ≤ z ∧ z < 8 ∧ beGo m 8 = pre ++ beGo m (z + 1).toNat ∧ pre.length + (z + 1).toNat = 8 ∧ Boxed8 wr Bn Tn (.int .u64 (U m)) ∧ J pre wr)
    (fun iv _ => (intOf iv + 1).toNat)
  case atStart => exact ⟨7, [], rfl, by omega, by omega, rfl, rfl, hn1, h0⟩
  case round =>
    obtain ⟨z, pre, rfl, hz0, hzs, he, hp, hbn, hj⟩ := hrel
    have HE := Lib.hid he
    clear he
    by_cases h : 0 ≤ z
    · obtain ⟨k, rfl⟩ := Int.eq_ofNat_of_zero_le h
      have cn := hbn.cell
      have e1 : ((k : Int) + 1).toNat = k + 1 := by omega
      have hbw := byte_wrap m k
      have h8k : IntKind.i64.wrap (8 * (k : Int)) = ((8 * k : Nat) : Int) := by rw [IntKind.wrap_i64] <;> omega
      obtain ⟨fn, tmps, assign, body, hy, hR⟩ := hY pre (byte8 m k) wr hj (by omega)
      gi_wp2
      refine hR.mono ?_
      rintro e W3 ⟨rfl, hJ3, kn⟩
      have hbn3 : Boxed8 W3 Bn Tn (.int .u64 (U m)) := kn.trans hbn
      clear hR hy hj hbn cn hbw h8k kn
      gi_wp2
      go_roundw
      case rel =>
        have e2 : ((k : Int) - 1 + 1).toNat = k := by omega
        refine ⟨_, pre ++ [byte8 m k], rfl, by omega, by omega, ?_, ?_, hbn3, hJ3⟩
        · rw [HE.out, e1, e2]
          simp [beGo]
        · rw [e2, List.length_append]
          simp
          omega
      case measure => simp [intOf]
    · obtain rfl : z = -1 := by omega
      gi_wp2
      go_end0
      have e3 : ((-1 : Int) + 1).toNat = 0 := rfl
      refine ⟨⟨_, rfl⟩, ?_⟩
      have h9 := HE.out
      rw [e3] at h9
      rw [h9]
      simpa [beGo] using hj

/-- The box of a list holds these bytes, which are the call's own. -/
def OutC (n₀ : Nat) (pre : List UInt8) (W : World) : Prop := ∃ v, Boxed W n₀ 31 v ∧ W.ownsRow n₀ 5 1 v pre.length (pre.map enc8) ∧ True

theorem OwnB.deferred {W : World} {base D : Nat} {v : Value} {l : List UInt8} {o : Obj} (h : OwnB W base v l) (hK : W.heap[D]? = some (.deferred (some []))) : OwnB (W.putObj D o) base v l := by
  refine ⟨h.1, ?_⟩
  rcases h.2 with h0 | ⟨g, cap, cur, h1, h2, h3, h4⟩
  · exact .inl h0
  · have hne : g ≠ D := by
      intro e
      subst e
      rw [h3] at hK
      cases hK
    exact .inr ⟨g, cap, cur, h1, h2, (World.putObj_heap_other hne).trans h3, h4⟩
set_option maxRecDepth 100000 in
set_option maxHeartbeats 4000000 in
theorem appendSeq_any (m : BitVec 64) (bn : Nat) (w : World) (hbn : Boxed w bn 22 (.int .u64 (U m))) :
    Calls Tryd.prog 34 #[.slice none 0 0, .func (.func 35) #[] #[.pointer (some ⟨bn, 0, none⟩)]] w fun e w' => (∃ v : Value, e = .returned v ∧ OwnB w' w.heap.size v (beGo m 8)) ∧ Below w.heap.size w w' := by
  have hlt : bn < w.heap.size := (Array.getElem?_eq_some_iff.1 hbn).1
  refine (callsIn_wide (n := 3)).1 ?_
  refine callsIn_of_wp_marks Tryd.func34 rfl trivial ?_ rfl
  simp only [Tryd.ntmps34, List.size_toArray, List.length_cons, List.length_nil, Nat.reduceAdd, Nat.reduceSub, Array.replicate_succ, Array.replicate_zero, List.push_toArray, List.append_toArray, List.nil_append, List.cons_append]
  refine wpIn_wide.2 ?_
  go_wp2_with fail
  refine abs_code (fun W0 => Below w.heap.size w W0 ∧ Boxed W0 w.heap.size 31 (.slice none 0 0) ∧ Boxed W0 bn 22 (.int .u64 (U m)) ∧ W0.heap.size = w.heap.size + 1) ?_ ?_
  · exact ⟨(Below.refl _ w).alloc (Nat.le_refl _) _, new_at _ _ _ rfl, old_at hbn, by simp⟩
  rintro W0 ⟨hB0, hbo, hbn0, hsz1⟩
  refine (wpIn_wide (n := 3)).1 ?_
  refine wpIn_rangeFunc_st (F := Fence.wide) (n := 3) rfl (by omega) (gf := 35) (lb := #[.pointer (some ⟨bn, 0, none⟩)]) rfl trivial (enters_of Tryd.func35 (by kernel_rfl) rfl)
    (encs := fun x : UInt8 => #[.int .u8 (x.toNat : Int)]) (Kp := fun A B => B.heap[bn]? = A.heap[bn]?) (St := fun A B => A = B) (S := fun xs => xs = beGo m 8) (N := 8) (Pre := fun W => Boxed W bn 22 (.int .u64 (U m)))
    ?seq ?pre (fun h k => k.trans h) ?kb ?st (fun _ => rfl)
    (fun pre W => w.heap.size + 1 ≤ W.heap.size ∧ Below w.heap.size w W ∧ OutC w.heap.size pre W ∧ Boxed W bn 22 (.int .u64 (U m)))
    ?own ?ownst ⟨by omega, hB0, ⟨_, hbo, OwnB.nil _ _, trivial⟩, hbn0⟩
    ?a1 ?assign ?body ?done
  case assign =>
    intro l x W K hK
    gi_wp2
    exact hK
  case seq =>
    intro l J hJ hY W h0 hp
    exact (tbytes1_in Fence.wide 2 trivial rfl (by omega) l bn 22 m J hY W hp h0).mono fun e W' ⟨he, hj⟩ => ⟨he, _, rfl, hj⟩
  case pre => exact fun W hW => (hW.block _ (by omega)).trans hbn0
  case kb => exact fun W l o' hl => World.putObj_heap_other (by omega)
  case st =>
    rintro A B k o rfl h ho
    exact h
  case own =>
    exact OwnFrom.and (fun s A B row hs hg hr => Nat.le_trans hs hg.size) (OwnFrom.and (ownFrom_below (Nat.le_refl _) (by omega)) (OwnFrom.and (Own.from (show Own (fun (pre : List UInt8) W => OutC w.heap.size pre W) from holdsRow_own w.heap.size w.heap.size 31 5 1 (fun (pre : List UInt8) => pre.length) (fun (pre : List UInt8) => pre.map enc8) (fun _ _ => True)) _) (Own.from (boxed_own _ _ _) _)))
  case ownst =>
    rintro pre A B h rfl
    exact h
  case body =>
    rintro l pre x W ⟨hz, hB, ⟨v, hv, hown, -⟩, h2⟩ hlen
    have hm := (Boxed.new W 5 (.int .u8 (x.toNat : Int))).cell
    have hcb := hv.cell
    have hown1 : OwnB (W.alloc (.cells #[.int .u8 (x.toNat : Int)] 5)) w.heap.size v pre := OwnB.of hown (fun k _ hk => Below.heap_alloc _ _ _ hk)
    obtain ⟨v', w1, hrun, hown', -, hgrow⟩ := append_byte _ w.heap.size v pre x W.heap.size hown1 hm (by simp; omega) (by omega)
    obtain ⟨g1, g2, g3, g4, g5⟩ := Boxed.appended hv (by decide) hown (by omega) (Nat.le_refl _) hown' hgrow
    have b2 : Boxed w1 bn 22 (.int .u64 (U m)) := (h2.alloc _).kept hgrow (h2.not_row (by decide) hown)
    have hs1 : W.heap.size + 1 ≤ w1.heap.size := by have := hgrow.size; simpa using this
    obtain ⟨A', c', rfl, -⟩ := hown'.slice
    have hOut : OutC w.heap.size (pre ++ [x]) (w1.setCell ⟨w.heap.size, 0, none⟩ (.slice A' (pre ++ [x]).length c')) := ⟨_, g2, g3, trivial⟩
    have hc1 := g1.cell
    have hf1 := g1.frozen
    have b2s := (Below.heap_setCell w1 ⟨w.heap.size, 0, none⟩ (.slice A' (pre ++ [x]).length c') bn (by show bn ≠ w.heap.size; omega)).trans b2
    clear hown1 hown' hgrow hown hm g1 g2 g3
    generalize (pre ++ [x]).length = N' at *
    have HR := Lib.hid hrun
    have HOut := Lib.hid hOut
    have K2 := Lib.hid (b2s.trans h2.symm)
    have B2 := Lib.hid b2s
    clear hrun hOut b2s
    gi_wp2_with (gi_at_builtin; refine wpListIn_append_run rfl (.tmp 8) (.tmp 10) _ rfl rfl rfl HR.out ?_)
    refine ⟨g4.from _, K2.out, ?_, hB.trans g5, HOut.out, B2.out⟩
    have h8 := (KeepsWalks.setCell w1 ⟨w.heap.size, 0, none⟩ (.slice A' N' c')).size
    omega
  case done =>
    rintro D xs W hD rfl ⟨hz, hB, ⟨v, hv, hown, -⟩, -⟩ hK
    have hcb := hv.cell
    have HT := Lib.hid hown
    clear hown hB0 hbo hbn0
    go_wp2_with fail
    refine ⟨by simp, .inl ⟨_, _, rfl, run_takeDeferred hK, ?_⟩⟩
    refine ⟨_, results_tmp rfl _ _ _, ⟨_, rfl, ?_⟩, ?_⟩
    · exact OwnB.deferred HT.out hK
    · exact hB.trans (belowK_b (w := w) (Nat.le_refl _) W D _ _ (by omega) hK rfl rfl)
end Go.Proofs.YtpekedldoplmmaaDoor
