/-
  A claim's token by the reference.
-/
import Derived.Test.YtpekedldoplmmaaDoorTokC
import Derived.Test.YtpekedldoplmmaaDoorFldF
import Derived.Test.YtpekedldoplmmaaDoorFldK
namespace Go.Proofs.YtpekedldoplmmaaDoor
open Go.RowKit Go.Shelf

/-- An append by what it comes to. -/
theorem wpListB_append_run {P : Program} {w : World} {ops : Array Oper} {rest : List Oper} {o : Oper} {a : Act} {Q : Exit → Act → World → Prop} (hgd : o.guard = none) (s x : Operand) (t : TypeId)
    (ho : o.op = .call { callee := .builtin .append, args := #[s, x], argTypes := #[t, t] }) {u1 u2 r : Value} {W : World} (hs : a.eval s = u1) (hx : a.eval x = u2)
    (hrun : (Builtin.append_ #[t, t] o.type #[u1, u2]).run P w = .ok r W) (h : wpList P ops Q rest (a.put o.dst r) W) : wpList P ops Q (o :: rest) a w := by
  refine wpList_plain hgd fun K hK => ?_
  unfold Oper.wp execOp
  simp only [ho, resolve, invoke, builtin, Sem.run_bind, Sem.run_pure, Result.andThen_ok, List.map_toArray, List.map_cons, List.map_nil, hs, hx, hrun]
  exact hK _ _ h
set_option maxRecDepth 100000 in
set_option maxHeartbeats 4000000 in
theorem refBody_any (t r u : BitVec 64) (role : Int) (hr : role = U r) (hr2 : U r ≤ 3) (w : World) :
    Calls Tryd.prog 28 #[.agg #[.int .u64 (U t), .int .i64 role, .int .u64 (U u)]] w fun e w' => e = .returned (.string (bodyT t r u)) ∧ Below w.heap.size w w' := by
  subst hr
  have h1 := bytesF_size t
  have h2 := bytesF_size r
  have h3 := bytesF_size u
  have HT : Hid (bytesF t ++ bytesF r ++ bytesF u = bodyT t r u) := Lib.hid rfl
  have hz1 : (bytesF t).size + (bytesF r).size ≤ 9223372036854775807 := by omega
  have hz2 : (bytesF t ++ bytesF r).size + (bytesF u).size ≤ 9223372036854775807 := by rw [ByteArray.size_append]; omega
  have hz3 : (bytesF t).size + (bytesF r).size + (bytesF u).size ≤ 9223372036854775807 := by omega
  have hr0 : 0 ≤ U r := by unfold U; omega
  clear h1 h2 h3
  go_enter Tryd.func28, Tryd.ntmps28
  go_wp2_with fail
  have k0 : (w.alloc (.cells #[.int .u64 (U t), .int .i64 (U r), .int .u64 (U u)] 26)).heap[w.heap.size]? = some (.cells #[.int .u64 (U t), .int .i64 (U r), .int .u64 (U u)] 26 (0, 0)) := new_at w _ _ rfl
  have hB0 : Below w.heap.size w (w.alloc (.cells #[.int .u64 (U t), .int .i64 (U r), .int .u64 (U u)] 26)) := (Below.refl _ w).alloc (Nat.le_refl _) _
  generalize w.alloc (.cells #[.int .u64 (U t), .int .i64 (U r), .int .u64 (U u)] 26) = w0 at *
  have HB0 := Lib.hid hB0
  clear hB0
  refine wp_region_later w0.heap.size (by kernel_rfl) (by kernel_rfl) ?_
  have l0 : ∀ s : Later w0.heap.size w0, s.W.cell? ⟨w.heap.size, 0, none⟩ = some _ := fun s => s.cell (cell_at k0 0) (Array.getElem?_eq_some_iff.1 k0).1
  have l1 : ∀ s : Later w0.heap.size w0, s.W.cell? ⟨w.heap.size, 1, none⟩ = some _ := fun s => s.cell (cell_at k0 1) (Array.getElem?_eq_some_iff.1 k0).1
  have l2 : ∀ s : Later w0.heap.size w0, s.W.cell? ⟨w.heap.size, 2, none⟩ = some _ := fun s => s.cell (cell_at k0 2) (Array.getElem?_eq_some_iff.1 k0).1
  repeat (go_big_quiet_step ((go_at_call 42; with_reducible exact Calls.later (Nat.le_refl _) (refPut_at _ _ rfl _))))
  refine wpQuiet_nil ?_
  rintro _ ⟨s, rfl⟩
  clear l0 l1 l2
  have HB := Lib.hid (HB0.out.trans (s.below.mono HB0.out.size))
  go_wp2_with fail
  go_ret
  exact ⟨ret_str HT.out, HB.out⟩

set_option maxRecDepth 100000 in
set_option maxHeartbeats 8000000 in
theorem refMint_any (a b t u : BitVec 64) (role : Int) (w : World) :
    Calls Tryd.prog 13 #[.agg #[.int .u64 (U a), .int .u64 (U b)], .agg #[.int .u64 (U t), .int .i64 role, .int .u64 (U u)]] w fun e w' => e = .returned (.tuple #[.string (minB a b t (roleU role) u role), .int .i64 (minE role)]) ∧ Below w.heap.size w w' := by
  by_cases h : 1 ≤ role ∧ role ≤ 3
  · have e1 : minB a b t (roleU role) u role = tokT a b t (roleU role) u := by unfold minB; rw [if_pos h]
    have e2 : minE role = 0 := by unfold minE; rw [if_pos h]
    rw [e1, e2]
    have hru := roleU_of h.1 h.2
    have h1 := h.1
    have h2 := h.2
    have hbs := bodyT_size t (roleU role) u
    have hes := eight_size (sumT a b (bodyT t (roleU role) u))
    have HBo := Lib.hid (fun W => refBody_any t (roleU role) u role hru.symm (by omega) W)
    have HCh := Lib.hid (fun W => trefChild_any a b W)
    have HSm := Lib.hid (fun W => trefSip_any a b (bodyT t (roleU role) u) (by omega) W)
    have HT : Hid (tokT a b t (roleU role) u = bodyT t (roleU role) u ++ eight (sumT a b (bodyT t (roleU role) u))) := Lib.hid rfl
    generalize keyA a b = ca at *
    generalize keyB a b = cb at *
    generalize bodyT t (roleU role) u = B at *
    generalize sumT a b B = sm at *
    have HEi : Hid ((⟨(beGo sm 8).toArray⟩ : ByteArray) = eight sm) := Lib.hid rfl
    clear h e1 e2 hru
    go_enter Tryd.func13, Tryd.ntmps13
    go_wp2_with fail
    with_reducible refine (HBo.out _).mono ?_
    rintro e w1 ⟨rfl, hB1⟩
    have hkey : ((w.alloc (.cells #[.int .u64 (U a), .int .u64 (U b)] 24)).alloc (.cells #[.int .u64 (U t), .int .i64 role, .int .u64 (U u)] 26)).heap[w.heap.size]? = some (.cells #[.int .u64 (U a), .int .u64 (U b)] 24 (0, 0)) := old_at (new_at _ _ _ rfl)
    have hBel : Below w.heap.size w ((w.alloc (.cells #[.int .u64 (U a), .int .u64 (U b)] 24)).alloc (.cells #[.int .u64 (U t), .int .i64 role, .int .u64 (U u)] 26)) := ((Below.refl _ w).alloc (Nat.le_refl _) _).alloc (by simp) _
    have hk1 := (hB1.block _ (Array.getElem?_eq_some_iff.1 hkey).1).trans hkey
    have HB1 := Lib.hid (hBel.trans (hB1.mono hBel.size))
    have c0 := cell_at hk1 0
    have c1 := cell_at hk1 1
    clear hB1 hkey hBel hk1
    go_wp2_with fail
    with_reducible refine (HCh.out _).mono ?_
    rintro e w4 ⟨rfl, hB4⟩
    have HB4 := Lib.hid (HB1.out.trans (hB4.mono HB1.out.size))
    clear hB4 c0 c1
    go_wp2_with fail
    with_reducible refine (HSm.out _).mono ?_
    rintro e w5 ⟨rfl, hB5⟩
    have HB5 := Lib.hid (HB4.out.trans (hB5.mono HB4.out.size))
    clear hB5
    go_wp2_with fail
    go_loopw [8, 9] (fun vv iv wr => ∃ (z : Int) (pre : List UInt8), iv = .int .i64 z ∧ -1 ≤ z ∧ z < 8 ∧ Hid (beGo sm 8 = pre ++ beGo sm (z + 1).toNat) ∧ pre.length + (z + 1).toNat = 8 ∧ Below w.heap.size w wr ∧ OwnB wr w.heap.size vv pre) (fun _ iv _ => (intOf iv + 1).toNat)
    case atStart => exact ⟨7, [], rfl, by omega, by omega, Lib.hid rfl, rfl, HB5.out, OwnB.nil _ _⟩
    case round =>
      obtain ⟨z, pre, rfl, hz0, hzs, HE, hp, hB, hown⟩ := hrel
      obtain ⟨A5, c5, rfl, -⟩ := hown.slice
      obtain ⟨n5, hn5⟩ : ∃ n5, pre.length = n5 := ⟨_, rfl⟩
      rw [hn5] at hown ⊢
      have HN5 := Lib.hid hn5
      rw [hn5] at hp
      clear hn5
      by_cases hz : 0 ≤ z
      · obtain ⟨k, rfl⟩ := Int.eq_ofNat_of_zero_le hz
        have e1 : ((k : Int) + 1).toNat = k + 1 := by omega
        have hbw := byte_wrap sm k
        have h8k : IntKind.i64.wrap (8 * (k : Int)) = ((8 * k : Nat) : Int) := by rw [IntKind.wrap_i64] <;> omega
        have hown1 : OwnB (wr.alloc (.cells #[.int .u8 ((byte8 sm k).toNat : Int)] 5)) w.heap.size (.slice A5 n5 c5) pre := OwnB.of hown (fun k _ hk => Below.heap_alloc _ _ _ hk)
        obtain ⟨v', W1, hrun, hown', hBn, -⟩ := append_byte _ w.heap.size (.slice A5 n5 c5) pre (byte8 sm k) wr.heap.size hown1 (cell_at (new_at wr _ _ rfl) 0) (by have := hB.size; simp; omega) (by rw [HN5.out]; omega)
        have HR := Lib.hid hrun
        have HO := Lib.hid hown'
        have HBn := Lib.hid (hB.trans (((Below.refl _ wr).alloc hB.size _).trans hBn))
        clear hown hown1 hown' hrun hBn
        go_wp2_with (at_builtin; refine wpListB_append_run rfl (.tmp 28) (.tmp 34) _ rfl rfl rfl HR.out ?_)
        go_roundw
        case rel =>
          have e2 : ((k : Int) - 1 + 1).toNat = k := by omega
          refine ⟨_, pre ++ [byte8 sm k], rfl, by omega, by omega, Lib.hid ?_, ?_, HBn.out, HO.out⟩
          · rw [HE.out, e1, e2]
            simp [beGo]
          · rw [e2, List.length_append, HN5.out]
            simp
            omega
        case measure => simp [intOf]
      · obtain rfl : z = -1 := by omega
        have e3 : ((-1 : Int) + 1).toNat = 0 := rfl
        have h9 := HE.out
        rw [e3] at h9
        have h10 : pre = beGo sm 8 := by rw [h9]; simp [beGo]
        subst h10
        have HTx := text_of wr _ _ (beGo sm 8) hown
        rw [HEi.out] at HTx
        have hzz : B.size + (eight sm).size ≤ 9223372036854775807 := by omega
        clear h9 hown
        generalize eight sm = E8 at *
        go_wp2_with fail
        refine bodyPost_ret (v := .tuple #[.string (B ++ E8), .int .i64 0]) (by simp [results, Tryd.results13, go_sem]) rfl ⟨by rw [HT.out], hB⟩
  · have e1 : minB a b t (roleU role) u role = ⟨#[]⟩ := by unfold minB; rw [if_neg h]
    have e2 : minE role = 170 := by unfold minE; rw [if_neg h]
    rw [e1, e2]
    have h12 : role < 1 ∨ (¬ role < 1 ∧ 3 < role) := by omega
    clear h e1 e2
    rcases h12 with h1 | ⟨h1, h2⟩
    all_goals
      go_enter Tryd.func13, Tryd.ntmps13
      go_wp2_with fail
      refine bodyPost_ret (v := .tuple #[.string ⟨#[]⟩, .int .i64 170]) (by simp [results, Tryd.results13, go_sem]) rfl ⟨rfl, ?_⟩
      exact ((Below.refl _ w).alloc (Nat.le_refl _) _).alloc (by simp) _
end Go.Proofs.YtpekedldoplmmaaDoor
