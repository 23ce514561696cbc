/-
  Lists joined: the library's.
-/
import Derived.Test.YthnnbpmpaeddgaaExaC
namespace Go.Proofs.Ythnnbpmpaeddgaa
open Go.RowKit Go.Shelf

theorem wpList_append_run2 {P : Program} {w : World} {ops : Array Oper} {rest : List Oper} {o : Oper} {a : Act} {Q : Exit → Act → World → Prop} (hgd : o.guard = none) (s x : Operand) (t t' : TypeId)
    (ho : o.op = .call { callee := .builtin .append, args := #[s, x], argTypes := #[t, t'] }) {u1 u2 r : Value} {W : World} (hs : a.eval s = u1) (hx : a.eval x = u2)
    (hrun : (Builtin.append_ #[t, t'] o.type #[u1, u2]).run P w = .ok r W) (h : wpList P ops Q rest (a.put o.dst r) W) : wpList P ops Q (o :: rest) a w := by
  refine wpList_plain hgd fun K hK => ?_
  unfold Oper.wp execOp
  simp only [ho, resolve, invoke, builtin, Sem.run_bind, Sem.run_pure, Result.andThen_ok, List.map_toArray, List.map_cons, List.map_nil, hs, hx, hrun]
  exact hK _ _ h

set_option maxRecDepth 100000 in
set_option maxHeartbeats 1000000 in
theorem grow_any (n : Nat) (hn : n ≤ 65536) (w : World) : Calls Try.prog 34 #[.slice none 0 0, .int .i64 (n : Int)] w fun e w' => Below w.heap.size w w' ∧ ∃ v : Value, e = .returned v ∧ OwnL w' w.heap.size v [] := by
  by_cases h0 : 1 ≤ n
  · obtain ⟨c, W, happ, hc, hown, hB⟩ := run_append_zeros n h0 hn w
    have HApp := Lib.hid happ
    have HOwn := Lib.hid hown
    clear happ hown
    go_enter Try.func34, Try.ntmps34
    go_wp2_with (at_builtin; refine wpList_append_run2 rfl (.tmp 20) (.tmp 21) _ _ rfl rfl rfl HApp.out ?_)
    go_ret
    exact ⟨hB, _, rfl, HOwn.out⟩
  · obtain rfl : n = 0 := by omega
    go_enter Try.func34, Try.ntmps34
    go_wp2_with fail
    go_ret
    exact ⟨Below.refl _ _, _, rfl, OwnL.nil _ _⟩

set_option maxRecDepth 100000 in
set_option maxHeartbeats 4000000 in
theorem concat_any (A A' : Option Addr) (c c' : Nat) (l l' : L64) (n n' : Nat) (hl : l.length = n) (hl' : l'.length = n') (hn : n + n' ≤ 60000) (g : Nat) (w : World) (h0 : w.cell? ⟨g, 0, none⟩ = some (.slice A n c)) (h1 : w.cell? ⟨g, 1, none⟩ = some (.slice A' n' c'))
    (hA : At w w.heap.size A l) (hA' : At w w.heap.size A' l') :
    Calls Try.prog 28 #[.slice (some ⟨g, 0, none⟩) 2 2] w fun e w' => Below w.heap.size w w' ∧ ∃ v : Value, e = .returned v ∧ OwnL w' w.heap.size v (l ++ l') := by
  have HL := Lib.hid hl
  have HL' := Lib.hid hl'
  clear hl hl'
  have hg := World.block_lt_of_cell? w _ h0
  have hA2 := Lib.hid hA'
  go_enter Try.func28, Try.ntmps28
  go_wp2_with fail
  refine wp_loop_rounds 3 ?_
  rw [rounds_succ]
  go_wp2_with fail
  rw [rounds_succ]
  go_wp2_with fail
  rw [rounds_succ]
  go_wp2_with fail
  have hgr := grow_any (n + n') (by omega) w
  rw [Int.natCast_add] at hgr
  refine hgr.mono ?_
  rintro e w1 ⟨hB1, v, rfl, hown⟩
  clear hgr
  have k0 := (hB1.cell (p := ⟨g, 0, none⟩) hg).trans h0
  have k1 := (hB1.cell (p := ⟨g, 1, none⟩) hg).trans h1
  have a1 := hA.later hB1
  have a1' := hA'.later hB1
  clear h0 h1 hA hA'
  obtain ⟨v2, w2, happ, hown2, hB2⟩ := append_list w1 w.heap.size v [] l A n c hown HL.out a1 hB1.size (by simp; omega)
  rw [List.nil_append] at hown2
  have hB12 := hB1.trans hB2
  have a2' : At w2 w2.heap.size A' l' := ((hA2.out.below hB1).below hB2).mono hB12.size
  obtain ⟨v3, w3, happ2, hown3, hB3⟩ := append_list w2 w.heap.size v2 l l' A' n' c' hown2 HL'.out a2' hB12.size (by rw [HL.out]; omega)
  have m0 := (hB2.cell (p := ⟨g, 0, none⟩) hg).trans k0
  have m1 := (hB2.cell (p := ⟨g, 1, none⟩) hg).trans k1
  have HA1 := Lib.hid happ
  have HA2 := Lib.hid happ2
  have HO := Lib.hid hown3
  clear happ happ2 hown hown2 hown3 a1 a1' a2'
  go_wp2_with fail
  refine wp_loop_rounds 3 ?_
  rw [rounds_succ]
  go_wp2_with (at_builtin; refine wpList_append_run rfl (.tmp 31) (.tmp 32) _ rfl rfl rfl HA1.out ?_)
  rw [rounds_succ]
  go_wp2_with (at_builtin; refine wpList_append_run rfl (.tmp 31) (.tmp 32) _ rfl rfl rfl HA2.out ?_)
  rw [rounds_succ]
  go_wp2_with fail
  go_ret
  exact ⟨hB12.trans hB3, _, rfl, HO.out⟩
end Go.Proofs.Ythnnbpmpaeddgaa
