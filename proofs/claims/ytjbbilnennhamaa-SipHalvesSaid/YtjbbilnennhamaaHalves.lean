/-
  The walk of the statement on halves of children.
-/
import Derived.Test.YtjbbilnennhamaaSums
import Derived.Deep.RegionHeld3
namespace Go.Proofs.Ytjbbilnennhamaa
open Go.RowKit Go.Shelf
attribute [local go_sem] U_add U_sub U_xor U_or U_and

theorem cell_at {w : World} {b : Nat} {cs : Array Value} {T : TypeId} {fr : Nat × Nat} (h : w.heap[b]? = some (.cells cs T fr)) (i : Nat) : w.cell? ⟨b, i, none⟩ = cs[i]? := by simp [World.cell?, h]
theorem free_at {w : World} {b : Nat} {cs : Array Value} {T : TypeId} (h : w.heap[b]? = some (.cells cs T (0, 0))) (i : Nat) : w.frozen? ⟨b, i, none⟩ = false := by simp [World.frozen?, h]
/-- What stands behind a piece of code that lays a block wherever it may is asked once, of all the ways through it. -/
theorem wp_join_f {P : Program} {c : Code} {Q : Exit → Act → World → Prop} {a : Act} {w : World} (f : Nat → Act) (Φ : Nat → World → Prop) (h1 : c.wp P (fun e a' w' => e = .normal ∧ ∃ B, a' = f B ∧ Φ B w') a w) (h2 : ∀ B w', Φ B w' → Q .normal (f B) w') : c.wp P Q a w :=
  wp_mono h1 fun e a' w' ⟨he, B, ha, h⟩ => by subst he ha; exact h2 B w' h

set_option maxRecDepth 100000 in
set_option maxHeartbeats 4000000 in
theorem walk_SipHalves (a b : BitVec 64) (s : ByteArray) (hs : s.size ≤ 9223372036854775807) (t : ByteArray) (ht : t.size ≤ 9223372036854775807) (w : World) : Calls Try.prog 5 #[.agg #[.int .u64 (U a), .int .u64 (U b)], .string s, .string t] w fun e w' =>
    e = .returned (.bool true) ∧ Below w.heap.size w w' := by
  have hS := cut_size s
  have hT := cut_size t
  have HcS := Lib.hid (fun w => cut_any s hs w)
  have HcT := Lib.hid (fun w => cut_any t ht w)
  generalize s.extract 0 (min s.size 300) = cs at *
  generalize t.extract 0 (min t.size 300) = ct at *
  have zS : ∀ c : ByteArray, c.size = 1 → (c ++ cs : ByteArray).size ≤ 9223372036854775807 := fun c hc => by rw [size_cat, hc]; omega
  have zT : ∀ c : ByteArray, c.size = 1 → (c ++ ct : ByteArray).size ≤ 9223372036854775807 := fun c hc => by rw [size_cat, hc]; omega
  have HzS := Lib.hid zS
  have HzT := Lib.hid zT
  clear zS zT
  go_enter Try.func5, Try.ntmps5
  go_wp2_with fail
  refine abs_call (fun u => Below w.heap.size w u ∧ KeyAt u w.heap.size 24 a b) ⟨(Below.refl _ w).alloc (Nat.le_refl _) _, new_at _ _ _ rfl⟩ ?_
  rintro w0 ⟨hB0, h0⟩
  refine (shown_any w0).mono ?_
  rintro e w1 ⟨rfl, hB1⟩
  have h1 : KeyAt w1 w.heap.size 24 a b := (hB1.block _ h0.lt).trans h0
  obtain ⟨⟨c0, c1⟩, -⟩ := h1.facts
  have hlt := h1.lt
  have hBw1 := hB0.trans (hB1.mono hB0.size)
  clear h0 hB0 hB1
  go_wp2_with fail
  have hch : ∀ W : World, W.cell? ⟨w.heap.size, 0, none⟩ = some (.int .u64 (U a)) ∧ W.cell? ⟨w.heap.size, 1, none⟩ = some (.int .u64 (U b)) → Calls Try.prog 14 #[.agg #[.int .u64 (U a), .int .u64 (U b)], .string cs] W fun e W' => e = .returned (.agg #[.int .u64 (U (sumF a b (⟨#[0]⟩ ++ cs))), .int .u64 (U (sumF a b (⟨#[1]⟩ ++ cs)))]) ∧ Below W.heap.size W W' ∧ W'.cell? ⟨w.heap.size, 0, none⟩ = some (.int .u64 (U a)) ∧ W'.cell? ⟨w.heap.size, 1, none⟩ = some (.int .u64 (U b)) := by
    rintro W ⟨k0, k1⟩
    refine (child_any a b cs (by omega) W).mono ?_
    rintro e W' ⟨he, hb⟩
    have hl : w.heap.size < W.heap.size := World.block_lt_of_cell? W ⟨w.heap.size, 0, none⟩ k0
    exact ⟨he, hb, (hb.cell hl).trans k0, (hb.cell hl).trans k1⟩
  have Hch1 := Lib.hid hch
  clear hch
  have hne1 := World.new_ne w1 _ c0
  refine wp_join_f ?f1 (fun B W => Below w1.heap.size w1 W ∧ KeyAt W B 24 (sumF a b (⟨#[0]⟩ ++ cs)) (sumF a b (⟨#[1]⟩ ++ cs))) ?h1 ?k1
  case h1 =>
    go_region_held3 (fun W => W.cell? ⟨w.heap.size, 0, none⟩ = some (.int .u64 (U a)) ∧ W.cell? ⟨w.heap.size, 1, none⟩ = some (.int .u64 (U b))) (go_keep) (first
      | (go_at_call 12; refine (HcS.out _).mono ?_; rintro e W ⟨rfl, rfl⟩)
      | (go_at_call 14; refine (Hch1.out _ ?_).mono ?_; assumption; rintro e W ⟨rfl, hBC, k0, k1⟩; have hne := World.new_ne W _ k0; try (have z := (hBC.block w1.heap.size (by simp)).trans (new_at w1 _ _ rfl); have z0 := cell_at z 0; have z1 := cell_at z 1; have y0 := free_at z 0; have y1 := free_at z 1; clear z)))
    · refine ⟨rfl, W.heap.size, ?_, ?_, ?_⟩
      · generalize W.heap.size = B
        rfl
      · exact ((Below.refl _ w1).drew.trans (hBC.mono (Nat.le_refl _))).alloc hBC.size _
      · exact new_at _ _ _ rfl
    · refine ⟨rfl, w1.heap.size, ?_, ?_, ?_⟩
      · rfl
      · exact ((((Below.refl _ w1).alloc (Nat.le_refl _) _).drew.trans (hBC.mono (by simp))).setCell (Nat.le_refl _) _).setCell (Nat.le_refl _) _
      · exact ((Put.refl ((hBC.block w1.heap.size (by simp)).trans (new_at w1 _ _ rfl))).set 0 _ |>.set 1 _).get (by have := hBC.size; simp at this; omega)
    · refine ⟨rfl, w1.heap.size, ?_, ?_, ?_⟩
      · rfl
      · exact ((((Below.refl _ w1).alloc (Nat.le_refl _) _).drew.trans (hBC.mono (by simp))).setCell (Nat.le_refl _) _).setCell (Nat.le_refl _) _
      · exact ((Put.refl ((hBC.block w1.heap.size (by simp)).trans (new_at w1 _ _ rfl))).set 0 _ |>.set 1 _).get (by have := hBC.size; simp at this; omega)
  case k1 =>
    rintro B w2 ⟨hB2, g2⟩
    have h2 : KeyAt w2 w.heap.size 24 a b := (hB2.block _ hlt).trans h1
    have hBw2 := hBw1.trans (hB2.mono hBw1.size)
    clear c0 c1 hne1 hB2 h1 hBw1 hlt
    generalize hx0 : sumF a b (⟨#[0]⟩ ++ cs) = x0 at *
    generalize hx1 : sumF a b (⟨#[1]⟩ ++ cs) = x1 at *
    have HX0 := Lib.hid hx0
    have HX1 := Lib.hid hx1
    clear hx0 hx1
    obtain ⟨⟨c0, c1⟩, -⟩ := g2.facts
    go_wp2_with fail
    have hch : ∀ W : World, W.cell? ⟨B, 0, none⟩ = some (.int .u64 (U x0)) ∧ W.cell? ⟨B, 1, none⟩ = some (.int .u64 (U x1)) → Calls Try.prog 14 #[.agg #[.int .u64 (U x0), .int .u64 (U x1)], .string ct] W fun e W' => e = .returned (.agg #[.int .u64 (U (sumF x0 x1 (⟨#[0]⟩ ++ ct))), .int .u64 (U (sumF x0 x1 (⟨#[1]⟩ ++ ct)))]) ∧ Below W.heap.size W W' ∧ W'.cell? ⟨B, 0, none⟩ = some (.int .u64 (U x0)) ∧ W'.cell? ⟨B, 1, none⟩ = some (.int .u64 (U x1)) := by
      rintro W ⟨k0, k1⟩
      refine (child_any x0 x1 ct (by omega) W).mono ?_
      rintro e W' ⟨he, hb⟩
      have hl : B < W.heap.size := World.block_lt_of_cell? W ⟨B, 0, none⟩ k0
      exact ⟨he, hb, (hb.cell hl).trans k0, (hb.cell hl).trans k1⟩
    have Hch2 := Lib.hid hch
    clear hch
    have hne1 := World.new_ne w2 _ c0
    refine wp_join_f ?f2 (fun B W => Below w2.heap.size w2 W ∧ KeyAt W B 24 (sumF x0 x1 (⟨#[0]⟩ ++ ct)) (sumF x0 x1 (⟨#[1]⟩ ++ ct))) ?h2 ?k2
    case h2 =>
      go_region_held3 (fun W => W.cell? ⟨B, 0, none⟩ = some (.int .u64 (U x0)) ∧ W.cell? ⟨B, 1, none⟩ = some (.int .u64 (U x1))) (go_keep) (first
        | (go_at_call 12; refine (HcT.out _).mono ?_; rintro e W ⟨rfl, rfl⟩)
        | (go_at_call 14; refine (Hch2.out _ ?_).mono ?_; assumption; rintro e W ⟨rfl, hBC, k0, k1⟩; have hne := World.new_ne W _ k0; try (have z := (hBC.block w2.heap.size (by simp)).trans (new_at w2 _ _ rfl); have z0 := cell_at z 0; have z1 := cell_at z 1; have y0 := free_at z 0; have y1 := free_at z 1; clear z)))
      · refine ⟨rfl, W.heap.size, ?_, ?_, ?_⟩
        · generalize W.heap.size = B
          rfl
        · exact ((Below.refl _ w2).drew.trans (hBC.mono (Nat.le_refl _))).alloc hBC.size _
        · exact new_at _ _ _ rfl
      · refine ⟨rfl, w2.heap.size, ?_, ?_, ?_⟩
        · rfl
        · exact ((((Below.refl _ w2).alloc (Nat.le_refl _) _).drew.trans (hBC.mono (by simp))).setCell (Nat.le_refl _) _).setCell (Nat.le_refl _) _
        · exact ((Put.refl ((hBC.block w2.heap.size (by simp)).trans (new_at w2 _ _ rfl))).set 0 _ |>.set 1 _).get (by have := hBC.size; simp at this; omega)
      · refine ⟨rfl, w2.heap.size, ?_, ?_, ?_⟩
        · rfl
        · exact ((((Below.refl _ w2).alloc (Nat.le_refl _) _).drew.trans (hBC.mono (by simp))).setCell (Nat.le_refl _) _).setCell (Nat.le_refl _) _
        · exact ((Put.refl ((hBC.block w2.heap.size (by simp)).trans (new_at w2 _ _ rfl))).set 0 _ |>.set 1 _).get (by have := hBC.size; simp at this; omega)
    case k2 =>
      rintro B3 w3 ⟨hB3, g3⟩
      have h3 : KeyAt w3 w.heap.size 24 a b := (hB3.block _ h2.lt).trans h2
      have i3 : KeyAt w3 B 24 x0 x1 := (hB3.block _ g2.lt).trans g2
      have hBw3 := hBw2.trans (hB3.mono hBw2.size)
      clear c0 c1 hne1 hB3 h2 g2 hBw2
      generalize hy0 : sumF x0 x1 (⟨#[0]⟩ ++ ct) = y0 at *
      generalize hy1 : sumF x0 x1 (⟨#[1]⟩ ++ ct) = y1 at *
      have HY0 := Lib.hid hy0
      have HY1 := Lib.hid hy1
      clear hy0 hy1
      go_wp2_with fail
      refine wp_region_later w3.heap.size (by kernel_rfl) (by kernel_rfl) ?_
      have l0 : ∀ s : Later w3.heap.size w3, s.W.cell? ⟨w.heap.size, 0, none⟩ = some _ := fun s => s.cell h3.facts.1.1 h3.lt
      have l1 : ∀ s : Later w3.heap.size w3, s.W.cell? ⟨w.heap.size, 1, none⟩ = some _ := fun s => s.cell h3.facts.1.2 h3.lt
      have m0 : ∀ s : Later w3.heap.size w3, s.W.cell? ⟨B, 0, none⟩ = some _ := fun s => s.cell i3.facts.1.1 i3.lt
      have m1 : ∀ s : Later w3.heap.size w3, s.W.cell? ⟨B, 1, none⟩ = some _ := fun s => s.cell i3.facts.1.2 i3.lt
      have n0 : ∀ s : Later w3.heap.size w3, s.W.cell? ⟨B3, 0, none⟩ = some _ := fun s => s.cell g3.facts.1.1 g3.lt
      have n1 : ∀ s : Later w3.heap.size w3, s.W.cell? ⟨B3, 1, none⟩ = some _ := fun s => s.cell g3.facts.1.2 g3.lt
      have S0 : ∀ W, Calls Try.prog 11 #[.agg #[.int .u64 (U a), .int .u64 (U b)], .string (⟨#[0]⟩ ++ cs)] W fun e W' => e = .returned (.int .u64 (U x0)) ∧ Below W.heap.size W W' := fun W => by rw [← HX0.out]; exact sum_any a b _ (HzS.out _ rfl) W
      have S1 : ∀ W, Calls Try.prog 11 #[.agg #[.int .u64 (U a), .int .u64 (U b)], .string (⟨#[1]⟩ ++ cs)] W fun e W' => e = .returned (.int .u64 (U x1)) ∧ Below W.heap.size W W' := fun W => by rw [← HX1.out]; exact sum_any a b _ (HzS.out _ rfl) W
      have S2 : ∀ W, Calls Try.prog 11 #[.agg #[.int .u64 (U x0), .int .u64 (U x1)], .string (⟨#[0]⟩ ++ ct)] W fun e W' => e = .returned (.int .u64 (U y0)) ∧ Below W.heap.size W W' := fun W => by rw [← HY0.out]; exact sum_any x0 x1 _ (HzT.out _ rfl) W
      have S3 : ∀ W, Calls Try.prog 11 #[.agg #[.int .u64 (U x0), .int .u64 (U x1)], .string (⟨#[1]⟩ ++ ct)] W fun e W' => e = .returned (.int .u64 (U y1)) ∧ Below W.heap.size W W' := fun W => by rw [← HY1.out]; exact sum_any x0 x1 _ (HzT.out _ rfl) W
      have T0 := Lib.hid S0
      have T1 := Lib.hid S1
      have T2 := Lib.hid S2
      have T3 := Lib.hid S3
      clear S0 S1 S2 S3
      have zS : cs.size + 1 ≤ 9223372036854775807 := by omega
      have zT : ct.size + 1 ≤ 9223372036854775807 := by omega
      repeat (go_big_quiet_step (first
        | (go_at_call 12; with_reducible exact Calls.later_same (HcS.out _))
        | (go_at_call 12; with_reducible exact Calls.later_same (HcT.out _))
        | (go_at_call 16; exact Calls.later_same (same_any _ _ _))
        | (go_at_call 11; with_reducible exact Calls.later (Nat.le_refl _) (T0.out _))
        | (go_at_call 11; with_reducible exact Calls.later (Nat.le_refl _) (T1.out _))
        | (go_at_call 11; with_reducible exact Calls.later (Nat.le_refl _) (T2.out _))
        | (go_at_call 11; with_reducible exact Calls.later (Nat.le_refl _) (T3.out _))))
      refine wpQuiet_nil ?_
      rintro _ ⟨u, rfl⟩
      clear l0 l1 m0 m1 n0 n1
      go_wp2_with fail
      go_ret
      exact ⟨rfl, hBw3.trans (u.below.mono hBw3.size)⟩

end Go.Proofs.Ytjbbilnennhamaa
