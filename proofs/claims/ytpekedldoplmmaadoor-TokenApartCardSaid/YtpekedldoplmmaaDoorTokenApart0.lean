/-
  The walk of TokenApart. Printed by gen_tokl.py.
-/
import Derived.Test.YtpekedldoplmmaaDoorTokL
namespace Go.Proofs.YtpekedldoplmmaaDoor
open Go.RowKit Go.Shelf

set_option maxRecDepth 100000 in
set_option maxHeartbeats 4000000 in
theorem walk_TokenApart (a0 b0 : Addr) (a b t : BitVec 64) (role : Int) (u : BitVec 64) (tB : BitVec 64) (roleB : Int) (uB : BitVec 64) (w : World) (hS : Sent a0 b0 w.heap.size w) :
    Calls Tryd.prog 6 #[.agg #[.int .u64 (U a), .int .u64 (U b)], .agg #[.int .u64 (U t), .int .i64 role, .int .u64 (U u)], .agg #[.int .u64 (U tB), .int .i64 roleB, .int .u64 (U uB)]] w fun e w' => e = .returned (.bool true) ∧ Below w.heap.size w w' := by
  have HS := Lib.hid hS
  have HM := Lib.hid (fun W => Mint_any a b t u role W)
  have HN := Lib.hid (fun W => Mint_any a b tB uB roleB W)
  clear hS
  rcases minE_cases role with ⟨r1, r3, e⟩ | ⟨hn, e⟩
  · rcases minE_cases roleB with ⟨q1, q3, e2⟩ | ⟨hn2, e2⟩
    · rw [e, minB_ok a b t u r1 r3] at HM
      rw [e2, minB_ok a b tB uB q1 q3] at HN
      have z1 := tokT_size a b t (roleU role) u
      have z2 := tokT_size a b tB (roleU roleB) uB
      by_cases hq : t = tB ∧ role = roleB ∧ u = uB
      · obtain ⟨rfl, rfl, rfl⟩ := hq
        clear e e2 q1 q3 r1 r3
        generalize tokT a b t (roleU role) u = T at *
        go_enter Tryd.func6, Tryd.ntmps6
        have hB : Below w.heap.size w w := Below.refl _ w
        go_wp2_with fail
        have hA : Below w.heap.size w (((w.alloc (.cells #[.int .u64 (U a), .int .u64 (U b)] 24)).alloc (.cells #[.int .u64 (U t), .int .i64 role, .int .u64 (U u)] 26)).alloc (.cells #[.int .u64 (U t), .int .i64 role, .int .u64 (U u)] 26)) := (((Below.refl _ w).alloc (Nat.le_refl _) _).alloc (by simp) _).alloc (by simp; omega) _
        have hq0 := hB.size
        replace hB := hB.trans (hA.mono hB.size)
        have k_k : (((w.alloc (.cells #[.int .u64 (U a), .int .u64 (U b)] 24)).alloc (.cells #[.int .u64 (U t), .int .i64 role, .int .u64 (U u)] 26)).alloc (.cells #[.int .u64 (U t), .int .i64 role, .int .u64 (U u)] 26)).heap[w.heap.size]? = some (.cells #[.int .u64 (U a), .int .u64 (U b)] 24 (0, 0)) := old_at (old_at (new_at _ _ _ rfl))
        have k_c : (((w.alloc (.cells #[.int .u64 (U a), .int .u64 (U b)] 24)).alloc (.cells #[.int .u64 (U t), .int .i64 role, .int .u64 (U u)] 26)).alloc (.cells #[.int .u64 (U t), .int .i64 role, .int .u64 (U u)] 26)).heap[w.heap.size + 1]? = some (.cells #[.int .u64 (U t), .int .i64 role, .int .u64 (U u)] 26 (0, 0)) := old_at (new_at _ _ _ (by simp))
        have k_c2 : (((w.alloc (.cells #[.int .u64 (U a), .int .u64 (U b)] 24)).alloc (.cells #[.int .u64 (U t), .int .i64 role, .int .u64 (U u)] 26)).alloc (.cells #[.int .u64 (U t), .int .i64 role, .int .u64 (U u)] 26)).heap[w.heap.size + 1 + 1]? = some (.cells #[.int .u64 (U t), .int .i64 role, .int .u64 (U u)] 26 (0, 0)) := new_at _ _ _ (by simp)
        obtain ⟨b_c2, hb2⟩ : ∃ b, w.heap.size + 1 + 1 = b := ⟨_, rfl⟩
        have q_c2 : w.heap.size ≤ b_c2 := by omega
        rw [hb2] at k_c2 ⊢
        obtain ⟨b_c, hb1⟩ : ∃ b, w.heap.size + 1 = b := ⟨_, rfl⟩
        have q_c : w.heap.size ≤ b_c := by omega
        rw [hb1] at k_c ⊢
        obtain ⟨b_k, hb0⟩ : ∃ b, w.heap.size = b := ⟨_, rfl⟩
        have q_k : w.heap.size ≤ b_k := by omega
        rw [hb0] at k_k ⊢
        have lt_k_c : b_k < b_c := by omega
        have lt_c_c2 : b_c < b_c2 := by omega
        clear hA hq0 hb0 hb1 hb2
        generalize (((w.alloc (.cells #[.int .u64 (U a), .int .u64 (U b)] 24)).alloc (.cells #[.int .u64 (U t), .int .i64 role, .int .u64 (U u)] 26)).alloc (.cells #[.int .u64 (U t), .int .i64 role, .int .u64 (U u)] 26)) = u1 at *
        refine (shown_any a0 b0 w.heap.size _ (HS.out.later hB)).mono ?_
        rintro e u2 ⟨rfl, hC⟩
        replace k_k := keep k_k hC
        replace k_c := keep k_c hC
        replace k_c2 := keep k_c2 hC
        replace hB := hB.trans (hC.mono hB.size)
        clear hC
        have x_k_0 := cell_at k_k 0
        have x_k_1 := cell_at k_k 1
        have x_c_0 := cell_at k_c 0
        have x_c_1 := cell_at k_c 1
        have x_c_2 := cell_at k_c 2
        go_wp2_with fail
        clear x_k_0 x_k_1 x_c_0 x_c_1 x_c_2
        refine (HM.out _).mono ?_
        rintro e u3 ⟨rfl, hC⟩
        replace k_k := keep k_k hC
        replace k_c := keep k_c hC
        replace k_c2 := keep k_c2 hC
        replace hB := hB.trans (hC.mono hB.size)
        clear hC
        have x_k_0 := cell_at k_k 0
        have x_k_1 := cell_at k_k 1
        have x_c2_0 := cell_at k_c2 0
        have x_c2_1 := cell_at k_c2 1
        have x_c2_2 := cell_at k_c2 2
        go_wp2_with fail
        clear x_k_0 x_k_1 x_c2_0 x_c2_1 x_c2_2
        refine (HN.out _).mono ?_
        rintro e u4 ⟨rfl, hC⟩
        replace k_k := keep k_k hC
        replace k_c := keep k_c hC
        replace k_c2 := keep k_c2 hC
        replace hB := hB.trans (hC.mono hB.size)
        clear hC
        have x_c_0 := cell_at k_c 0
        have x_c_1 := cell_at k_c 1
        have x_c_2 := cell_at k_c 2
        have x_c2_0 := cell_at k_c2 0
        have x_c2_1 := cell_at k_c2 1
        have x_c2_2 := cell_at k_c2 2
        go_wp2_with fail
        go_ret
        exact ⟨rfl, hB⟩
      · have hne : ((tokT a b t (roleU role) u).toList == (tokT a b tB (roleU roleB) uB).toList) = false := by
          rw [toList_beq, decide_eq_false_iff_not]
          intro h
          obtain ⟨h1, h2, h3⟩ := tok_inj h
          refine hq ⟨h1, ?_, h3⟩
          rw [← roleU_of r1 r3, ← roleU_of q1 q3, h2]
        have hd : ¬ (t = tB) ∨ ¬ (role = roleB) ∨ ¬ (u = uB) := by
          by_cases h1 : t = tB
          · by_cases h2 : role = roleB
            · exact .inr (.inr fun h3 => hq ⟨h1, h2, h3⟩)
            · exact .inr (.inl h2)
          · exact .inl h1
        clear e e2 q1 q3 r1 r3 hq
        generalize tokT a b t (roleU role) u = T at *
        generalize tokT a b tB (roleU roleB) uB = T2 at *
        by_cases et : t = tB
        · subst et
          by_cases er : role = roleB
          · subst er
            by_cases eu : u = uB
            · subst eu
              rcases hd with h | h | h <;> exact absurd rfl h
            · have ku : (U u == U uB) = false := by rw [beq_eq_false_iff_ne]; exact fun h3 => eu (U_inj h3)
              have lu : ¬ (U u = U uB) := fun h3 => eu (U_inj h3)
              clear hd
              go_enter Tryd.func6, Tryd.ntmps6
              have hB : Below w.heap.size w w := Below.refl _ w
              go_wp2_with fail
              have hA : Below w.heap.size w (((w.alloc (.cells #[.int .u64 (U a), .int .u64 (U b)] 24)).alloc (.cells #[.int .u64 (U t), .int .i64 role, .int .u64 (U u)] 26)).alloc (.cells #[.int .u64 (U t), .int .i64 role, .int .u64 (U uB)] 26)) := (((Below.refl _ w).alloc (Nat.le_refl _) _).alloc (by simp) _).alloc (by simp; omega) _
              have hq0 := hB.size
              replace hB := hB.trans (hA.mono hB.size)
              have k_k : (((w.alloc (.cells #[.int .u64 (U a), .int .u64 (U b)] 24)).alloc (.cells #[.int .u64 (U t), .int .i64 role, .int .u64 (U u)] 26)).alloc (.cells #[.int .u64 (U t), .int .i64 role, .int .u64 (U uB)] 26)).heap[w.heap.size]? = some (.cells #[.int .u64 (U a), .int .u64 (U b)] 24 (0, 0)) := old_at (old_at (new_at _ _ _ rfl))
              have k_c : (((w.alloc (.cells #[.int .u64 (U a), .int .u64 (U b)] 24)).alloc (.cells #[.int .u64 (U t), .int .i64 role, .int .u64 (U u)] 26)).alloc (.cells #[.int .u64 (U t), .int .i64 role, .int .u64 (U uB)] 26)).heap[w.heap.size + 1]? = some (.cells #[.int .u64 (U t), .int .i64 role, .int .u64 (U u)] 26 (0, 0)) := old_at (new_at _ _ _ (by simp))
              have k_c2 : (((w.alloc (.cells #[.int .u64 (U a), .int .u64 (U b)] 24)).alloc (.cells #[.int .u64 (U t), .int .i64 role, .int .u64 (U u)] 26)).alloc (.cells #[.int .u64 (U t), .int .i64 role, .int .u64 (U uB)] 26)).heap[w.heap.size + 1 + 1]? = some (.cells #[.int .u64 (U t), .int .i64 role, .int .u64 (U uB)] 26 (0, 0)) := new_at _ _ _ (by simp)
              obtain ⟨b_c2, hb2⟩ : ∃ b, w.heap.size + 1 + 1 = b := ⟨_, rfl⟩
              have q_c2 : w.heap.size ≤ b_c2 := by omega
              rw [hb2] at k_c2 ⊢
              obtain ⟨b_c, hb1⟩ : ∃ b, w.heap.size + 1 = b := ⟨_, rfl⟩
              have q_c : w.heap.size ≤ b_c := by omega
              rw [hb1] at k_c ⊢
              obtain ⟨b_k, hb0⟩ : ∃ b, w.heap.size = b := ⟨_, rfl⟩
              have q_k : w.heap.size ≤ b_k := by omega
              rw [hb0] at k_k ⊢
              have lt_k_c : b_k < b_c := by omega
              have lt_c_c2 : b_c < b_c2 := by omega
              clear hA hq0 hb0 hb1 hb2
              generalize (((w.alloc (.cells #[.int .u64 (U a), .int .u64 (U b)] 24)).alloc (.cells #[.int .u64 (U t), .int .i64 role, .int .u64 (U u)] 26)).alloc (.cells #[.int .u64 (U t), .int .i64 role, .int .u64 (U uB)] 26)) = u1 at *
              refine (shown_any a0 b0 w.heap.size _ (HS.out.later hB)).mono ?_
              rintro e u2 ⟨rfl, hC⟩
              replace k_k := keep k_k hC
              replace k_c := keep k_c hC
              replace k_c2 := keep k_c2 hC
              replace hB := hB.trans (hC.mono hB.size)
              clear hC
              have x_k_0 := cell_at k_k 0
              have x_k_1 := cell_at k_k 1
              have x_c_0 := cell_at k_c 0
              have x_c_1 := cell_at k_c 1
              have x_c_2 := cell_at k_c 2
              go_wp2_with fail
              clear x_k_0 x_k_1 x_c_0 x_c_1 x_c_2
              refine (HM.out _).mono ?_
              rintro e u3 ⟨rfl, hC⟩
              replace k_k := keep k_k hC
              replace k_c := keep k_c hC
              replace k_c2 := keep k_c2 hC
              replace hB := hB.trans (hC.mono hB.size)
              clear hC
              have x_k_0 := cell_at k_k 0
              have x_k_1 := cell_at k_k 1
              have x_c2_0 := cell_at k_c2 0
              have x_c2_1 := cell_at k_c2 1
              have x_c2_2 := cell_at k_c2 2
              go_wp2_with fail
              clear x_k_0 x_k_1 x_c2_0 x_c2_1 x_c2_2
              refine (HN.out _).mono ?_
              rintro e u4 ⟨rfl, hC⟩
              replace k_k := keep k_k hC
              replace k_c := keep k_c hC
              replace k_c2 := keep k_c2 hC
              replace hB := hB.trans (hC.mono hB.size)
              clear hC
              have x_c_0 := cell_at k_c 0
              have x_c_1 := cell_at k_c 1
              have x_c_2 := cell_at k_c 2
              have x_c2_0 := cell_at k_c2 0
              have x_c2_1 := cell_at k_c2 1
              have x_c2_2 := cell_at k_c2 2
              go_wp2_with fail
              go_ret
              exact ⟨rfl, hB⟩
          · have kr : (role == roleB) = false := by rw [beq_eq_false_iff_ne]; exact er
            by_cases eu : u = uB
            · subst eu
              clear hd
              go_enter Tryd.func6, Tryd.ntmps6
              have hB : Below w.heap.size w w := Below.refl _ w
              go_wp2_with fail
              have hA : Below w.heap.size w (((w.alloc (.cells #[.int .u64 (U a), .int .u64 (U b)] 24)).alloc (.cells #[.int .u64 (U t), .int .i64 role, .int .u64 (U u)] 26)).alloc (.cells #[.int .u64 (U t), .int .i64 roleB, .int .u64 (U u)] 26)) := (((Below.refl _ w).alloc (Nat.le_refl _) _).alloc (by simp) _).alloc (by simp; omega) _
              have hq0 := hB.size
              replace hB := hB.trans (hA.mono hB.size)
              have k_k : (((w.alloc (.cells #[.int .u64 (U a), .int .u64 (U b)] 24)).alloc (.cells #[.int .u64 (U t), .int .i64 role, .int .u64 (U u)] 26)).alloc (.cells #[.int .u64 (U t), .int .i64 roleB, .int .u64 (U u)] 26)).heap[w.heap.size]? = some (.cells #[.int .u64 (U a), .int .u64 (U b)] 24 (0, 0)) := old_at (old_at (new_at _ _ _ rfl))
              have k_c : (((w.alloc (.cells #[.int .u64 (U a), .int .u64 (U b)] 24)).alloc (.cells #[.int .u64 (U t), .int .i64 role, .int .u64 (U u)] 26)).alloc (.cells #[.int .u64 (U t), .int .i64 roleB, .int .u64 (U u)] 26)).heap[w.heap.size + 1]? = some (.cells #[.int .u64 (U t), .int .i64 role, .int .u64 (U u)] 26 (0, 0)) := old_at (new_at _ _ _ (by simp))
              have k_c2 : (((w.alloc (.cells #[.int .u64 (U a), .int .u64 (U b)] 24)).alloc (.cells #[.int .u64 (U t), .int .i64 role, .int .u64 (U u)] 26)).alloc (.cells #[.int .u64 (U t), .int .i64 roleB, .int .u64 (U u)] 26)).heap[w.heap.size + 1 + 1]? = some (.cells #[.int .u64 (U t), .int .i64 roleB, .int .u64 (U u)] 26 (0, 0)) := new_at _ _ _ (by simp)
              obtain ⟨b_c2, hb2⟩ : ∃ b, w.heap.size + 1 + 1 = b := ⟨_, rfl⟩
              have q_c2 : w.heap.size ≤ b_c2 := by omega
              rw [hb2] at k_c2 ⊢
              obtain ⟨b_c, hb1⟩ : ∃ b, w.heap.size + 1 = b := ⟨_, rfl⟩
              have q_c : w.heap.size ≤ b_c := by omega
              rw [hb1] at k_c ⊢
              obtain ⟨b_k, hb0⟩ : ∃ b, w.heap.size = b := ⟨_, rfl⟩
              have q_k : w.heap.size ≤ b_k := by omega
              rw [hb0] at k_k ⊢
              have lt_k_c : b_k < b_c := by omega
              have lt_c_c2 : b_c < b_c2 := by omega
              clear hA hq0 hb0 hb1 hb2
              generalize (((w.alloc (.cells #[.int .u64 (U a), .int .u64 (U b)] 24)).alloc (.cells #[.int .u64 (U t), .int .i64 role, .int .u64 (U u)] 26)).alloc (.cells #[.int .u64 (U t), .int .i64 roleB, .int .u64 (U u)] 26)) = u1 at *
              refine (shown_any a0 b0 w.heap.size _ (HS.out.later hB)).mono ?_
              rintro e u2 ⟨rfl, hC⟩
              replace k_k := keep k_k hC
              replace k_c := keep k_c hC
              replace k_c2 := keep k_c2 hC
              replace hB := hB.trans (hC.mono hB.size)
              clear hC
              have x_k_0 := cell_at k_k 0
              have x_k_1 := cell_at k_k 1
              have x_c_0 := cell_at k_c 0
              have x_c_1 := cell_at k_c 1
              have x_c_2 := cell_at k_c 2
              go_wp2_with fail
              clear x_k_0 x_k_1 x_c_0 x_c_1 x_c_2
              refine (HM.out _).mono ?_
              rintro e u3 ⟨rfl, hC⟩
              replace k_k := keep k_k hC
              replace k_c := keep k_c hC
              replace k_c2 := keep k_c2 hC
              replace hB := hB.trans (hC.mono hB.size)
              clear hC
              have x_k_0 := cell_at k_k 0
              have x_k_1 := cell_at k_k 1
              have x_c2_0 := cell_at k_c2 0
              have x_c2_1 := cell_at k_c2 1
              have x_c2_2 := cell_at k_c2 2
              go_wp2_with fail
              clear x_k_0 x_k_1 x_c2_0 x_c2_1 x_c2_2
              refine (HN.out _).mono ?_
              rintro e u4 ⟨rfl, hC⟩
              replace k_k := keep k_k hC
              replace k_c := keep k_c hC
              replace k_c2 := keep k_c2 hC
              replace hB := hB.trans (hC.mono hB.size)
              clear hC
              have x_c_0 := cell_at k_c 0
              have x_c_1 := cell_at k_c 1
              have x_c_2 := cell_at k_c 2
              have x_c2_0 := cell_at k_c2 0
              have x_c2_1 := cell_at k_c2 1
              have x_c2_2 := cell_at k_c2 2
              go_wp2_with fail
              go_ret
              exact ⟨rfl, hB⟩
            · have ku : (U u == U uB) = false := by rw [beq_eq_false_iff_ne]; exact fun h3 => eu (U_inj h3)
              have lu : ¬ (U u = U uB) := fun h3 => eu (U_inj h3)
              clear hd
              go_enter Tryd.func6, Tryd.ntmps6
              have hB : Below w.heap.size w w := Below.refl _ w
              go_wp2_with fail
              have hA : Below w.heap.size w (((w.alloc (.cells #[.int .u64 (U a), .int .u64 (U b)] 24)).alloc (.cells #[.int .u64 (U t), .int .i64 role, .int .u64 (U u)] 26)).alloc (.cells #[.int .u64 (U t), .int .i64 roleB, .int .u64 (U uB)] 26)) := (((Below.refl _ w).alloc (Nat.le_refl _) _).alloc (by simp) _).alloc (by simp; omega) _
              have hq0 := hB.size
              replace hB := hB.trans (hA.mono hB.size)
              have k_k : (((w.alloc (.cells #[.int .u64 (U a), .int .u64 (U b)] 24)).alloc (.cells #[.int .u64 (U t), .int .i64 role, .int .u64 (U u)] 26)).alloc (.cells #[.int .u64 (U t), .int .i64 roleB, .int .u64 (U uB)] 26)).heap[w.heap.size]? = some (.cells #[.int .u64 (U a), .int .u64 (U b)] 24 (0, 0)) := old_at (old_at (new_at _ _ _ rfl))
              have k_c : (((w.alloc (.cells #[.int .u64 (U a), .int .u64 (U b)] 24)).alloc (.cells #[.int .u64 (U t), .int .i64 role, .int .u64 (U u)] 26)).alloc (.cells #[.int .u64 (U t), .int .i64 roleB, .int .u64 (U uB)] 26)).heap[w.heap.size + 1]? = some (.cells #[.int .u64 (U t), .int .i64 role, .int .u64 (U u)] 26 (0, 0)) := old_at (new_at _ _ _ (by simp))
              have k_c2 : (((w.alloc (.cells #[.int .u64 (U a), .int .u64 (U b)] 24)).alloc (.cells #[.int .u64 (U t), .int .i64 role, .int .u64 (U u)] 26)).alloc (.cells #[.int .u64 (U t), .int .i64 roleB, .int .u64 (U uB)] 26)).heap[w.heap.size + 1 + 1]? = some (.cells #[.int .u64 (U t), .int .i64 roleB, .int .u64 (U uB)] 26 (0, 0)) := new_at _ _ _ (by simp)
              obtain ⟨b_c2, hb2⟩ : ∃ b, w.heap.size + 1 + 1 = b := ⟨_, rfl⟩
              have q_c2 : w.heap.size ≤ b_c2 := by omega
              rw [hb2] at k_c2 ⊢
              obtain ⟨b_c, hb1⟩ : ∃ b, w.heap.size + 1 = b := ⟨_, rfl⟩
              have q_c : w.heap.size ≤ b_c := by omega
              rw [hb1] at k_c ⊢
              obtain ⟨b_k, hb0⟩ : ∃ b, w.heap.size = b := ⟨_, rfl⟩
              have q_k : w.heap.size ≤ b_k := by omega
              rw [hb0] at k_k ⊢
              have lt_k_c : b_k < b_c := by omega
              have lt_c_c2 : b_c < b_c2 := by omega
              clear hA hq0 hb0 hb1 hb2
              generalize (((w.alloc (.cells #[.int .u64 (U a), .int .u64 (U b)] 24)).alloc (.cells #[.int .u64 (U t), .int .i64 role, .int .u64 (U u)] 26)).alloc (.cells #[.int .u64 (U t), .int .i64 roleB, .int .u64 (U uB)] 26)) = u1 at *
              refine (shown_any a0 b0 w.heap.size _ (HS.out.later hB)).mono ?_
              rintro e u2 ⟨rfl, hC⟩
              replace k_k := keep k_k hC
              replace k_c := keep k_c hC
              replace k_c2 := keep k_c2 hC
              replace hB := hB.trans (hC.mono hB.size)
              clear hC
              have x_k_0 := cell_at k_k 0
              have x_k_1 := cell_at k_k 1
              have x_c_0 := cell_at k_c 0
              have x_c_1 := cell_at k_c 1
              have x_c_2 := cell_at k_c 2
              go_wp2_with fail
              clear x_k_0 x_k_1 x_c_0 x_c_1 x_c_2
              refine (HM.out _).mono ?_
              rintro e u3 ⟨rfl, hC⟩
              replace k_k := keep k_k hC
              replace k_c := keep k_c hC
              replace k_c2 := keep k_c2 hC
              replace hB := hB.trans (hC.mono hB.size)
              clear hC
              have x_k_0 := cell_at k_k 0
              have x_k_1 := cell_at k_k 1
              have x_c2_0 := cell_at k_c2 0
              have x_c2_1 := cell_at k_c2 1
              have x_c2_2 := cell_at k_c2 2
              go_wp2_with fail
              clear x_k_0 x_k_1 x_c2_0 x_c2_1 x_c2_2
              refine (HN.out _).mono ?_
              rintro e u4 ⟨rfl, hC⟩
              replace k_k := keep k_k hC
              replace k_c := keep k_c hC
              replace k_c2 := keep k_c2 hC
              replace hB := hB.trans (hC.mono hB.size)
              clear hC
              have x_c_0 := cell_at k_c 0
              have x_c_1 := cell_at k_c 1
              have x_c_2 := cell_at k_c 2
              have x_c2_0 := cell_at k_c2 0
              have x_c2_1 := cell_at k_c2 1
              have x_c2_2 := cell_at k_c2 2
              go_wp2_with fail
              go_ret
              exact ⟨rfl, hB⟩
        · have kt : (U t == U tB) = false := by rw [beq_eq_false_iff_ne]; exact fun h3 => et (U_inj h3)
          have lt : ¬ (U t = U tB) := fun h3 => et (U_inj h3)
          by_cases er : role = roleB
          · subst er
            by_cases eu : u = uB
            · subst eu
              clear hd
              go_enter Tryd.func6, Tryd.ntmps6
              have hB : Below w.heap.size w w := Below.refl _ w
              go_wp2_with fail
              have hA : Below w.heap.size w (((w.alloc (.cells #[.int .u64 (U a), .int .u64 (U b)] 24)).alloc (.cells #[.int .u64 (U t), .int .i64 role, .int .u64 (U u)] 26)).alloc (.cells #[.int .u64 (U tB), .int .i64 role, .int .u64 (U u)] 26)) := (((Below.refl _ w).alloc (Nat.le_refl _) _).alloc (by simp) _).alloc (by simp; omega) _
              have hq0 := hB.size
              replace hB := hB.trans (hA.mono hB.size)
              have k_k : (((w.alloc (.cells #[.int .u64 (U a), .int .u64 (U b)] 24)).alloc (.cells #[.int .u64 (U t), .int .i64 role, .int .u64 (U u)] 26)).alloc (.cells #[.int .u64 (U tB), .int .i64 role, .int .u64 (U u)] 26)).heap[w.heap.size]? = some (.cells #[.int .u64 (U a), .int .u64 (U b)] 24 (0, 0)) := old_at (old_at (new_at _ _ _ rfl))
              have k_c : (((w.alloc (.cells #[.int .u64 (U a), .int .u64 (U b)] 24)).alloc (.cells #[.int .u64 (U t), .int .i64 role, .int .u64 (U u)] 26)).alloc (.cells #[.int .u64 (U tB), .int .i64 role, .int .u64 (U u)] 26)).heap[w.heap.size + 1]? = some (.cells #[.int .u64 (U t), .int .i64 role, .int .u64 (U u)] 26 (0, 0)) := old_at (new_at _ _ _ (by simp))
              have k_c2 : (((w.alloc (.cells #[.int .u64 (U a), .int .u64 (U b)] 24)).alloc (.cells #[.int .u64 (U t), .int .i64 role, .int .u64 (U u)] 26)).alloc (.cells #[.int .u64 (U tB), .int .i64 role, .int .u64 (U u)] 26)).heap[w.heap.size + 1 + 1]? = some (.cells #[.int .u64 (U tB), .int .i64 role, .int .u64 (U u)] 26 (0, 0)) := new_at _ _ _ (by simp)
              obtain ⟨b_c2, hb2⟩ : ∃ b, w.heap.size + 1 + 1 = b := ⟨_, rfl⟩
              have q_c2 : w.heap.size ≤ b_c2 := by omega
              rw [hb2] at k_c2 ⊢
              obtain ⟨b_c, hb1⟩ : ∃ b, w.heap.size + 1 = b := ⟨_, rfl⟩
              have q_c : w.heap.size ≤ b_c := by omega
              rw [hb1] at k_c ⊢
              obtain ⟨b_k, hb0⟩ : ∃ b, w.heap.size = b := ⟨_, rfl⟩
              have q_k : w.heap.size ≤ b_k := by omega
              rw [hb0] at k_k ⊢
              have lt_k_c : b_k < b_c := by omega
              have lt_c_c2 : b_c < b_c2 := by omega
              clear hA hq0 hb0 hb1 hb2
              generalize (((w.alloc (.cells #[.int .u64 (U a), .int .u64 (U b)] 24)).alloc (.cells #[.int .u64 (U t), .int .i64 role, .int .u64 (U u)] 26)).alloc (.cells #[.int .u64 (U tB), .int .i64 role, .int .u64 (U u)] 26)) = u1 at *
              refine (shown_any a0 b0 w.heap.size _ (HS.out.later hB)).mono ?_
              rintro e u2 ⟨rfl, hC⟩
              replace k_k := keep k_k hC
              replace k_c := keep k_c hC
              replace k_c2 := keep k_c2 hC
              replace hB := hB.trans (hC.mono hB.size)
              clear hC
              have x_k_0 := cell_at k_k 0
              have x_k_1 := cell_at k_k 1
              have x_c_0 := cell_at k_c 0
              have x_c_1 := cell_at k_c 1
              have x_c_2 := cell_at k_c 2
              go_wp2_with fail
              clear x_k_0 x_k_1 x_c_0 x_c_1 x_c_2
              refine (HM.out _).mono ?_
              rintro e u3 ⟨rfl, hC⟩
              replace k_k := keep k_k hC
              replace k_c := keep k_c hC
              replace k_c2 := keep k_c2 hC
              replace hB := hB.trans (hC.mono hB.size)
              clear hC
              have x_k_0 := cell_at k_k 0
              have x_k_1 := cell_at k_k 1
              have x_c2_0 := cell_at k_c2 0
              have x_c2_1 := cell_at k_c2 1
              have x_c2_2 := cell_at k_c2 2
              go_wp2_with fail
              clear x_k_0 x_k_1 x_c2_0 x_c2_1 x_c2_2
              refine (HN.out _).mono ?_
              rintro e u4 ⟨rfl, hC⟩
              replace k_k := keep k_k hC
              replace k_c := keep k_c hC
              replace k_c2 := keep k_c2 hC
              replace hB := hB.trans (hC.mono hB.size)
              clear hC
              have x_c_0 := cell_at k_c 0
              have x_c_1 := cell_at k_c 1
              have x_c_2 := cell_at k_c 2
              have x_c2_0 := cell_at k_c2 0
              have x_c2_1 := cell_at k_c2 1
              have x_c2_2 := cell_at k_c2 2
              go_wp2_with fail
              go_ret
              exact ⟨rfl, hB⟩
            · have ku : (U u == U uB) = false := by rw [beq_eq_false_iff_ne]; exact fun h3 => eu (U_inj h3)
              have lu : ¬ (U u = U uB) := fun h3 => eu (U_inj h3)
              clear hd
              go_enter Tryd.func6, Tryd.ntmps6
              have hB : Below w.heap.size w w := Below.refl _ w
              go_wp2_with fail
              have hA : Below w.heap.size w (((w.alloc (.cells #[.int .u64 (U a), .int .u64 (U b)] 24)).alloc (.cells #[.int .u64 (U t), .int .i64 role, .int .u64 (U u)] 26)).alloc (.cells #[.int .u64 (U tB), .int .i64 role, .int .u64 (U uB)] 26)) := (((Below.refl _ w).alloc (Nat.le_refl _) _).alloc (by simp) _).alloc (by simp; omega) _
              have hq0 := hB.size
              replace hB := hB.trans (hA.mono hB.size)
              have k_k : (((w.alloc (.cells #[.int .u64 (U a), .int .u64 (U b)] 24)).alloc (.cells #[.int .u64 (U t), .int .i64 role, .int .u64 (U u)] 26)).alloc (.cells #[.int .u64 (U tB), .int .i64 role, .int .u64 (U uB)] 26)).heap[w.heap.size]? = some (.cells #[.int .u64 (U a), .int .u64 (U b)] 24 (0, 0)) := old_at (old_at (new_at _ _ _ rfl))
              have k_c : (((w.alloc (.cells #[.int .u64 (U a), .int .u64 (U b)] 24)).alloc (.cells #[.int .u64 (U t), .int .i64 role, .int .u64 (U u)] 26)).alloc (.cells #[.int .u64 (U tB), .int .i64 role, .int .u64 (U uB)] 26)).heap[w.heap.size + 1]? = some (.cells #[.int .u64 (U t), .int .i64 role, .int .u64 (U u)] 26 (0, 0)) := old_at (new_at _ _ _ (by simp))
              have k_c2 : (((w.alloc (.cells #[.int .u64 (U a), .int .u64 (U b)] 24)).alloc (.cells #[.int .u64 (U t), .int .i64 role, .int .u64 (U u)] 26)).alloc (.cells #[.int .u64 (U tB), .int .i64 role, .int .u64 (U uB)] 26)).heap[w.heap.size + 1 + 1]? = some (.cells #[.int .u64 (U tB), .int .i64 role, .int .u64 (U uB)] 26 (0, 0)) := new_at _ _ _ (by simp)
              obtain ⟨b_c2, hb2⟩ : ∃ b, w.heap.size + 1 + 1 = b := ⟨_, rfl⟩
              have q_c2 : w.heap.size ≤ b_c2 := by omega
              rw [hb2] at k_c2 ⊢
              obtain ⟨b_c, hb1⟩ : ∃ b, w.heap.size + 1 = b := ⟨_, rfl⟩
              have q_c : w.heap.size ≤ b_c := by omega
              rw [hb1] at k_c ⊢
              obtain ⟨b_k, hb0⟩ : ∃ b, w.heap.size = b := ⟨_, rfl⟩
              have q_k : w.heap.size ≤ b_k := by omega
              rw [hb0] at k_k ⊢
              have lt_k_c : b_k < b_c := by omega
              have lt_c_c2 : b_c < b_c2 := by omega
              clear hA hq0 hb0 hb1 hb2
              generalize (((w.alloc (.cells #[.int .u64 (U a), .int .u64 (U b)] 24)).alloc (.cells #[.int .u64 (U t), .int .i64 role, .int .u64 (U u)] 26)).alloc (.cells #[.int .u64 (U tB), .int .i64 role, .int .u64 (U uB)] 26)) = u1 at *
              refine (shown_any a0 b0 w.heap.size _ (HS.out.later hB)).mono ?_
              rintro e u2 ⟨rfl, hC⟩
              replace k_k := keep k_k hC
              replace k_c := keep k_c hC
              replace k_c2 := keep k_c2 hC
              replace hB := hB.trans (hC.mono hB.size)
              clear hC
              have x_k_0 := cell_at k_k 0
              have x_k_1 := cell_at k_k 1
              have x_c_0 := cell_at k_c 0
              have x_c_1 := cell_at k_c 1
              have x_c_2 := cell_at k_c 2
              go_wp2_with fail
              clear x_k_0 x_k_1 x_c_0 x_c_1 x_c_2
              refine (HM.out _).mono ?_
              rintro e u3 ⟨rfl, hC⟩
              replace k_k := keep k_k hC
              replace k_c := keep k_c hC
              replace k_c2 := keep k_c2 hC
              replace hB := hB.trans (hC.mono hB.size)
              clear hC
              have x_k_0 := cell_at k_k 0
              have x_k_1 := cell_at k_k 1
              have x_c2_0 := cell_at k_c2 0
              have x_c2_1 := cell_at k_c2 1
              have x_c2_2 := cell_at k_c2 2
              go_wp2_with fail
              clear x_k_0 x_k_1 x_c2_0 x_c2_1 x_c2_2
              refine (HN.out _).mono ?_
              rintro e u4 ⟨rfl, hC⟩
              replace k_k := keep k_k hC
              replace k_c := keep k_c hC
              replace k_c2 := keep k_c2 hC
              replace hB := hB.trans (hC.mono hB.size)
              clear hC
              have x_c_0 := cell_at k_c 0
              have x_c_1 := cell_at k_c 1
              have x_c_2 := cell_at k_c 2
              have x_c2_0 := cell_at k_c2 0
              have x_c2_1 := cell_at k_c2 1
              have x_c2_2 := cell_at k_c2 2
              go_wp2_with fail
              go_ret
              exact ⟨rfl, hB⟩
          · have kr : (role == roleB) = false := by rw [beq_eq_false_iff_ne]; exact er
            by_cases eu : u = uB
            · subst eu
              clear hd
              go_enter Tryd.func6, Tryd.ntmps6
              have hB : Below w.heap.size w w := Below.refl _ w
              go_wp2_with fail
              have hA : Below w.heap.size w (((w.alloc (.cells #[.int .u64 (U a), .int .u64 (U b)] 24)).alloc (.cells #[.int .u64 (U t), .int .i64 role, .int .u64 (U u)] 26)).alloc (.cells #[.int .u64 (U tB), .int .i64 roleB, .int .u64 (U u)] 26)) := (((Below.refl _ w).alloc (Nat.le_refl _) _).alloc (by simp) _).alloc (by simp; omega) _
              have hq0 := hB.size
              replace hB := hB.trans (hA.mono hB.size)
              have k_k : (((w.alloc (.cells #[.int .u64 (U a), .int .u64 (U b)] 24)).alloc (.cells #[.int .u64 (U t), .int .i64 role, .int .u64 (U u)] 26)).alloc (.cells #[.int .u64 (U tB), .int .i64 roleB, .int .u64 (U u)] 26)).heap[w.heap.size]? = some (.cells #[.int .u64 (U a), .int .u64 (U b)] 24 (0, 0)) := old_at (old_at (new_at _ _ _ rfl))
              have k_c : (((w.alloc (.cells #[.int .u64 (U a), .int .u64 (U b)] 24)).alloc (.cells #[.int .u64 (U t), .int .i64 role, .int .u64 (U u)] 26)).alloc (.cells #[.int .u64 (U tB), .int .i64 roleB, .int .u64 (U u)] 26)).heap[w.heap.size + 1]? = some (.cells #[.int .u64 (U t), .int .i64 role, .int .u64 (U u)] 26 (0, 0)) := old_at (new_at _ _ _ (by simp))
              have k_c2 : (((w.alloc (.cells #[.int .u64 (U a), .int .u64 (U b)] 24)).alloc (.cells #[.int .u64 (U t), .int .i64 role, .int .u64 (U u)] 26)).alloc (.cells #[.int .u64 (U tB), .int .i64 roleB, .int .u64 (U u)] 26)).heap[w.heap.size + 1 + 1]? = some (.cells #[.int .u64 (U tB), .int .i64 roleB, .int .u64 (U u)] 26 (0, 0)) := new_at _ _ _ (by simp)
              obtain ⟨b_c2, hb2⟩ : ∃ b, w.heap.size + 1 + 1 = b := ⟨_, rfl⟩
              have q_c2 : w.heap.size ≤ b_c2 := by omega
              rw [hb2] at k_c2 ⊢
              obtain ⟨b_c, hb1⟩ : ∃ b, w.heap.size + 1 = b := ⟨_, rfl⟩
              have q_c : w.heap.size ≤ b_c := by omega
              rw [hb1] at k_c ⊢
              obtain ⟨b_k, hb0⟩ : ∃ b, w.heap.size = b := ⟨_, rfl⟩
              have q_k : w.heap.size ≤ b_k := by omega
              rw [hb0] at k_k ⊢
              have lt_k_c : b_k < b_c := by omega
              have lt_c_c2 : b_c < b_c2 := by omega
              clear hA hq0 hb0 hb1 hb2
              generalize (((w.alloc (.cells #[.int .u64 (U a), .int .u64 (U b)] 24)).alloc (.cells #[.int .u64 (U t), .int .i64 role, .int .u64 (U u)] 26)).alloc (.cells #[.int .u64 (U tB), .int .i64 roleB, .int .u64 (U u)] 26)) = u1 at *
              refine (shown_any a0 b0 w.heap.size _ (HS.out.later hB)).mono ?_
              rintro e u2 ⟨rfl, hC⟩
              replace k_k := keep k_k hC
              replace k_c := keep k_c hC
              replace k_c2 := keep k_c2 hC
              replace hB := hB.trans (hC.mono hB.size)
              clear hC
              have x_k_0 := cell_at k_k 0
              have x_k_1 := cell_at k_k 1
              have x_c_0 := cell_at k_c 0
              have x_c_1 := cell_at k_c 1
              have x_c_2 := cell_at k_c 2
              go_wp2_with fail
              clear x_k_0 x_k_1 x_c_0 x_c_1 x_c_2
              refine (HM.out _).mono ?_
              rintro e u3 ⟨rfl, hC⟩
              replace k_k := keep k_k hC
              replace k_c := keep k_c hC
              replace k_c2 := keep k_c2 hC
              replace hB := hB.trans (hC.mono hB.size)
              clear hC
              have x_k_0 := cell_at k_k 0
              have x_k_1 := cell_at k_k 1
              have x_c2_0 := cell_at k_c2 0
              have x_c2_1 := cell_at k_c2 1
              have x_c2_2 := cell_at k_c2 2
              go_wp2_with fail
              clear x_k_0 x_k_1 x_c2_0 x_c2_1 x_c2_2
              refine (HN.out _).mono ?_
              rintro e u4 ⟨rfl, hC⟩
              replace k_k := keep k_k hC
              replace k_c := keep k_c hC
              replace k_c2 := keep k_c2 hC
              replace hB := hB.trans (hC.mono hB.size)
              clear hC
              have x_c_0 := cell_at k_c 0
              have x_c_1 := cell_at k_c 1
              have x_c_2 := cell_at k_c 2
              have x_c2_0 := cell_at k_c2 0
              have x_c2_1 := cell_at k_c2 1
              have x_c2_2 := cell_at k_c2 2
              go_wp2_with fail
              go_ret
              exact ⟨rfl, hB⟩
            · have ku : (U u == U uB) = false := by rw [beq_eq_false_iff_ne]; exact fun h3 => eu (U_inj h3)
              have lu : ¬ (U u = U uB) := fun h3 => eu (U_inj h3)
              clear hd
              go_enter Tryd.func6, Tryd.ntmps6
              have hB : Below w.heap.size w w := Below.refl _ w
              go_wp2_with fail
              have hA : Below w.heap.size w (((w.alloc (.cells #[.int .u64 (U a), .int .u64 (U b)] 24)).alloc (.cells #[.int .u64 (U t), .int .i64 role, .int .u64 (U u)] 26)).alloc (.cells #[.int .u64 (U tB), .int .i64 roleB, .int .u64 (U uB)] 26)) := (((Below.refl _ w).alloc (Nat.le_refl _) _).alloc (by simp) _).alloc (by simp; omega) _
              have hq0 := hB.size
              replace hB := hB.trans (hA.mono hB.size)
              have k_k : (((w.alloc (.cells #[.int .u64 (U a), .int .u64 (U b)] 24)).alloc (.cells #[.int .u64 (U t), .int .i64 role, .int .u64 (U u)] 26)).alloc (.cells #[.int .u64 (U tB), .int .i64 roleB, .int .u64 (U uB)] 26)).heap[w.heap.size]? = some (.cells #[.int .u64 (U a), .int .u64 (U b)] 24 (0, 0)) := old_at (old_at (new_at _ _ _ rfl))
              have k_c : (((w.alloc (.cells #[.int .u64 (U a), .int .u64 (U b)] 24)).alloc (.cells #[.int .u64 (U t), .int .i64 role, .int .u64 (U u)] 26)).alloc (.cells #[.int .u64 (U tB), .int .i64 roleB, .int .u64 (U uB)] 26)).heap[w.heap.size + 1]? = some (.cells #[.int .u64 (U t), .int .i64 role, .int .u64 (U u)] 26 (0, 0)) := old_at (new_at _ _ _ (by simp))
              have k_c2 : (((w.alloc (.cells #[.int .u64 (U a), .int .u64 (U b)] 24)).alloc (.cells #[.int .u64 (U t), .int .i64 role, .int .u64 (U u)] 26)).alloc (.cells #[.int .u64 (U tB), .int .i64 roleB, .int .u64 (U uB)] 26)).heap[w.heap.size + 1 + 1]? = some (.cells #[.int .u64 (U tB), .int .i64 roleB, .int .u64 (U uB)] 26 (0, 0)) := new_at _ _ _ (by simp)
              obtain ⟨b_c2, hb2⟩ : ∃ b, w.heap.size + 1 + 1 = b := ⟨_, rfl⟩
              have q_c2 : w.heap.size ≤ b_c2 := by omega
              rw [hb2] at k_c2 ⊢
              obtain ⟨b_c, hb1⟩ : ∃ b, w.heap.size + 1 = b := ⟨_, rfl⟩
              have q_c : w.heap.size ≤ b_c := by omega
              rw [hb1] at k_c ⊢
              obtain ⟨b_k, hb0⟩ : ∃ b, w.heap.size = b := ⟨_, rfl⟩
              have q_k : w.heap.size ≤ b_k := by omega
              rw [hb0] at k_k ⊢
              have lt_k_c : b_k < b_c := by omega
              have lt_c_c2 : b_c < b_c2 := by omega
              clear hA hq0 hb0 hb1 hb2
              generalize (((w.alloc (.cells #[.int .u64 (U a), .int .u64 (U b)] 24)).alloc (.cells #[.int .u64 (U t), .int .i64 role, .int .u64 (U u)] 26)).alloc (.cells #[.int .u64 (U tB), .int .i64 roleB, .int .u64 (U uB)] 26)) = u1 at *
              refine (shown_any a0 b0 w.heap.size _ (HS.out.later hB)).mono ?_
              rintro e u2 ⟨rfl, hC⟩
              replace k_k := keep k_k hC
              replace k_c := keep k_c hC
              replace k_c2 := keep k_c2 hC
              replace hB := hB.trans (hC.mono hB.size)
              clear hC
              have x_k_0 := cell_at k_k 0
              have x_k_1 := cell_at k_k 1
              have x_c_0 := cell_at k_c 0
              have x_c_1 := cell_at k_c 1
              have x_c_2 := cell_at k_c 2
              go_wp2_with fail
              clear x_k_0 x_k_1 x_c_0 x_c_1 x_c_2
              refine (HM.out _).mono ?_
              rintro e u3 ⟨rfl, hC⟩
              replace k_k := keep k_k hC
              replace k_c := keep k_c hC
              replace k_c2 := keep k_c2 hC
              replace hB := hB.trans (hC.mono hB.size)
              clear hC
              have x_k_0 := cell_at k_k 0
              have x_k_1 := cell_at k_k 1
              have x_c2_0 := cell_at k_c2 0
              have x_c2_1 := cell_at k_c2 1
              have x_c2_2 := cell_at k_c2 2
              go_wp2_with fail
              clear x_k_0 x_k_1 x_c2_0 x_c2_1 x_c2_2
              refine (HN.out _).mono ?_
              rintro e u4 ⟨rfl, hC⟩
              replace k_k := keep k_k hC
              replace k_c := keep k_c hC
              replace k_c2 := keep k_c2 hC
              replace hB := hB.trans (hC.mono hB.size)
              clear hC
              have x_c_0 := cell_at k_c 0
              have x_c_1 := cell_at k_c 1
              have x_c_2 := cell_at k_c 2
              have x_c2_0 := cell_at k_c2 0
              have x_c2_1 := cell_at k_c2 1
              have x_c2_2 := cell_at k_c2 2
              go_wp2_with fail
              go_ret
              exact ⟨rfl, hB⟩
    · rw [e2] at HN
      rw [e, minB_ok a b t u r1 r3] at HM
      clear e e2 hn2 r1 r3
      go_enter Tryd.func6, Tryd.ntmps6
      have hB : Below w.heap.size w w := Below.refl _ w
      go_wp2_with fail
      have hA : Below w.heap.size w (((w.alloc (.cells #[.int .u64 (U a), .int .u64 (U b)] 24)).alloc (.cells #[.int .u64 (U t), .int .i64 role, .int .u64 (U u)] 26)).alloc (.cells #[.int .u64 (U tB), .int .i64 roleB, .int .u64 (U uB)] 26)) := (((Below.refl _ w).alloc (Nat.le_refl _) _).alloc (by simp) _).alloc (by simp; omega) _
      have hq0 := hB.size
      replace hB := hB.trans (hA.mono hB.size)
      have k_k : (((w.alloc (.cells #[.int .u64 (U a), .int .u64 (U b)] 24)).alloc (.cells #[.int .u64 (U t), .int .i64 role, .int .u64 (U u)] 26)).alloc (.cells #[.int .u64 (U tB), .int .i64 roleB, .int .u64 (U uB)] 26)).heap[w.heap.size]? = some (.cells #[.int .u64 (U a), .int .u64 (U b)] 24 (0, 0)) := old_at (old_at (new_at _ _ _ rfl))
      have k_c : (((w.alloc (.cells #[.int .u64 (U a), .int .u64 (U b)] 24)).alloc (.cells #[.int .u64 (U t), .int .i64 role, .int .u64 (U u)] 26)).alloc (.cells #[.int .u64 (U tB), .int .i64 roleB, .int .u64 (U uB)] 26)).heap[w.heap.size + 1]? = some (.cells #[.int .u64 (U t), .int .i64 role, .int .u64 (U u)] 26 (0, 0)) := old_at (new_at _ _ _ (by simp))
      have k_c2 : (((w.alloc (.cells #[.int .u64 (U a), .int .u64 (U b)] 24)).alloc (.cells #[.int .u64 (U t), .int .i64 role, .int .u64 (U u)] 26)).alloc (.cells #[.int .u64 (U tB), .int .i64 roleB, .int .u64 (U uB)] 26)).heap[w.heap.size + 1 + 1]? = some (.cells #[.int .u64 (U tB), .int .i64 roleB, .int .u64 (U uB)] 26 (0, 0)) := new_at _ _ _ (by simp)
      obtain ⟨b_c2, hb2⟩ : ∃ b, w.heap.size + 1 + 1 = b := ⟨_, rfl⟩
      have q_c2 : w.heap.size ≤ b_c2 := by omega
      rw [hb2] at k_c2 ⊢
      obtain ⟨b_c, hb1⟩ : ∃ b, w.heap.size + 1 = b := ⟨_, rfl⟩
      have q_c : w.heap.size ≤ b_c := by omega
      rw [hb1] at k_c ⊢
      obtain ⟨b_k, hb0⟩ : ∃ b, w.heap.size = b := ⟨_, rfl⟩
      have q_k : w.heap.size ≤ b_k := by omega
      rw [hb0] at k_k ⊢
      have lt_k_c : b_k < b_c := by omega
      have lt_c_c2 : b_c < b_c2 := by omega
      clear hA hq0 hb0 hb1 hb2
      generalize (((w.alloc (.cells #[.int .u64 (U a), .int .u64 (U b)] 24)).alloc (.cells #[.int .u64 (U t), .int .i64 role, .int .u64 (U u)] 26)).alloc (.cells #[.int .u64 (U tB), .int .i64 roleB, .int .u64 (U uB)] 26)) = u1 at *
      refine (shown_any a0 b0 w.heap.size _ (HS.out.later hB)).mono ?_
      rintro e u2 ⟨rfl, hC⟩
      replace k_k := keep k_k hC
      replace k_c := keep k_c hC
      replace k_c2 := keep k_c2 hC
      replace hB := hB.trans (hC.mono hB.size)
      clear hC
      have x_k_0 := cell_at k_k 0
      have x_k_1 := cell_at k_k 1
      have x_c_0 := cell_at k_c 0
      have x_c_1 := cell_at k_c 1
      have x_c_2 := cell_at k_c 2
      go_wp2_with fail
      clear x_k_0 x_k_1 x_c_0 x_c_1 x_c_2
      refine (HM.out _).mono ?_
      rintro e u3 ⟨rfl, hC⟩
      replace k_k := keep k_k hC
      replace k_c := keep k_c hC
      replace k_c2 := keep k_c2 hC
      replace hB := hB.trans (hC.mono hB.size)
      clear hC
      have x_k_0 := cell_at k_k 0
      have x_k_1 := cell_at k_k 1
      have x_c2_0 := cell_at k_c2 0
      have x_c2_1 := cell_at k_c2 1
      have x_c2_2 := cell_at k_c2 2
      go_wp2_with fail
      clear x_k_0 x_k_1 x_c2_0 x_c2_1 x_c2_2
      refine (HN.out _).mono ?_
      rintro e u4 ⟨rfl, hC⟩
      replace k_k := keep k_k hC
      replace k_c := keep k_c hC
      replace k_c2 := keep k_c2 hC
      replace hB := hB.trans (hC.mono hB.size)
      clear hC
      have x_c_0 := cell_at k_c 0
      have x_c_1 := cell_at k_c 1
      have x_c_2 := cell_at k_c 2
      have x_c2_0 := cell_at k_c2 0
      have x_c2_1 := cell_at k_c2 1
      have x_c2_2 := cell_at k_c2 2
      go_wp2_with fail
      go_ret
      exact ⟨rfl, hB⟩
  · rw [e] at HM
    clear e hn
    go_enter Tryd.func6, Tryd.ntmps6
    have hB : Below w.heap.size w w := Below.refl _ w
    go_wp2_with fail
    have hA : Below w.heap.size w (((w.alloc (.cells #[.int .u64 (U a), .int .u64 (U b)] 24)).alloc (.cells #[.int .u64 (U t), .int .i64 role, .int .u64 (U u)] 26)).alloc (.cells #[.int .u64 (U tB), .int .i64 roleB, .int .u64 (U uB)] 26)) := (((Below.refl _ w).alloc (Nat.le_refl _) _).alloc (by simp) _).alloc (by simp; omega) _
    have hq0 := hB.size
    replace hB := hB.trans (hA.mono hB.size)
    have k_k : (((w.alloc (.cells #[.int .u64 (U a), .int .u64 (U b)] 24)).alloc (.cells #[.int .u64 (U t), .int .i64 role, .int .u64 (U u)] 26)).alloc (.cells #[.int .u64 (U tB), .int .i64 roleB, .int .u64 (U uB)] 26)).heap[w.heap.size]? = some (.cells #[.int .u64 (U a), .int .u64 (U b)] 24 (0, 0)) := old_at (old_at (new_at _ _ _ rfl))
    have k_c : (((w.alloc (.cells #[.int .u64 (U a), .int .u64 (U b)] 24)).alloc (.cells #[.int .u64 (U t), .int .i64 role, .int .u64 (U u)] 26)).alloc (.cells #[.int .u64 (U tB), .int .i64 roleB, .int .u64 (U uB)] 26)).heap[w.heap.size + 1]? = some (.cells #[.int .u64 (U t), .int .i64 role, .int .u64 (U u)] 26 (0, 0)) := old_at (new_at _ _ _ (by simp))
    have k_c2 : (((w.alloc (.cells #[.int .u64 (U a), .int .u64 (U b)] 24)).alloc (.cells #[.int .u64 (U t), .int .i64 role, .int .u64 (U u)] 26)).alloc (.cells #[.int .u64 (U tB), .int .i64 roleB, .int .u64 (U uB)] 26)).heap[w.heap.size + 1 + 1]? = some (.cells #[.int .u64 (U tB), .int .i64 roleB, .int .u64 (U uB)] 26 (0, 0)) := new_at _ _ _ (by simp)
    obtain ⟨b_c2, hb2⟩ : ∃ b, w.heap.size + 1 + 1 = b := ⟨_, rfl⟩
    have q_c2 : w.heap.size ≤ b_c2 := by omega
    rw [hb2] at k_c2 ⊢
    obtain ⟨b_c, hb1⟩ : ∃ b, w.heap.size + 1 = b := ⟨_, rfl⟩
    have q_c : w.heap.size ≤ b_c := by omega
    rw [hb1] at k_c ⊢
    obtain ⟨b_k, hb0⟩ : ∃ b, w.heap.size = b := ⟨_, rfl⟩
    have q_k : w.heap.size ≤ b_k := by omega
    rw [hb0] at k_k ⊢
    have lt_k_c : b_k < b_c := by omega
    have lt_c_c2 : b_c < b_c2 := by omega
    clear hA hq0 hb0 hb1 hb2
    generalize (((w.alloc (.cells #[.int .u64 (U a), .int .u64 (U b)] 24)).alloc (.cells #[.int .u64 (U t), .int .i64 role, .int .u64 (U u)] 26)).alloc (.cells #[.int .u64 (U tB), .int .i64 roleB, .int .u64 (U uB)] 26)) = u1 at *
    refine (shown_any a0 b0 w.heap.size _ (HS.out.later hB)).mono ?_
    rintro e u2 ⟨rfl, hC⟩
    replace k_k := keep k_k hC
    replace k_c := keep k_c hC
    replace k_c2 := keep k_c2 hC
    replace hB := hB.trans (hC.mono hB.size)
    clear hC
    have x_k_0 := cell_at k_k 0
    have x_k_1 := cell_at k_k 1
    have x_c_0 := cell_at k_c 0
    have x_c_1 := cell_at k_c 1
    have x_c_2 := cell_at k_c 2
    go_wp2_with fail
    clear x_k_0 x_k_1 x_c_0 x_c_1 x_c_2
    refine (HM.out _).mono ?_
    rintro e u3 ⟨rfl, hC⟩
    replace k_k := keep k_k hC
    replace k_c := keep k_c hC
    replace k_c2 := keep k_c2 hC
    replace hB := hB.trans (hC.mono hB.size)
    clear hC
    have x_k_0 := cell_at k_k 0
    have x_k_1 := cell_at k_k 1
    have x_c2_0 := cell_at k_c2 0
    have x_c2_1 := cell_at k_c2 1
    have x_c2_2 := cell_at k_c2 2
    go_wp2_with fail
    clear x_k_0 x_k_1 x_c2_0 x_c2_1 x_c2_2
    refine (HN.out _).mono ?_
    rintro e u4 ⟨rfl, hC⟩
    replace k_k := keep k_k hC
    replace k_c := keep k_c hC
    replace k_c2 := keep k_c2 hC
    replace hB := hB.trans (hC.mono hB.size)
    clear hC
    have x_c_0 := cell_at k_c 0
    have x_c_1 := cell_at k_c 1
    have x_c_2 := cell_at k_c 2
    have x_c2_0 := cell_at k_c2 0
    have x_c2_1 := cell_at k_c2 1
    have x_c2_2 := cell_at k_c2 2
    go_wp2_with fail
    go_ret
    exact ⟨rfl, hB⟩
end Go.Proofs.YtpekedldoplmmaaDoor
