/-
  A round can be undone: plain, no program in sight but for the names of the rounds.
-/
import Derived.Test.YtjbbilnennhamaaRef
namespace Go.Proofs.Ytjbbilnennhamaa

theorem rot_back (x : BitVec 64) (a b : Nat) (ha : a < 64) (hb : b < 64) (h : a + b = 64) : (x.rotateLeft a).rotateLeft b = x := by
  apply BitVec.eq_of_getLsbD_eq
  intro i hi
  simp only [BitVec.getLsbD_rotateLeft, Nat.mod_eq_of_lt ha, Nat.mod_eq_of_lt hb]
  by_cases h1 : i < b
  · have e1 : decide (i < b) = true := by simpa using h1
    have e2 : decide (64 - b + i < a) = false := by simp; omega
    have e3 : decide (64 - b + i < 64) = true := by simp; omega
    have h4 : 64 - b + i - a = i := by omega
    rw [e1, cond_true, e2, cond_false, e3, h4, Bool.true_and]
  · have e1 : decide (i < b) = false := by simpa using h1
    have e2 : decide (i - b < a) = true := by simp; omega
    have e3 : decide (i < 64) = true := by simpa using hi
    have h4 : 64 - a + (i - b) = i := by omega
    rw [e1, cond_false, e2, cond_true, e3, h4, Bool.true_and]
theorem xor_back (x y : BitVec 64) : x ^^^ y ^^^ y = x := by rw [BitVec.xor_assoc, BitVec.xor_self, BitVec.xor_zero]

theorem bck_rnd (v : BitVec 64 × BitVec 64 × BitVec 64 × BitVec 64) : bck (rnd v) = v := by
  obtain ⟨a, b, c, d⟩ := v
  simp only [bck, rnd, rot_back _ 32 32 (by decide) (by decide) rfl, xor_back, rot_back _ 17 47 (by decide) (by decide) rfl, rot_back _ 21 43 (by decide) (by decide) rfl, rot_back _ 16 48 (by decide) (by decide) rfl, rot_back _ 13 51 (by decide) (by decide) rfl, BitVec.add_sub_cancel]
theorem rnd_bck (v : BitVec 64 × BitVec 64 × BitVec 64 × BitVec 64) : rnd (bck v) = v := by
  obtain ⟨a, b, c, d⟩ := v
  simp only [bck, rnd, rot_back _ 32 32 (by decide) (by decide) rfl, xor_back, rot_back _ 47 17 (by decide) (by decide) rfl, rot_back _ 43 21 (by decide) (by decide) rfl, rot_back _ 48 16 (by decide) (by decide) rfl, rot_back _ 51 13 (by decide) (by decide) rfl, BitVec.sub_add_cancel]
theorem rnd_inj {v w : BitVec 64 × BitVec 64 × BitVec 64 × BitVec 64} (h : rnd v = rnd w) : v = w := by rw [← bck_rnd v, h, bck_rnd]

/-- Are four numbers the same four? As the walk asks it. -/
def eq4 (v w : BitVec 64 × BitVec 64 × BitVec 64 × BitVec 64) : Bool := U v.1 == U w.1 && U v.2.1 == U w.2.1 && U v.2.2.1 == U w.2.2.1 && U v.2.2.2 == U w.2.2.2
theorem eq4_iff (v w : BitVec 64 × BitVec 64 × BitVec 64 × BitVec 64) : eq4 v w = true ↔ v = w := by
  unfold eq4
  simp only [Bool.and_eq_true, beq_iff_eq]
  constructor
  · rintro ⟨⟨⟨h0, h1⟩, h2⟩, h3⟩
    obtain ⟨a, b, c, d⟩ := v
    obtain ⟨a', b', c', d'⟩ := w
    rw [Prod.mk.injEq, Prod.mk.injEq, Prod.mk.injEq]
    exact ⟨U_inj h0, U_inj h1, U_inj h2, U_inj h3⟩
  · rintro rfl; exact ⟨⟨⟨rfl, rfl⟩, rfl⟩, rfl⟩
theorem eq4_rnd (v w : BitVec 64 × BitVec 64 × BitVec 64 × BitVec 64) : eq4 (rnd v) (rnd w) = eq4 v w := by
  rw [Bool.eq_iff_iff, eq4_iff, eq4_iff]
  exact ⟨rnd_inj, fun h => by rw [h]⟩

end Go.Proofs.Ytjbbilnennhamaa
