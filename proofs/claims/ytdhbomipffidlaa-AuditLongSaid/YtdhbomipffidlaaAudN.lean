/-
  Which logs are right, as the reference says it, plainly. No walk in sight.
-/
import Derived.Test.YtdhbomipffidlaaAudM
namespace Go.Proofs.Ytdhbomipffidlaa
open Go.RowKit

/-- May an entry stand at its place, by the reference? -/
def okR (p : BitVec 64) (l : LE) (i : Nat) : Bool :=
  decide ((nthE l i).x.size ≤ 200) && (decide (1 ≤ (nthE l i).s.toNat) && (if i = 0 then (decide (¬ (nthE l i).s = 1#64) || decide (p = 0#64)) else (decide ((nthE l i).s - 1#64 = (nthE l (i - 1)).s) && decide ((nthE l (i - 1)).t.toNat ≤ (nthE l i).t.toNat))))
theorem rightE_pos2 {a b p : BitVec 64} {l : LE} (h : l.length ≠ 0) : rightE a b p l = (decide (l.length ≤ 30) && (decide (upTo (placeE l) l.length = l.length) && (decide (chainE a b p l = l.length) && (decide (0 < (nthE l 0).s.toNat) && (decide (1 < (nthE l 0).s.toNat) || decide (p = 0#64)))))) := by
  unfold rightE; rw [first_pos h]
theorem ref_right (a b p : BitVec 64) (l : LE) : rightE a b p l = (decide (upTo (okR p l) l.length = l.length) && (decide (chainE a b p l = l.length) && (decide (l.length ≤ 30) && (decide (0 < l.length) || decide (p = 0#64))))) := by
  rw [Bool.eq_iff_iff]
  by_cases h0 : l.length = 0
  · have e : l = [] := List.eq_nil_of_length_eq_zero h0
    subst e
    constructor
    · intro h
      have h2 := (rightE_iff.1 h).2.first
      unfold firstE at h2
      rw [if_pos h0] at h2
      rw [h2]; rfl
    · intro h
      rw [Bool.and_eq_true, Bool.and_eq_true, Bool.and_eq_true, Bool.or_eq_true] at h
      obtain ⟨-, -, -, h2⟩ := h
      rcases h2 with h2 | h2
      · have := of_decide_eq_true h2; exact absurd this (by simp)
      · refine rightE_iff.2 ⟨by simp, fun i hi => absurd hi (by simp), fun i hi => absurd hi (by simp), ?_⟩
        unfold firstE
        rw [if_pos h0, h2]
  · rw [rightE_pos2 h0, Bool.and_eq_true, Bool.and_eq_true, Bool.and_eq_true, Bool.and_eq_true, Bool.and_eq_true, Bool.and_eq_true, Bool.and_eq_true, Bool.or_eq_true, Bool.or_eq_true, decide_eq_true_iff, decide_eq_true_iff, decide_eq_true_iff, decide_eq_true_iff, decide_eq_true_iff, decide_eq_true_iff, decide_eq_true_iff, decide_eq_true_iff, upTo_all, upTo_all]
    have key1 : (nthE l 0).s = 1#64 ↔ (nthE l 0).s.toNat = 1 := by
      constructor
      · intro h; rw [h]; rfl
      · intro h; exact BitVec.eq_of_toNat_eq h
    constructor
    · rintro ⟨h1, h2, h3, h4, h5⟩
      refine ⟨fun i hi => ?_, h3, h1, .inl (by omega)⟩
      have hp := h2 i hi
      unfold placeE at hp
      unfold okR
      rw [Bool.and_eq_true, decide_eq_true_iff, Bool.or_eq_true, decide_eq_true_iff] at hp
      rw [Bool.and_eq_true, Bool.and_eq_true, decide_eq_true_iff, decide_eq_true_iff]
      refine ⟨hp.1, ?_⟩
      by_cases hi0 : i = 0
      · subst hi0
        refine ⟨by omega, ?_⟩
        rw [if_pos rfl, Bool.or_eq_true, decide_eq_true_iff, decide_eq_true_iff, key1]
        rcases h5 with h5 | h5
        · exact .inl (by omega)
        · exact .inr h5
      · rcases hp.2 with hp2 | hp2
        · omega
        · unfold stepE at hp2
          rw [Bool.and_eq_true, Bool.and_eq_true, decide_eq_true_iff, decide_eq_true_iff, decide_eq_true_iff] at hp2
          obtain ⟨q1, q2, q3⟩ := hp2
          have e : (nthE l i).s.toNat = (nthE l (i - 1)).s.toNat + 1 := by
            rw [q2, BitVec.toNat_add]
            show ((nthE l (i - 1)).s.toNat + 1) % 18446744073709551616 = _
            omega
          refine ⟨by omega, ?_⟩
          rw [if_neg hi0, Bool.and_eq_true, decide_eq_true_iff, decide_eq_true_iff]
          refine ⟨?_, q3⟩
          rw [q2, BitVec.add_sub_cancel]
    · rintro ⟨h2, h3, h1, -⟩
      have hz := h2 0 (by omega)
      unfold okR at hz
      rw [Bool.and_eq_true, Bool.and_eq_true, decide_eq_true_iff, decide_eq_true_iff, if_pos rfl, Bool.or_eq_true, decide_eq_true_iff, decide_eq_true_iff, key1] at hz
      refine ⟨h1, fun i hi => ?_, h3, by omega, ?_⟩
      · have hp := h2 i hi
        unfold okR at hp
        unfold placeE
        rw [Bool.and_eq_true, Bool.and_eq_true, decide_eq_true_iff, decide_eq_true_iff] at hp
        rw [Bool.and_eq_true, decide_eq_true_iff, Bool.or_eq_true, decide_eq_true_iff]
        refine ⟨hp.1, ?_⟩
        by_cases hi0 : i = 0
        · exact .inl hi0
        · obtain ⟨-, q1, q2⟩ := hp
          rw [if_neg hi0, Bool.and_eq_true, decide_eq_true_iff, decide_eq_true_iff] at q2
          refine .inr ?_
          unfold stepE
          rw [Bool.and_eq_true, Bool.and_eq_true, decide_eq_true_iff, decide_eq_true_iff, decide_eq_true_iff]
          have e : (nthE l (i - 1)).s.toNat = (nthE l i).s.toNat - 1 := by
            rw [← q2.1, BitVec.toNat_sub]
            have := (nthE l i).s.isLt
            show (18446744073709551616 - 1 + (nthE l i).s.toNat) % 18446744073709551616 = _
            omega
          have := (nthE l i).s.isLt
          refine ⟨by omega, ?_, q2.2⟩
          rw [← q2.1, BitVec.sub_add_cancel]
      · rcases hz.2.2 with h | h
        · exact .inl (by omega)
        · exact .inr h
end Go.Proofs.Ytdhbomipffidlaa
