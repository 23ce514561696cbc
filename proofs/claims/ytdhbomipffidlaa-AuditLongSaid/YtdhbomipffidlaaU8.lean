/-
  Lists of bytes of the call's own: a byte appended, a text made of them. No walk in sight.
-/
import Derived.Test.YtdhbomipffidlaaChecked
import Derived.Test.YtdhbomipffidlaaRow
import Derived.Test.YtdhbomipffidlaaLater
import Derived.Maps.AppendAt
import Derived.Laws.IdiomStrings
namespace Go.Proofs.Ytdhbomipffidlaa
open Go.RowKit

def enc8 (b : UInt8) : Value := .int .u8 (b.toNat : Int)
theorem one_enc8 {l : List UInt8} : ∀ u ∈ l.map enc8, u.oneCell' = true := fun u hu => by
  obtain ⟨x, _, rfl⟩ := List.mem_map.1 hu
  rfl
/-- A list of bytes that is the call's own. -/
def OwnB (W : World) (base : Nat) (v : Value) (l : List UInt8) : Prop := W.ownsRow base 5 1 v l.length (l.map enc8)
theorem OwnB.nil (W : World) (base : Nat) : OwnB W base (.slice none 0 0) [] := ⟨by simp, .inl ⟨rfl, rfl⟩⟩
theorem OwnB.of {W W' : World} {base : Nat} {v : Value} {l : List UInt8} (h : OwnB W base v l) (hb : ∀ k, base ≤ k → k < W.heap.size → W'.heap[k]? = W.heap[k]?) : OwnB W' base v l := by
  refine ⟨h.1, ?_⟩
  rcases h.2 with h0 | ⟨g, cap, cur, h1, h2, h3, h4⟩
  · exact .inl h0
  · exact .inr ⟨g, cap, cur, h1, h2, (hb g h2 (Array.getElem?_eq_some_iff.1 h3).1).trans h3, h4⟩
theorem OwnB.slice {W : World} {base : Nat} {v : Value} {l : List UInt8} (h : OwnB W base v l) : ∃ A c, v = .slice A l.length c ∧ l.length ≤ c := by
  rcases h.2 with ⟨rfl, h0⟩ | ⟨g, cap, cur, rfl, hb, hh, hn, _, hc, ht⟩
  · have : l = [] := List.eq_nil_of_length_eq_zero h0
    subst this
    exact ⟨none, 0, rfl, Nat.le_refl _⟩
  · exact ⟨_, _, rfl, hn⟩
theorem u8_info : (Try.prog.info? 5).map (fun i => (i.zero, i.size, i.bytes)) = some (some (.int .u8 0), 1, 1) := by kernel_rfl
theorem u8_parts : ∃ i0, Try.prog.info? 5 = some i0 ∧ i0.zero = some (.int .u8 0) ∧ i0.size = 1 ∧ i0.bytes = 1 := by
  obtain ⟨i0, hi, he⟩ := Option.map_eq_some_iff.1 u8_info
  simp only [Prod.mk.injEq] at he
  exact ⟨i0, hi, he.1, he.2.1, he.2.2⟩
/-- One byte appended, that lies in a box of its own. -/
theorem append_byte (w : World) (base : Nat) (v : Value) (l : List UInt8) (x : UInt8) (b : Nat) (h : OwnB w base v l) (hc : w.cell? ⟨b, 0, none⟩ = some (.int .u8 (x.toNat : Int))) (hb : base ≤ w.heap.size) (hl : l.length ≤ 65535) :
    ∃ v' W, (Builtin.append_ #[78, 78] 78 #[v, .slice (some ⟨b, 0, none⟩) 1 1]).run Try.prog w = .ok v' W ∧ OwnB W base v' (l ++ [x]) ∧ Below base w W ∧ w.grownBy W v.ownBlock := by
  obtain ⟨i0, hi, hz0, hz1, hz2⟩ := u8_parts
  have hcells : ∀ j u, (([x] : List UInt8).map enc8)[j]? = some u → w.cell? ((⟨b, 0, none⟩ : Addr).add j) = some u := by
    intro j u hu
    have hj2 : j < 1 := by have := (List.getElem?_eq_some_iff.1 hu).1; simpa using this
    obtain rfl : j = 0 := by omega
    have e : (⟨b, 0, none⟩ : Addr).add 0 = ⟨b, 0, none⟩ := rfl
    rw [e, hc]
    simpa [enc8] using hu
  obtain ⟨v', W, hr, hown, hg, -, -⟩ := run_append_own_at (P := Try.prog) w base 78 78 5 i0 (.int .u8 0) 1 1 Try.underlying78 hi hz0 hz1 hz2 rfl (by decide) v l.length (l.map enc8) h
    ⟨b, 0, none⟩ 1 1 ([x].map enc8) (by simp) hcells one_enc8 (by simp only [maxLen]; omega) (by omega) hb
  refine ⟨v', W, hr, ?_, (Below.refl base w).grown hg hb (fun k hk => ?_), hg⟩
  · unfold OwnB
    rw [List.length_append, List.map_append]
    exact hown
  · rcases h.2 with ⟨rfl, _⟩ | ⟨g, cap, cur, rfl, hbg, _⟩
    · simp [Value.ownBlock] at hk
    · simp [Value.ownBlock] at hk
      omega
/-- The text of bytes. -/
theorem text_of (w : World) (base : Nat) (v : Value) (l : List UInt8) (h : OwnB w base v l) : (convert 78 9 v).run Try.prog w = .ok (.string ⟨l.toArray⟩) w := by
  rcases h.2 with ⟨rfl, h0⟩ | ⟨g, cap, cur, rfl, hb, hh, hn, _, hc, ht⟩
  · have : l = [] := List.eq_nil_of_length_eq_zero h0
    subst this
    rw [run_convert_bytes_string w 78 9 5 none 0 0 Try.underlying78 Try.underlying5 Try.underlying9]
    simp [Conv.bytesToString]
    try rfl
  · refine run_convert_bytes_back (P := Try.prog) w 78 9 5 ⟨g, 0, none⟩ cap l Try.underlying78 Try.underlying5 Try.underlying9 (fun j hj => ?_)
    have e : (⟨g, 0, none⟩ : Addr).add j = ⟨g, j, none⟩ := by
      unfold Addr.add
      by_cases h : j = 0 <;> simp [h]
    rw [e]
    simp only [World.cell?, hh]
    have e2 : (cur.toList.take (l.length * 1))[j]? = some (.int .u8 (l[j].toNat : Int)) := by
      rw [ht, List.getElem?_map, List.getElem?_eq_getElem hj]; rfl
    rw [List.getElem?_take] at e2
    rw [if_pos (by omega)] at e2
    simpa using e2
end Go.Proofs.Ytdhbomipffidlaa
