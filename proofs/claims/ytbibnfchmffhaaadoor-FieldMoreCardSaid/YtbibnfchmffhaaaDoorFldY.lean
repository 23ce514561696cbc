/-
  Plain laws of lists' bytes: they are read back, whatever stands behind; what is read is what is put; fewer bytes ask for more. No walk in sight.
-/
import Derived.Test.YtbibnfchmffhaaaDoorFldX
namespace Go.Proofs.YtbibnfchmffhaaaDoor
open Go.RowKit Go.Lib

theorem joinB_cons (s : ByteArray) (l : LS) : joinB (s :: l) = textF s ++ joinB l := by
  apply ba_ext
  rw [append_list]
  simp [joinB, joinL]
theorem joinB_nil : joinB [] = ⟨#[]⟩ := rfl
theorem nil_append (s : ByteArray) : (⟨#[]⟩ : ByteArray) ++ s = s := by
  apply ba_ext
  rw [append_list]
  rfl
theorem okL_cons {s : ByteArray} {l : LS} (h : okL (s :: l) = true) : s.size ≤ 400 ∧ okL l = true := by
  rw [okL, List.all_cons, Bool.and_eq_true, decide_eq_true_iff] at h
  exact h
theorem ln_put : ∀ (l : LS) (s : ByteArray), okL l = true → lnE l.length (joinB l ++ s) = 0 ∧ lnV l.length (joinB l ++ s) = l ∧ lnR l.length (joinB l ++ s) = s
  | [], s, _ => ⟨rfl, rfl, by rw [joinB_nil, nil_append]; rfl⟩
  | x :: l, s, h => by
    obtain ⟨hx, hl⟩ := okL_cons h
    obtain ⟨h1, h2, h3⟩ := txt_put x (joinB l ++ s) hx
    obtain ⟨i1, i2, i3⟩ := ln_put l s hl
    have e : joinB (x :: l) ++ s = textF x ++ (joinB l ++ s) := by rw [joinB_cons, ByteArray.append_assoc]
    rw [e, List.length_cons, lnE, lnV, lnR, h1, h2, h3, if_pos rfl]
    exact ⟨i1, by rw [i2], i3⟩
theorem gl_put (l : LS) (s : ByteArray) (h : plE l = 0) : glE (plB l ++ s) = 0 ∧ glV (plB l ++ s) = l ∧ glR (plB l ++ s) = s := by
  have hlen : ¬ 100 < l.length := by
    intro h2
    unfold plE at h
    rw [if_pos h2] at h
    omega
  have hok : okL l = true := by
    unfold plE at h
    rw [if_neg hlen] at h
    cases h2 : okL l with
    | true => rfl
    | false => rw [h2] at h; simp at h
  have e : plB l ++ s = bytesF (BitVec.ofNat 64 l.length) ++ (joinB l ++ s) := by
    unfold plB
    rw [if_neg hlen, if_pos hok, ByteArray.append_assoc]
  obtain ⟨h1, h2, h3⟩ := dec_of (BitVec.ofNat 64 l.length) (plB l ++ s) ⟨(joinB l ++ s).data.toList, by rw [e, append_list (bytesF _), bytesF_list]⟩
  obtain ⟨-, hR, -⟩ := get_put (BitVec.ofNat 64 l.length) (joinB l ++ s)
  rw [← e] at hR
  have hn := nat_of l.length (by omega)
  obtain ⟨i1, i2, i3⟩ := ln_put l s hok
  have hE : glE (plB l ++ s) = 0 := by
    unfold glE
    rw [h3, h2, hR, hn, if_neg (by omega), if_neg (by omega), if_neg hlen]
    exact i1
  refine ⟨hE, ?_, ?_⟩
  · unfold glV
    rw [if_pos hE, h2, hR, hn]
    exact i2
  · unfold glR
    rw [if_pos hE, h2, hR, hn]
    exact i3
theorem ln_get : ∀ (k : Nat) (s : ByteArray), lnE k s = 0 → okL (lnV k s) = true ∧ joinB (lnV k s) ++ lnR k s = s
  | 0, s, _ => ⟨rfl, by rw [lnV, lnR, joinB_nil, nil_append]⟩
  | k + 1, s, h => by
    rw [lnE] at h
    by_cases ht : txtE s = 0
    · rw [if_pos ht] at h
      obtain ⟨h1, h2⟩ := txt_get s ht
      obtain ⟨i1, i2⟩ := ln_get k _ h
      rw [lnV, lnR]
      refine ⟨?_, ?_⟩
      · unfold okL at i1 ⊢
        rw [List.all_cons, i1, decide_eq_true h1]
        rfl
      · rw [joinB_cons, ByteArray.append_assoc, i2, h2]
    · rw [if_neg ht] at h
      exact absurd h ht
theorem lnV_length : ∀ k s, (lnV k s).length = k
  | 0, _ => rfl
  | k + 1, s => by rw [lnV, List.length_cons, lnV_length]
/-- What is read is what is put again. -/
theorem gl_get (s : ByteArray) (h : glE s = 0) : plE (glV s) = 0 ∧ plB (glV s) ++ glR s = s := by
  have hv : glV s = lnV (numV s).toNat (getR s) := by unfold glV; rw [if_pos h]
  have hr : glR s = lnR (numV s).toNat (getR s) := by unfold glR; rw [if_pos h]
  have h9 := h
  unfold glE at h9
  by_cases h1 : numE s = 20
  · rw [if_pos h1] at h9; omega
  rw [if_neg h1] at h9
  by_cases h2 : numE s = 21
  · rw [if_pos h2] at h9; omega
  rw [if_neg h2] at h9
  by_cases h3 : 100 < (numV s).toNat
  · rw [if_pos h3] at h9; omega
  rw [if_neg h3] at h9
  have h0 : numE s = 0 := by rcases numE_cases s with h | h | h <;> omega
  obtain ⟨i1, i2⟩ := ln_get _ _ h9
  have hl := lnV_length (numV s).toNat (getR s)
  have hg := put_get s h0
  have hn : getN s = numV s := by unfold getN; rw [if_pos h0]
  rw [hn] at hg
  rw [hv, hr]
  have e : BitVec.ofNat 64 (lnV (numV s).toNat (getR s)).length = numV s := by rw [hl]; exact BitVec.eq_of_toNat_eq (nat_of _ (by omega))
  refine ⟨?_, ?_⟩
  · unfold plE
    rw [if_neg (by omega), if_pos i1]
  · unfold plB
    rw [if_neg (by omega), if_pos i1, e, ByteArray.append_assoc, i2]
    exact hg
theorem plB_size (l : LS) : (plB l).size ≤ 409 * 100 + 9 := by
  unfold plB
  by_cases h1 : 100 < l.length
  · rw [if_pos h1]; exact Nat.zero_le _
  · rw [if_neg h1]
    by_cases h2 : okL l = true
    · rw [if_pos h2, ByteArray.size_append, joinB_size]
      have := joinL_len l h2
      have := bytesF_size (BitVec.ofNat 64 l.length)
      omega
    · rw [if_neg h2]; exact Nat.zero_le _

/-! fewer bytes -/
theorem prefix_of (s t r : ByteArray) (h : s.data.toList <+: (t ++ r).data.toList) : s.size < t.size ∧ s.data.toList <+: t.data.toList ∨ ∃ u : ByteArray, s = t ++ u ∧ u.data.toList <+: r.data.toList := by
  rw [append_list] at h
  by_cases hlt : s.size < t.size
  · exact .inl ⟨hlt, List.prefix_of_prefix_length_le h (List.prefix_append _ _) (by rw [← size_list, ← size_list]; omega)⟩
  · right
    obtain ⟨q, hq⟩ := List.prefix_of_prefix_length_le (List.prefix_append t.data.toList r.data.toList) h (by rw [← size_list, ← size_list]; omega)
    rw [← hq] at h
    refine ⟨⟨q.toArray⟩, ?_, ?_⟩
    · apply ba_ext
      rw [append_list, ← hq]
    · exact (List.prefix_append_right_inj _).1 h
theorem txt_less (t : ByteArray) (ht : t.size ≤ 400) (s : ByteArray) (h : s.data.toList <+: (textF t).data.toList) (hlt : s.size < (textF t).size) : txtE s = 20 := by
  have e : textF t = bytesF (BitVec.ofNat 64 t.size) ++ t := rfl
  rw [e] at h hlt
  have hbl : (bytesF (BitVec.ofNat 64 t.size)).size = (putF (BitVec.ofNat 64 t.size)).length := by rw [size_list, bytesF_list]
  rcases prefix_of s _ t h with ⟨h1, h2⟩ | ⟨u, rfl, h2⟩
  · have h3 := get_less (BitVec.ofNat 64 t.size) s (by rw [← bytesF_list]; exact h2) (by rw [← hbl]; exact h1)
    unfold txtE
    rw [if_pos h3]
  · obtain ⟨h1, h2', h3⟩ := get_put (BitVec.ofNat 64 t.size) u
    obtain ⟨i1, i2, i3⟩ := dec_of (BitVec.ofNat 64 t.size) (bytesF (BitVec.ofNat 64 t.size) ++ u) ⟨u.data.toList, by rw [append_list, bytesF_list]⟩
    have hn := nat_of t.size (by omega)
    rw [ByteArray.size_append, ByteArray.size_append] at hlt
    unfold txtE
    rw [h3, i2, h2', hn, if_neg (by omega), if_neg (by omega), if_neg (by omega), if_pos (by omega)]
theorem ln_less : ∀ (l : LS) (s : ByteArray), okL l = true → s.data.toList <+: (joinB l).data.toList → s.size < (joinB l).size → lnE l.length s = 20
  | [], s, _, _, h => by rw [joinB_nil] at h; exact absurd h (Nat.not_lt_zero _)
  | x :: l, s, h, hp, hlt => by
    obtain ⟨hx, hl⟩ := okL_cons h
    rw [joinB_cons] at hp hlt
    rw [List.length_cons, lnE]
    rcases prefix_of s _ _ hp with ⟨h1, h2⟩ | ⟨u, rfl, h2⟩
    · have := txt_less x hx s h2 h1
      rw [if_neg (by omega), this]
    · obtain ⟨h1, h2', h3⟩ := txt_put x u hx
      rw [if_pos h1, h3]
      rw [ByteArray.size_append, ByteArray.size_append] at hlt
      exact ln_less l u hl h2 (by omega)
theorem gl_less (l : LS) (h : plE l = 0) (s : ByteArray) (hp : s.data.toList <+: (plB l).data.toList) (hlt : s.size < (plB l).size) : glE s = 20 := by
  have hlen : ¬ 100 < l.length := by
    intro h2
    unfold plE at h
    rw [if_pos h2] at h
    omega
  have hok : okL l = true := by
    unfold plE at h
    rw [if_neg hlen] at h
    cases h2 : okL l with
    | true => rfl
    | false => rw [h2] at h; simp at h
  have e : plB l = bytesF (BitVec.ofNat 64 l.length) ++ joinB l := by
    unfold plB
    rw [if_neg hlen, if_pos hok]
  rw [e] at hp hlt
  have hbl : (bytesF (BitVec.ofNat 64 l.length)).size = (putF (BitVec.ofNat 64 l.length)).length := by rw [size_list, bytesF_list]
  rcases prefix_of s _ _ hp with ⟨h1, h2⟩ | ⟨u, rfl, h2⟩
  · have h3 := get_less (BitVec.ofNat 64 l.length) s (by rw [← bytesF_list]; exact h2) (by rw [← hbl]; exact h1)
    unfold glE
    rw [if_pos h3]
  · obtain ⟨h1, h2', h3⟩ := get_put (BitVec.ofNat 64 l.length) u
    obtain ⟨i1, i2, i3⟩ := dec_of (BitVec.ofNat 64 l.length) (bytesF (BitVec.ofNat 64 l.length) ++ u) ⟨u.data.toList, by rw [append_list, bytesF_list]⟩
    have hn := nat_of l.length (by omega)
    rw [ByteArray.size_append, ByteArray.size_append] at hlt
    unfold glE
    rw [h3, i2, h2', hn, if_neg (by omega), if_neg (by omega), if_neg hlen]
    exact ln_less l u hok h2 (by omega)
end Go.Proofs.YtbibnfchmffhaaaDoor
