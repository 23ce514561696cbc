/-
  A text's bytes in a block, some turned; what that makes of a token, plainly.
-/
import Derived.Test.YtpekedldoplmmaaDoorTokL
namespace Go.Proofs.YtpekedldoplmmaaDoor
open Go.RowKit Go.Shelf

theorem wrap_idx (N j p : Nat) (hj : j < 8) (h1 : 11 ≤ N) (h2 : N ≤ 35) (hp : N - 1 - j = p) : IntKind.i64.wrap ((N : Int) - 1) = (N : Int) - 1 ∧ IntKind.i64.wrap ((N : Int) - 1 - (j : Int)) = (p : Int) ∧ IntKind.i64.wrap (8 * (j : Int)) = 8 * (j : Int) ∧ IntKind.i64.wrap (p : Int) = (p : Int) := by
  rw [IntKind.wrap_i64, IntKind.wrap_i64, IntKind.wrap_i64, IntKind.wrap_i64]
  omega
/-- The block's first bytes are these. -/
def CB (w : World) (g : Nat) (l : List UInt8) : Prop := g < w.heap.size ∧ (∀ j (h : j < l.length), w.cell? ⟨g, j, none⟩ = some (.int .u8 (l[j].toNat : Int))) ∧ ∀ j, j < l.length → w.frozen? ⟨g, j, none⟩ = false
theorem conv_bytes (s : ByteArray) (w : World) : ∃ (W : World) (cap : Nat), (convert 9 31 (.string s)).run Tryd.prog w = .ok (.slice (some ⟨w.heap.size, 0, none⟩) s.size cap) W ∧ Below w.heap.size w W ∧ CB W w.heap.size s.data.toList ∧ s.size ≤ cap := by
  have hr := run_bytes_of_string (P := Tryd.prog) w 9 31 5 s Tryd.underlying9 Tryd.underlying31 Tryd.underlying5
  have hcap : s.size ≤ grownCap w s.size 0 5 := grownCap_ge ..
  generalize grownCap w s.size 0 5 = cap at *
  have hn : (w.drew.alloc (.cells (bytesRow s cap) 5 ((bytesRow s cap).size, (bytesRow s cap).size + 1))).heap[w.heap.size]? = some (.cells (bytesRow s cap) 5 ((bytesRow s cap).size, (bytesRow s cap).size + 1)) := new_at w.drew _ _ rfl
  refine ⟨_, cap, hr, (Below.refl _ w).drew.alloc (Nat.le_refl _) _, ⟨(Array.getElem?_eq_some_iff.1 hn).1, fun j hj => ?_, fun j hj => ?_⟩, hcap⟩
  · have hj2 : j < s.data.size := by simpa using hj
    simp only [World.cell?, hn]
    rw [bytesRow_at s cap j hj2]
    simp
  · have hj2 : j < s.data.size := by simpa using hj
    have hsz : s.data.size ≤ (bytesRow s cap).size := by simp [bytesRow]
    simp only [World.frozen?, hn]
    simp
    omega
theorem CB.set {w : World} {g : Nat} {l : List UInt8} (h : CB w g l) (k : Nat) (hk : k < l.length) (x : UInt8) : CB (w.setCell ⟨g, k, none⟩ (.int .u8 (x.toNat : Int))) g (l.set k x) := by
  obtain ⟨h1, h2, h3⟩ := h
  refine ⟨?_, fun j hj => ?_, fun j hj => ?_⟩
  · simpa using h1
  · have hj2 : j < l.length := by rw [List.length_set] at hj; exact hj
    by_cases e : j = k
    · subst e
      rw [World.cell?_setCell_same (h := h2 j hj2)]
      simp
    · have hne : (⟨g, k, none⟩ : Addr) ≠ ⟨g, j, none⟩ := by
        intro h
        injection h with _ h _
        exact e h.symm
      rw [World.cell?_setCell_other (h := hne), h2 j hj2]
      simp [Ne.symm e]
  · have hj2 : j < l.length := by rw [List.length_set] at hj; exact hj
    rw [World.frozen?_setCell]
    exact h3 j hj2
theorem CB.text {w : World} {g : Nat} {l : List UInt8} (h : CB w g l) (n cap : Nat) (hn : l.length = n) : (convert 31 9 (.slice (some ⟨g, 0, none⟩) n cap)).run Tryd.prog w = .ok (.string ⟨l.toArray⟩) w := by
  subst hn
  refine run_convert_bytes_back (P := Tryd.prog) w 31 9 5 ⟨g, 0, none⟩ cap l Tryd.underlying31 Tryd.underlying5 Tryd.underlying9 (fun j hj => ?_)
  have e : (⟨g, 0, none⟩ : Addr).add j = ⟨g, j, none⟩ := by
    unfold Addr.add
    by_cases h : j = 0 <;> simp [h]
  rw [e]
  exact h.2.1 j hj
/-- A byte of what is turned. -/
def byC (c : BitVec 64) (k : Nat) : UInt8 := UInt8.ofNat (c.toNat / 256 ^ k % 256)
/-- The last k bytes turned. -/
def turn (l : List UInt8) (c : BitVec 64) : Nat → List UInt8
  | 0 => l
  | k + 1 => (turn l c k).set (l.length - 1 - k) ((turn l c k).getD (l.length - 1 - k) 0 ^^^ byC c k)
theorem xor_val (x : UInt8) (c : BitVec 64) (j : Nat) : bits .xor .u8 (x.toNat : Int) (IntKind.u8.wrap (U c / 2 ^ (8 * (j : Int)).toNat)) = ((x ^^^ byC c j).toNat : Int) := by
  have e : IntKind.u8.wrap (U c / 2 ^ (8 * (j : Int)).toNat) = ((byC c j).toNat : Int) := by
    rw [IntKind.wrap_u8]
    have e1 : (8 * (j : Int)).toNat = 8 * j := by omega
    rw [e1]
    unfold byC U
    have e2 : (256 : Nat) ^ j = 2 ^ (8 * j) := by rw [show (256 : Nat) = 2 ^ 8 by decide, ← Nat.pow_mul]
    rw [e2, UInt8.toNat_ofNat']
    rw [Nat.mod_eq_of_lt (show c.toNat / 2 ^ (8 * j) % 256 < 2 ^ 8 from Nat.mod_lt _ (by decide))]
    have e4 : (2 : Int) ^ (8 * j) = ((2 ^ (8 * j) : Nat) : Int) := by simp
    rw [e4]
    generalize 2 ^ (8 * j) = m
    rw [Int.natCast_emod, Int.natCast_ediv]
    rfl
  rw [e]
  have hx := x.toNat_lt
  have hy := (byC c j).toNat_lt
  generalize byC c j = y at *
  have ha : x.toNat % 2 ^ IntKind.u8.bits = x.toNat := Nat.mod_eq_of_lt hx
  have hb : y.toNat % 2 ^ IntKind.u8.bits = y.toNat := Nat.mod_eq_of_lt hy
  simp only [bits, BitVec.ofInt_natCast, BitVec.toNat_xor, BitVec.toNat_ofNat, ha, hb]
  have hz : x.toNat ^^^ y.toNat < 2 ^ 8 := Nat.xor_lt_two_pow hx hy
  rw [UInt8.toNat_xor]
  exact wraps_u8 _ (Int.natCast_nonneg _) (by omega)
theorem turn_len (l : List UInt8) (c : BitVec 64) : ∀ k, (turn l c k).length = l.length
  | 0 => rfl
  | k + 1 => by rw [turn, List.length_set, turn_len l c k]
theorem turn_low (l : List UInt8) (c : BitVec 64) : ∀ k, k ≤ l.length → ∀ j, j + k < l.length → (turn l c k)[j]? = l[j]?
  | 0, _, j, _ => rfl
  | k + 1, hk, j, hj => by
    rw [turn, List.getElem?_set, if_neg (by omega)]
    exact turn_low l c k (by omega) j (by omega)
theorem turn_high (l : List UInt8) (c : BitVec 64) : ∀ k, k ≤ l.length → ∀ i, i < k → (turn l c k)[l.length - 1 - i]? = (l[l.length - 1 - i]?).map (· ^^^ byC c i)
  | 0, _, i, h => absurd h (by omega)
  | k + 1, hk, i, hi => by
    rw [turn, List.getElem?_set]
    by_cases e : i = k
    · subst e
      have hlt : l.length - 1 - i < l.length := by omega
      rw [if_pos rfl, turn_len, if_pos hlt, List.getD_eq_getElem?_getD, turn_low l c i (by omega) _ (by omega), List.getElem?_eq_getElem hlt]
      rfl
    · rw [if_neg (by omega)]
      exact turn_high l c k (by omega) i (by omega)
theorem byC_zero {c : BitVec 64} (h : ∀ k, k < 8 → byC c k = 0) : c = 0#64 := by
  have hd : ∀ k, k < 8 → c.toNat / 256 ^ k % 256 = 0 := by
    intro k hk
    have h1 := congrArg UInt8.toNat (h k hk)
    unfold byC at h1
    simpa using h1
  have h0 := hd 0 (by omega)
  have h1 := hd 1 (by omega)
  have h2 := hd 2 (by omega)
  have h3 := hd 3 (by omega)
  have h4 := hd 4 (by omega)
  have h5 := hd 5 (by omega)
  have h6 := hd 6 (by omega)
  have h7 := hd 7 (by omega)
  have hl := c.isLt
  apply BitVec.eq_of_toNat_eq
  simp only [Nat.reducePow, Nat.div_one] at h0 h1 h2 h3 h4 h5 h6 h7
  show c.toNat = 0
  omega
theorem turn_split (B E : List UInt8) (c : BitVec 64) (hE : E.length = 8) (hc : c ≠ 0#64) : ∃ E', turn (B ++ E) c 8 = B ++ E' ∧ E'.length = 8 ∧ E' ≠ E := by
  have hl := turn_len (B ++ E) c 8
  refine ⟨(turn (B ++ E) c 8).drop B.length, ?_, ?_, ?_⟩
  · conv => lhs; rw [← List.take_append_drop B.length (turn (B ++ E) c 8)]
    congr 1
    apply List.ext_getElem?
    intro j
    by_cases hj : j < B.length
    · rw [List.getElem?_take, if_pos hj, turn_low _ _ _ (by simp; omega) _ (by simp; omega), List.getElem?_append_left hj]
    · rw [List.getElem?_take, if_neg hj, List.getElem?_eq_none (by omega)]
  · rw [List.length_drop, hl]; simp; omega
  · intro he
    apply hc
    apply byC_zero
    intro k hk
    have h1 := turn_high (B ++ E) c 8 (by simp; omega) k hk
    have h2 : (turn (B ++ E) c 8)[(B ++ E).length - 1 - k]? = (B ++ E)[(B ++ E).length - 1 - k]? := by
      have hlen : (B ++ E).length - 1 - k = B.length + (7 - k) := by simp; omega
      have h3 := congrArg (fun l : List UInt8 => l[7 - k]?) he
      simp only [List.getElem?_drop] at h3
      rw [hlen, h3, List.getElem?_append_right (by omega)]
      congr 1
      omega
    rw [h2] at h1
    have hlt : (B ++ E).length - 1 - k < (B ++ E).length := by simp; omega
    rw [List.getElem?_eq_getElem hlt] at h1
    simp only [Option.map_some, Option.some.injEq] at h1
    generalize (B ++ E)[(B ++ E).length - 1 - k] = x at h1
    have h4 : x ^^^ x = x ^^^ (x ^^^ byC c k) := by rw [← h1]
    rw [← UInt8.xor_assoc, UInt8.xor_self, UInt8.zero_xor] at h4
    exact h4.symm
/-- A token whose last eight bytes are turned has a claim still, and another sum. -/
theorem turned_bad (a b t r u c : BitVec 64) (hc : c ≠ 0#64) (now : BitVec 64) : ckE a b ⟨(turn (tokT a b t r u).data.toList c 8).toArray⟩ now = 170 := by
  have hT : (tokT a b t r u).data.toList = (bodyT t r u).data.toList ++ (eight (sumT a b (bodyT t r u))).data.toList := by unfold tokT; rw [append_list]
  have hE : (eight (sumT a b (bodyT t r u))).data.toList.length = 8 := by rw [← size_list, eight_size]
  obtain ⟨E', h1, h2, h3⟩ := turn_split (bodyT t r u).data.toList _ c hE hc
  rw [hT, h1]
  have hx : (⟨((bodyT t r u).data.toList ++ E').toArray⟩ : ByteArray) = bodyT t r u ++ ⟨E'.toArray⟩ := by
    apply ba_ext
    rw [append_list]
  rw [hx]
  have he : (⟨E'.toArray⟩ : ByteArray).size = 8 := by rw [size_list]; exact h2
  obtain ⟨-, -, -, p4⟩ := tok_rest t r u ⟨E'.toArray⟩
  apply ck_sum
  unfold sumB
  rw [decide_eq_false_iff_not, p4]
  have hb : (bodyT t r u ++ (⟨E'.toArray⟩ : ByteArray)).extract 0 ((bodyT t r u ++ (⟨E'.toArray⟩ : ByteArray)).size - 8) = bodyT t r u := by
    rw [ByteArray.size_append, he, Nat.add_sub_cancel, extract_left]
  rw [hb]
  intro hs
  apply h3
  have h5 := congrArg (fun x : ByteArray => x.data.toList) (eight_take ⟨E'.toArray⟩ he)
  rw [← hs] at h5
  simpa using h5.symm
/-- Nor is a token with a byte more, or less. -/
theorem more_bad (a b t r u now : BitVec 64) (x : UInt8) : ckE a b (tokT a b t r u ++ ⟨#[x]⟩) now = 170 := by
  unfold tokT
  rw [ByteArray.append_assoc]
  apply ck_none
  apply cl_short
  rw [ByteArray.size_append, eight_size]
  show 8 + 1 ≠ 8
  omega
theorem less_bad (a b t r u now : BitVec 64) : ckE a b ((tokT a b t r u).extract 0 ((tokT a b t r u).size - 1)) now = 170 := by
  have h : (tokT a b t r u).extract 0 ((tokT a b t r u).size - 1) = bodyT t r u ++ (eight (sumT a b (bodyT t r u))).extract 0 7 := by
    have h8 := eight_size (sumT a b (bodyT t r u))
    unfold tokT
    generalize eight (sumT a b (bodyT t r u)) = E at *
    generalize bodyT t r u = B at *
    rw [ByteArray.size_append, h8]
    apply ba_ext
    rw [append_list]
    simp only [ByteArray.data_extract, Array.toList_extract, ByteArray.data_append, Array.toList_append, List.extract_eq_take_drop, List.drop_zero, Nat.sub_zero]
    have hB : B.size = B.data.toList.length := size_list B
    rw [List.take_append, List.take_of_length_le (by omega)]
    congr 2
    omega
  rw [h]
  apply ck_none
  apply cl_short
  rw [ByteArray.size_extract, eight_size]
  omega
end Go.Proofs.YtpekedldoplmmaaDoor
