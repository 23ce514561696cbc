/-
  Check, in one contract; what a token's check tells, plainly; the statement's cut.
-/
import Derived.Test.YtpekedldoplmmaaDoorTokI
import Derived.Test.YtpekedldoplmmaaDoorTokJ
namespace Go.Proofs.YtpekedldoplmmaaDoor
open Go.RowKit Go.Shelf

/-- What Check tells. -/
def ckE (a b : BitVec 64) (s : ByteArray) (now : BitVec 64) : Int := if clB s = true ∧ sumB a b s = true then (if now.toNat ≤ (clU s).toNat then 0 else 171) else 170
def kT (a b : BitVec 64) (s : ByteArray) (now : BitVec 64) : BitVec 64 := if ckE a b s now = 0 then clT s else 0#64
def kR (a b : BitVec 64) (s : ByteArray) (now : BitVec 64) : BitVec 64 := if ckE a b s now = 0 then clR s else 0#64
def kU (a b : BitVec 64) (s : ByteArray) (now : BitVec 64) : BitVec 64 := if ckE a b s now = 0 then clU s else 0#64
theorem ck_ok {a b : BitVec 64} {s : ByteArray} {now : BitVec 64} (h1 : clB s = true) (h2 : sumB a b s = true) (h3 : now.toNat ≤ (clU s).toNat) : ckE a b s now = 0 ∧ kT a b s now = clT s ∧ kR a b s now = clR s ∧ kU a b s now = clU s := by
  have e : ckE a b s now = 0 := by unfold ckE; rw [if_pos ⟨h1, h2⟩, if_pos h3]
  unfold kT kR kU
  rw [if_pos e, if_pos e, if_pos e]
  exact ⟨e, rfl, rfl, rfl⟩
theorem ck_bad {a b : BitVec 64} {s : ByteArray} {now : BitVec 64} (h : ckE a b s now ≠ 0) : kT a b s now = 0#64 ∧ kR a b s now = 0#64 ∧ kU a b s now = 0#64 := by
  unfold kT kR kU
  rw [if_neg h, if_neg h, if_neg h]
  exact ⟨rfl, rfl, rfl⟩
theorem ck_stale {a b : BitVec 64} {s : ByteArray} {now : BitVec 64} (h1 : clB s = true) (h2 : sumB a b s = true) (h3 : (clU s).toNat < now.toNat) : ckE a b s now = 171 := by
  unfold ckE; rw [if_pos ⟨h1, h2⟩, if_neg (by omega)]
theorem ck_none {a b : BitVec 64} {s : ByteArray} {now : BitVec 64} (h1 : clB s = false) : ckE a b s now = 170 := by
  unfold ckE; rw [if_neg (by rw [h1]; simp)]
theorem ck_sum {a b : BitVec 64} {s : ByteArray} {now : BitVec 64} (h1 : sumB a b s = false) : ckE a b s now = 170 := by
  unfold ckE; rw [if_neg (by rw [h1]; simp)]
theorem U_0 : U 0#64 = 0 := by decide +kernel
theorem Check_any (a0 b0 : Addr) (a b : BitVec 64) (s : ByteArray) (hs : s.size ≤ 9223372036854775807) (now : BitVec 64) (B : Nat) (w : World) (hS : Sent a0 b0 B w) :
    Calls Tryd.prog 11 #[.agg #[.int .u64 (U a), .int .u64 (U b)], .string s, .int .u64 (U now)] w fun e w' => e = .returned (.tuple #[.agg #[.int .u64 (U (kT a b s now)), .int .i64 (U (kR a b s now)), .int .u64 (U (kU a b s now))], .int .i64 (ckE a b s now)]) ∧ Below w.heap.size w w' := by
  cases h1 : clB s with
  | false =>
    have e := ck_none (a := a) (b := b) (now := now) h1
    obtain ⟨e1, e2, e3⟩ := ck_bad (a := a) (b := b) (s := s) (now := now) (by omega)
    rw [e, e1, e2, e3, U_0]
    exact Check_no a0 b0 a b s hs now h1 B w hS
  | true =>
    cases h2 : sumB a b s with
    | false =>
      have e := ck_sum (a := a) (b := b) (now := now) h2
      obtain ⟨e1, e2, e3⟩ := ck_bad (a := a) (b := b) (s := s) (now := now) (by omega)
      rw [e, e1, e2, e3, U_0]
      exact Check_sum a0 b0 a b s hs now h1 h2 B w hS
    | true =>
      by_cases h3 : now.toNat ≤ (clU s).toNat
      · obtain ⟨e, e1, e2, e3⟩ := ck_ok h1 h2 h3
        rw [e, e1, e2, e3]
        exact Check_ok a0 b0 a b s hs now h1 h2 h3 B w hS
      · have e := ck_stale h1 h2 (show (clU s).toNat < now.toNat by omega)
        obtain ⟨e1, e2, e3⟩ := ck_bad (a := a) (b := b) (s := s) (now := now) (by omega)
        rw [e, e1, e2, e3, U_0]
        exact Check_stale a0 b0 a b s hs now h1 h2 (by omega) B w hS
theorem refCheck_any (a b : BitVec 64) (s : ByteArray) (hs : s.size ≤ 9223372036854775807) (now : BitVec 64) (w : World) :
    Calls Tryd.prog 15 #[.agg #[.int .u64 (U a), .int .u64 (U b)], .string s, .int .u64 (U now)] w fun e w' => e = .returned (.tuple #[.agg #[.int .u64 (U (kT a b s now)), .int .i64 (U (kR a b s now)), .int .u64 (U (kU a b s now))], .int .i64 (ckE a b s now)]) ∧ Below w.heap.size w w' := by
  cases h1 : clB s with
  | false =>
    have e := ck_none (a := a) (b := b) (now := now) h1
    obtain ⟨e1, e2, e3⟩ := ck_bad (a := a) (b := b) (s := s) (now := now) (by omega)
    rw [e, e1, e2, e3, U_0]
    exact refCheck_no a b s hs now h1 w
  | true =>
    cases h2 : sumB a b s with
    | false =>
      have e := ck_sum (a := a) (b := b) (now := now) h2
      obtain ⟨e1, e2, e3⟩ := ck_bad (a := a) (b := b) (s := s) (now := now) (by omega)
      rw [e, e1, e2, e3, U_0]
      exact refCheck_sum a b s hs now h1 h2 w
    | true =>
      by_cases h3 : now.toNat ≤ (clU s).toNat
      · obtain ⟨e, e1, e2, e3⟩ := ck_ok h1 h2 h3
        rw [e, e1, e2, e3]
        exact refCheck_ok a b s hs now h1 h2 h3 w
      · have e := ck_stale h1 h2 (show (clU s).toNat < now.toNat by omega)
        obtain ⟨e1, e2, e3⟩ := ck_bad (a := a) (b := b) (s := s) (now := now) (by omega)
        rw [e, e1, e2, e3, U_0]
        exact refCheck_stale a b s hs now h1 h2 (by omega) w

/-- What a claim's bytes and whatever is behind them parse to. -/
theorem tok_rest (t r u : BitVec 64) (e : ByteArray) : clT (bodyT t r u ++ e) = t ∧ clR (bodyT t r u ++ e) = r ∧ clU (bodyT t r u ++ e) = u ∧ clE (bodyT t r u ++ e) = e := by
  have hx : bodyT t r u ++ e = bytesF t ++ (bytesF r ++ (bytesF u ++ e)) := by unfold bodyT; rw [ByteArray.append_assoc, ByteArray.append_assoc]
  obtain ⟨a1, a2, a3⟩ := get_put t (bytesF r ++ (bytesF u ++ e))
  obtain ⟨b1, b2, b3⟩ := get_put r (bytesF u ++ e)
  obtain ⟨c1, c2, c3⟩ := get_put u e
  exact ⟨by unfold clT; rw [hx, a1], by unfold clR; rw [hx, a2, b1], by unfold clU; rw [hx, a2, b2, c1], by unfold clE; rw [hx, a2, b2, c2]⟩
theorem cl_short {t r u : BitVec 64} {e : ByteArray} (h : e.size ≠ 8) : clB (bodyT t r u ++ e) = false := by
  cases hc : clB (bodyT t r u ++ e) with
  | false => rfl
  | true =>
    obtain ⟨-, -, -, -, -, h5⟩ := clB_true hc
    rw [(tok_rest t r u e).2.2.2] at h5
    exact absurd h5 h
/-- A claim's token is one. -/
theorem tok_good (a b t r u : BitVec 64) (h1 : 1 ≤ r.toNat) (h2 : r.toNat ≤ 3) : clB (tokT a b t r u) = true ∧ clT (tokT a b t r u) = t ∧ clR (tokT a b t r u) = r ∧ clU (tokT a b t r u) = u ∧ sumB a b (tokT a b t r u) = true := by
  have h := tok_claim t r u h1 h2 (eight (sumT a b (bodyT t r u))) (eight_size _)
  obtain ⟨c0, c1, c2, c3, -⟩ := h
  have c0' : clB (tokT a b t r u) = true := c0
  have c1' : clT (tokT a b t r u) = t := c1
  have c2' : clR (tokT a b t r u) = r := c2
  have c3' : clU (tokT a b t r u) = u := c3
  refine ⟨c0', c1', c2', c3', ?_⟩
  rw [← tok_iff a b c0', c1', c2', c3']
theorem tok_check (a b t r u now : BitVec 64) (h1 : 1 ≤ r.toNat) (h2 : r.toNat ≤ 3) : if now.toNat ≤ u.toNat then (ckE a b (tokT a b t r u) now = 0 ∧ kT a b (tokT a b t r u) now = t ∧ kR a b (tokT a b t r u) now = r ∧ kU a b (tokT a b t r u) now = u) else (ckE a b (tokT a b t r u) now = 171 ∧ kT a b (tokT a b t r u) now = 0#64 ∧ kR a b (tokT a b t r u) now = 0#64 ∧ kU a b (tokT a b t r u) now = 0#64) := by
  obtain ⟨c0, c1, c2, c3, c4⟩ := tok_good a b t r u h1 h2
  by_cases h : now.toNat ≤ u.toNat
  · rw [if_pos h]
    have k := ck_ok (a := a) (b := b) (now := now) c0 c4 (by rw [c3]; exact h)
    rw [c1, c2, c3] at k
    exact k
  · rw [if_neg h]
    have k := ck_stale (a := a) (b := b) (now := now) c0 c4 (by rw [c3]; omega)
    exact ⟨k, ck_bad (by omega)⟩
theorem tok_body (a b t r u : BitVec 64) (h1 : 1 ≤ r.toNat) (h2 : r.toNat ≤ 3) : bT (tokT a b t r u) = t ∧ bR (tokT a b t r u) = r ∧ bU (tokT a b t r u) = u := by
  obtain ⟨c0, c1, c2, c3, -⟩ := tok_good a b t r u h1 h2
  unfold bT bR bU
  rw [if_pos c0, if_pos c0, if_pos c0]
  exact ⟨c1, c2, c3⟩
/-- What is checked is what would be minted. -/
theorem ck_mint {a b : BitVec 64} {s : ByteArray} {now : BitVec 64} (h : ckE a b s now = 0) : minE (U (kR a b s now)) = 0 ∧ minB a b (kT a b s now) (roleU (U (kR a b s now))) (kU a b s now) (U (kR a b s now)) = s := by
  have h1 : clB s = true ∧ sumB a b s = true := by
    apply Classical.byContradiction
    intro hn
    unfold ckE at h
    rw [if_neg hn] at h
    omega
  obtain ⟨-, -, -, r1, r3, -⟩ := clB_true h1.1
  unfold kT kR kU
  rw [if_pos h, if_pos h, if_pos h]
  have hU : U (clR s) = ((clR s).toNat : Int) := rfl
  unfold minE minB
  rw [if_pos (by omega), if_pos (by omega), roleU_U]
  exact ⟨rfl, (tok_iff a b h1.1).2 h1.2⟩
theorem minE_cases (role : Int) : (1 ≤ role ∧ role ≤ 3 ∧ minE role = 0) ∨ (¬ (1 ≤ role ∧ role ≤ 3) ∧ minE role = 170) := by
  unfold minE
  by_cases h : 1 ≤ role ∧ role ≤ 3
  · rw [if_pos h]; exact .inl ⟨h.1, h.2, rfl⟩
  · rw [if_neg h]; exact .inr ⟨h, rfl⟩
theorem minB_ok (a b t u : BitVec 64) {role : Int} (h1 : 1 ≤ role) (h2 : role ≤ 3) : minB a b t (roleU role) u role = tokT a b t (roleU role) u := by unfold minB; rw [if_pos ⟨h1, h2⟩]
theorem minB_no (a b t u : BitVec 64) {role : Int} (h : ¬ (1 ≤ role ∧ role ≤ 3)) : minB a b t (roleU role) u role = ⟨#[]⟩ := by unfold minB; rw [if_neg h]
theorem roleU_nat {role : Int} (h1 : 1 ≤ role) (h2 : role ≤ 3) : 1 ≤ (roleU role).toNat ∧ (roleU role).toNat ≤ 3 := by
  have h := roleU_of h1 h2
  have h3 : U (roleU role) = ((roleU role).toNat : Int) := rfl
  omega
theorem tokT_size (a b t r u : BitVec 64) : 11 ≤ (tokT a b t r u).size ∧ (tokT a b t r u).size ≤ 35 := by
  unfold tokT
  rw [ByteArray.size_append, eight_size]
  have := bodyT_size t r u
  omega
/-- Tokens of a key that are alike are of one claim. -/
theorem tok_inj {a b t r u t' r' u' : BitVec 64} (h : tokT a b t r u = tokT a b t' r' u') : t = t' ∧ r = r' ∧ u = u' := by
  have h1 := tok_rest t r u (eight (sumT a b (bodyT t r u)))
  have h2 := tok_rest t' r' u' (eight (sumT a b (bodyT t' r' u')))
  unfold tokT at h
  rw [h, h2.1, h2.2.1, h2.2.2.1] at h1
  exact ⟨h1.1.symm, h1.2.1.symm, h1.2.2.1.symm⟩

/-- The first hundred bytes. -/
def cutH (s : ByteArray) : ByteArray := s.extract 0 (min s.size 100)
theorem cutH_size (s : ByteArray) : (cutH s).size ≤ 100 := by unfold cutH; rw [ByteArray.size_extract]; omega
set_option maxRecDepth 100000 in
theorem cut_any (s : ByteArray) (hs : s.size ≤ 9223372036854775807) (w : World) : Calls Tryd.prog 14 #[.string s] w fun e w' => e = .returned (.string (cutH s)) ∧ w' = w := by
  by_cases h : 100 < s.size
  · have h1 : (100 : Int) < (s.size : Int) := by omega
    have HE : Hid (s.extract 0 100 = cutH s) := Lib.hid (by unfold cutH; rw [Nat.min_eq_right (by omega)])
    go_enter Tryd.func14, Tryd.ntmps14
    go_wp2_with fail
    go_ret
    exact ⟨ret_str HE.out, rfl⟩
  · have h1 : ¬ (100 : Int) < (s.size : Int) := by omega
    have HE : Hid (s = cutH s) := Lib.hid (by unfold cutH; rw [Nat.min_eq_left (by omega), ByteArray.extract_zero_size])
    go_enter Tryd.func14, Tryd.ntmps14
    go_wp2_with fail
    go_ret
    exact ⟨ret_str HE.out, rfl⟩
end Go.Proofs.YtpekedldoplmmaaDoor
