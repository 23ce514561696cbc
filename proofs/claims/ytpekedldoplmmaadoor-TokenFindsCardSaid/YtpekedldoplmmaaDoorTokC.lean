/-
  A claim's token: Mint of package token and of the reference.
-/
import Derived.Test.YtpekedldoplmmaaDoorTokB
import Derived.Test.YtpekedldoplmmaaDoorChildG
import Derived.Test.YtpekedldoplmmaaDoorRefChildG
namespace Go.Proofs.YtpekedldoplmmaaDoor
open Go.RowKit Go.Shelf

/-- The text 'token'. -/
def tokS : ByteArray := ⟨#[116, 111, 107, 101, 110]⟩
/-- A claim's body. -/
def bodyT (t r u : BitVec 64) : ByteArray := bytesF t ++ bytesF r ++ bytesF u
/-- The sum of a text with the key's child. -/
def keyA (a b : BitVec 64) : BitVec 64 := sumF a b (⟨#[0]⟩ ++ tokS)
def keyB (a b : BitVec 64) : BitVec 64 := sumF a b (⟨#[1]⟩ ++ tokS)
def sumT (a b : BitVec 64) (s : ByteArray) : BitVec 64 := sumF (keyA a b) (keyB a b) s
theorem tchild_any (a b : BitVec 64) (w : World) : Calls Tryd.prog 25 #[.agg #[.int .u64 (U a), .int .u64 (U b)], .string ⟨#[116, 111, 107, 101, 110]⟩] w fun e w' => e = .returned (.agg #[.int .u64 (U (keyA a b)), .int .u64 (U (keyB a b))]) ∧ Below w.heap.size w w' :=
  child_any a b tokS (by decide) w
theorem trefChild_any (a b : BitVec 64) (w : World) : Calls Tryd.prog 30 #[.agg #[.int .u64 (U a), .int .u64 (U b)], .string ⟨#[116, 111, 107, 101, 110]⟩] w fun e w' => e = .returned (.agg #[.int .u64 (U (keyA a b)), .int .u64 (U (keyB a b))]) ∧ Below w.heap.size w w' :=
  refChild_any a b tokS (by decide) w
theorem tsip_any (a b : BitVec 64) (s : ByteArray) (hs : s.size ≤ 9223372036854775807) (w : World) : Calls Tryd.prog 24 #[.agg #[.int .u64 (U (keyA a b)), .int .u64 (U (keyB a b))], .string s] w fun e w' => e = .returned (.int .u64 (U (sumT a b s))) ∧ Below w.heap.size w w' :=
  sum_any _ _ s hs w
theorem trefSip_any (a b : BitVec 64) (s : ByteArray) (hs : s.size ≤ 65535) (w : World) : Calls Tryd.prog 29 #[.agg #[.int .u64 (U (keyA a b)), .int .u64 (U (keyB a b))], .string s] w fun e w' => e = .returned (.int .u64 (U (sumT a b s))) ∧ Below w.heap.size w w' :=
  refSum_any _ _ s hs w
/-- The eight bytes of a number. -/
def eight (n : BitVec 64) : ByteArray := ⟨(beGo n 8).toArray⟩
/-- A claim's token. -/
def tokT (a b t r u : BitVec 64) : ByteArray := bodyT t r u ++ eight (sumT a b (bodyT t r u))
theorem bodyT_size (t r u : BitVec 64) : 3 ≤ (bodyT t r u).size ∧ (bodyT t r u).size ≤ 27 := by
  unfold bodyT
  rw [ByteArray.size_append, ByteArray.size_append]
  have := bytesF_size t
  have := bytesF_size r
  have := bytesF_size u
  omega
theorem eight_size (n : BitVec 64) : (eight n).size = 8 := by simp [eight, ByteArray.size, beGo_length]
theorem nilB (s : ByteArray) : (⟨#[]⟩ : ByteArray) ++ s = s := by
  apply ba_ext
  rw [append_list]
  rfl
theorem catN_three (t r u : BitVec 64) : catN [t, r, u] = bodyT t r u := by
  unfold catN bodyT
  simp only [List.foldl_cons, List.foldl_nil]
  rw [nilB]
/-- What Mint tells. -/
def minB (a b t r u : BitVec 64) (role : Int) : ByteArray := if 1 ≤ role ∧ role ≤ 3 then tokT a b t r u else ⟨#[]⟩
def minE (role : Int) : Int := if 1 ≤ role ∧ role ≤ 3 then 0 else 170
/-- The role as a number. -/
def roleU (role : Int) : BitVec 64 := BitVec.ofInt 64 role
theorem roleU_of {role : Int} (h1 : 1 ≤ role) (h2 : role ≤ 3) : U (roleU role) = role := by
  unfold U roleU
  rw [BitVec.toNat_ofInt]
  omega

set_option maxRecDepth 100000 in
set_option maxHeartbeats 4000000 in
theorem Collect_any (m : BitVec 64) (bn : Nat) (w : World) (hbn : Boxed w bn 22 (.int .u64 (U m))) :
    Calls Tryd.prog 22 #[.func (.func 35) #[] #[.pointer (some ⟨bn, 0, none⟩)]] w fun e w' => (∃ v : Value, e = .returned v ∧ OwnB w' w.heap.size v (beGo m 8)) ∧ Below w.heap.size w w' := by
  go_enter Tryd.func22, Tryd.ntmps22
  go_wp2_with fail
  with_reducible refine (appendSeq_any m bn _ hbn).mono ?_
  rintro e w1 ⟨⟨v, rfl, hown⟩, hB1⟩
  have HO := Lib.hid hown
  clear hown
  go_wp2_with fail
  go_ret
  exact ⟨⟨v, rfl, HO.out⟩, hB1⟩

set_option maxRecDepth 100000 in
set_option maxHeartbeats 4000000 in
theorem Mint_any (a b t u : BitVec 64) (role : Int) (w : World) :
    Calls Tryd.prog 10 #[.agg #[.int .u64 (U a), .int .u64 (U b)], .agg #[.int .u64 (U t), .int .i64 role, .int .u64 (U u)]] w fun e w' => e = .returned (.tuple #[.string (minB a b t (roleU role) u role), .int .i64 (minE role)]) ∧ Below w.heap.size w w' := by
  have HR := Lib.hid (fun W => isRole_any role W)
  by_cases h : 1 ≤ role ∧ role ≤ 3
  · have e1 : minB a b t (roleU role) u role = tokT a b t (roleU role) u := by unfold minB; rw [if_pos h]
    have e2 : minE role = 0 := by unfold minE; rw [if_pos h]
    rw [e1, e2]
    have hrb : roleB role = true := decide_eq_true h
    rw [hrb] at HR
    have hru := roleU_of h.1 h.2
    have h1 := h.1
    have h2 := h.2
    have hbs := bodyT_size t (roleU role) u
    have hes := eight_size (sumT a b (bodyT t (roleU role) u))
    have HCh := Lib.hid (fun W => tchild_any a b W)
    have HSm := Lib.hid (fun W => tsip_any a b (bodyT t (roleU role) u) (by omega) W)
    have hcat := catN_three t (roleU role) u
    have HT : Hid (tokT a b t (roleU role) u = bodyT t (roleU role) u ++ eight (sumT a b (bodyT t (roleU role) u))) := Lib.hid rfl
    have HPut := Lib.hid (fun (A : Option Addr) (c : Nat) W hA => tput_any A c [t, roleU role, u] 3 rfl (by decide) W hA)
    rw [hcat] at HPut
    generalize keyA a b = ca at *
    generalize keyB a b = cb at *
    generalize bodyT t (roleU role) u = B at *
    generalize sumT a b B = sm at *
    have HEi : Hid ((⟨(beGo sm 8).toArray⟩ : ByteArray) = eight sm) := Lib.hid rfl
    generalize roleU role = R at *
    subst hru
    clear h e1 e2 hcat hrb
    go_enter Tryd.func10, Tryd.ntmps10
    go_wp2_with fail
    with_reducible refine (HR.out _).mono ?_
    rintro e w1 ⟨rfl, rfl⟩
    go_wp2_with fail
    have hrow : (((w.alloc (.cells #[.int .u64 (U a), .int .u64 (U b)] 24)).alloc (.cells #[.int .u64 (U t), .int .i64 (U R), .int .u64 (U u)] 26)).alloc (.cells #[.int .u64 (U t), .int .u64 (U R), .int .u64 (U u)] 22)).heap[w.heap.size + 1 + 1]? = some (.cells ([t, R, u].map enc64).toArray 22 (0, 0)) := new_at _ _ _ (by simp)
    have hkey : (((w.alloc (.cells #[.int .u64 (U a), .int .u64 (U b)] 24)).alloc (.cells #[.int .u64 (U t), .int .i64 (U R), .int .u64 (U u)] 26)).alloc (.cells #[.int .u64 (U t), .int .u64 (U R), .int .u64 (U u)] 22)).heap[w.heap.size]? = some (.cells #[.int .u64 (U a), .int .u64 (U b)] 24 (0, 0)) := old_at (old_at (new_at _ _ _ rfl))
    have hBel : Below w.heap.size w (((w.alloc (.cells #[.int .u64 (U a), .int .u64 (U b)] 24)).alloc (.cells #[.int .u64 (U t), .int .i64 (U R), .int .u64 (U u)] 26)).alloc (.cells #[.int .u64 (U t), .int .u64 (U R), .int .u64 (U u)] 22)) := (((Below.refl _ w).alloc (Nat.le_refl _) _).alloc (by simp) _).alloc (by simp; omega) _
    have hlt3 : w.heap.size + 1 + 1 < (((w.alloc (.cells #[.int .u64 (U a), .int .u64 (U b)] 24)).alloc (.cells #[.int .u64 (U t), .int .i64 (U R), .int .u64 (U u)] 26)).alloc (.cells #[.int .u64 (U t), .int .u64 (U R), .int .u64 (U u)] 22)).heap.size := by simp
    generalize (((w.alloc (.cells #[.int .u64 (U a), .int .u64 (U b)] 24)).alloc (.cells #[.int .u64 (U t), .int .i64 (U R), .int .u64 (U u)] 26)).alloc (.cells #[.int .u64 (U t), .int .u64 (U R), .int .u64 (U u)] 22)) = w2 at *
    have hA3 : At w2 w2.heap.size (some ⟨w.heap.size + 1 + 1, 0, none⟩) [t, R, u] := Row.at_ hrow hlt3
    have HB2 := Lib.hid hBel
    have HK2 := Lib.hid hkey
    clear hrow hkey hBel hlt3
    with_reducible refine (HPut.out _ _ _ hA3).mono ?_
    rintro e w3 ⟨rfl, hB3⟩
    have hk3 := (hB3.block _ (Array.getElem?_eq_some_iff.1 HK2.out).1).trans HK2.out
    have HB3 := Lib.hid (HB2.out.trans (hB3.mono HB2.out.size))
    have c0 := cell_at hk3 0
    have c1 := cell_at hk3 1
    clear hB3 hA3 hk3
    go_wp2_with fail
    with_reducible refine (HCh.out _).mono ?_
    rintro e w4 ⟨rfl, hB4⟩
    have HB4 := Lib.hid (HB3.out.trans (hB4.mono HB3.out.size))
    clear hB4 c0 c1
    go_wp2_with fail
    with_reducible refine (HSm.out _).mono ?_
    rintro e w5 ⟨rfl, hB5⟩
    have HB5 := Lib.hid (HB4.out.trans (hB5.mono HB4.out.size))
    clear hB5
    go_wp2_with fail
    with_reducible refine (tbytes_any sm _).mono ?_
    rintro e w6 ⟨rfl, rfl⟩
    go_wp2_with fail
    have hbx : Boxed (w5.alloc (.cells #[.int .u64 (U sm)] 22)) w5.heap.size 22 (.int .u64 (U sm)) := new_at w5 _ _ rfl
    have HCo := Lib.hid (Collect_any sm w5.heap.size _ hbx)
    clear hbx
    with_reducible refine HCo.out.mono ?_
    rintro e w7 ⟨⟨v, rfl, hown⟩, hB7⟩
    have hB6 : Below w5.heap.size w5 (w5.alloc (.cells #[.int .u64 (U sm)] 22)) := (Below.refl _ _).alloc (Nat.le_refl _) _
    have HB7 := Lib.hid (HB5.out.trans ((hB6.trans (hB7.mono hB6.size)).mono HB5.out.size))
    have HTx := text_of w7 _ v (beGo sm 8) hown
    rw [HEi.out] at HTx
    have hz : B.size + (eight sm).size ≤ 9223372036854775807 := by omega
    clear hB6 hB7 hown
    generalize eight sm = E8 at *
    go_wp2_with fail
    refine bodyPost_ret (v := .tuple #[.string (B ++ E8), .int .i64 0]) (by simp [results, Tryd.results10, go_sem]) rfl ⟨by rw [HT.out], HB7.out⟩
  · have e1 : minB a b t (roleU role) u role = ⟨#[]⟩ := by unfold minB; rw [if_neg h]
    have e2 : minE role = 170 := by unfold minE; rw [if_neg h]
    rw [e1, e2]
    have hrb : roleB role = false := decide_eq_false h
    rw [hrb] at HR
    clear h e1 e2 hrb
    go_enter Tryd.func10, Tryd.ntmps10
    go_wp2_with fail
    with_reducible refine (HR.out _).mono ?_
    rintro e w1 ⟨rfl, rfl⟩
    go_wp2_with fail
    with_reducible refine (ttold_wrong 170 _).mono ?_
    rintro e w2 ⟨rfl, hB2⟩
    have HB2 := Lib.hid hB2
    clear hB2
    go_wp2_with fail
    refine bodyPost_ret (v := .tuple #[.string ⟨#[]⟩, .int .i64 170]) (by simp [results, Tryd.results10, go_sem]) rfl ⟨rfl, ?_⟩
    exact (((Below.refl _ w).alloc (Nat.le_refl _) _).alloc (by simp) _).trans (HB2.out.mono (by simp; omega))
end Go.Proofs.YtpekedldoplmmaaDoor
