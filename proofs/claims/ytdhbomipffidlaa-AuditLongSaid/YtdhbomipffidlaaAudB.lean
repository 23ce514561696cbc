/-
  An entry's sum: by package audit and by the reference.
-/
import Derived.Test.YtdhbomipffidlaaAudM
import Derived.Test.YtdhbomipffidlaaRefSumG
namespace Go.Proofs.Ytdhbomipffidlaa
open Go.RowKit Go.Shelf
attribute [local go_sem] Oper.semAt_some calmOp calmUpon effOp effUpon

theorem catN_four (p q r s : BitVec 64) : catN [p, q, r, s] = bytesF p ++ bytesF q ++ bytesF r ++ bytesF s := by
  unfold catN
  simp only [List.foldl_cons, List.foldl_nil]
  rw [nilB]
/-- How many bytes, as a number. -/
theorem U_len (x : ByteArray) (h : x.size ≤ 9223372036854775807) : ((x.size : Nat) : Int) = U (BitVec.ofNat 64 x.size) := by
  unfold U
  rw [BitVec.toNat_ofNat, Nat.mod_eq_of_lt (by omega)]

set_option maxRecDepth 100000 in
set_option maxHeartbeats 4000000 in
theorem Sum_any (a b p : BitVec 64) (e : Ent) (hx : e.x.size ≤ 60000) (w : World) :
    Calls Try.prog 21 #[.agg #[.int .u64 (U a), .int .u64 (U b)], .int .u64 (U p), e.val] w fun en w' => en = .returned (.int .u64 (U (sumE a b p e))) ∧ Below w.heap.size w w' := by
  obtain ⟨s, t, x, m⟩ := e
  have hlen := U_len x (by show x.size ≤ _; have : x.size ≤ 60000 := hx; omega)
  have hcat := catN_four p s t (BitVec.ofNat 64 x.size)
  have hts := txtE_size p ⟨s, t, x, m⟩
  have HPut := Lib.hid (fun (A : Option Addr) (c : Nat) W hA => tput_any A c [p, s, t, BitVec.ofNat 64 x.size] 4 rfl (by decide) W hA)
  rw [hcat] at HPut
  have hxx : x.size ≤ 60000 := hx
  have HS := Lib.hid (fun W => sum_any a b (txtE p ⟨s, t, x, m⟩) (by show _ ≤ _; have : (txtE p ⟨s, t, x, m⟩).size ≤ 36 + x.size := hts; omega) W)
  have HT : Hid (txtE p ⟨s, t, x, m⟩ = bytesF p ++ bytesF s ++ bytesF t ++ bytesF (BitVec.ofNat 64 x.size) ++ x) := Lib.hid rfl
  have hz : (bytesF p ++ bytesF s ++ bytesF t ++ bytesF (BitVec.ofNat 64 x.size)).size + x.size ≤ 9223372036854775807 := by
    have h2 := hts
    rw [HT.out, ByteArray.size_append] at h2
    have h3 : ((bytesF p ++ bytesF s ++ bytesF t ++ bytesF (BitVec.ofNat 64 x.size)).size + x.size : Nat) ≤ 36 + x.size := h2
    omega
  unfold sumE
  generalize txtE p ⟨s, t, x, m⟩ = X at *
  have hn : (BitVec.ofNat 64 x.size) = BitVec.ofNat 64 x.size := rfl
  generalize bytesF p ++ bytesF s ++ bytesF t ++ bytesF (BitVec.ofNat 64 x.size) = C at *
  generalize sumF a b X = SM at *
  have hw : IntKind.u64.wrap ((x.size : Nat) : Int) = U (BitVec.ofNat 64 x.size) := by
    rw [← hlen, IntKind.wrap_u64]; omega
  obtain ⟨L, hL⟩ : ∃ L, BitVec.ofNat 64 x.size = L := ⟨_, rfl⟩
  rw [hL] at hw HPut
  have HX := HT
  have hz2 : ¬ 9223372036854775807 < C.size + x.size := by omega
  clear HT hlen hcat hts hL hn hx
  show Calls _ _ #[_, _, .agg #[.int .u64 (U s), .int .u64 (U t), .string x, .int .u64 (U m)]] _ _
  go_enter Try.func21, Try.ntmps21
  go_wp2_with fail
  have k0 : ((w.alloc (.cells #[.int .u64 (U a), .int .u64 (U b)] 24)).alloc (.cells #[.int .u64 (U s), .int .u64 (U t), .string x, .int .u64 (U m)] 41)).heap[w.heap.size]? = some (.cells #[.int .u64 (U a), .int .u64 (U b)] 24 (0, 0)) := old_at (new_at w _ _ rfl)
  have k1 : ((w.alloc (.cells #[.int .u64 (U a), .int .u64 (U b)] 24)).alloc (.cells #[.int .u64 (U s), .int .u64 (U t), .string x, .int .u64 (U m)] 41)).heap[w.heap.size + 1]? = some (.cells #[.int .u64 (U s), .int .u64 (U t), .string x, .int .u64 (U m)] 41 (0, 0)) := new_at _ _ _ (by simp)
  have hB0 : Below w.heap.size w ((w.alloc (.cells #[.int .u64 (U a), .int .u64 (U b)] 24)).alloc (.cells #[.int .u64 (U s), .int .u64 (U t), .string x, .int .u64 (U m)] 41)) := ((Below.refl _ w).alloc (Nat.le_refl _) _).alloc (by simp) _
  generalize (w.alloc (.cells #[.int .u64 (U a), .int .u64 (U b)] 24)).alloc (.cells #[.int .u64 (U s), .int .u64 (U t), .string x, .int .u64 (U m)] 41) = u at *
  obtain ⟨b0, hb0⟩ : ∃ b0, w.heap.size = b0 := ⟨_, rfl⟩
  rw [hb0] at k0 k1 ⊢
  have l0 : ∀ s' : Later u.heap.size u, s'.W.cell? ⟨b0, 0, none⟩ = some _ := fun s' => s'.cell (cell_at k0 0) (Array.getElem?_eq_some_iff.1 k0).1
  have l1 : ∀ s' : Later u.heap.size u, s'.W.cell? ⟨b0, 1, none⟩ = some _ := fun s' => s'.cell (cell_at k0 1) (Array.getElem?_eq_some_iff.1 k0).1
  have m0 : ∀ s' : Later u.heap.size u, s'.W.cell? ⟨b0 + 1, 0, none⟩ = some _ := fun s' => s'.cell (cell_at k1 0) (Array.getElem?_eq_some_iff.1 k1).1
  have m1 : ∀ s' : Later u.heap.size u, s'.W.cell? ⟨b0 + 1, 1, none⟩ = some _ := fun s' => s'.cell (cell_at k1 1) (Array.getElem?_eq_some_iff.1 k1).1
  have m2 : ∀ s' : Later u.heap.size u, s'.W.cell? ⟨b0 + 1, 2, none⟩ = some _ := fun s' => s'.cell (cell_at k1 2) (Array.getElem?_eq_some_iff.1 k1).1
  clear hb0 k0 k1
  refine region_mix_all_plain (C := fun W' => ∃ s' : Later u.heap.size u, W' = s'.W) [false, false, false, false, false, false, false, false, false, false, true, true, false, false, false, true, false] (by kernel_rfl) (by kernel_rfl) (by kernel_rfl) (by kernel_rfl) ⟨⟨u.drew, (Below.refl _ u).drew⟩, rfl⟩ ?_
  repeat (refine wpM_calm (fun K hK => ?_); go_simp; refine hK _ ?_; clear hK K)
  refine wpM_eff rfl (fun K hK => ?_)
  go_simp
  have hrow : (u.alloc (.cells #[.int .u64 (U p), .int .u64 (U s), .int .u64 (U t), .int .u64 (U L)] 22)).drew.heap[u.heap.size]? = some (.cells ([p, s, t, L].map enc64).toArray 22 (0, 0)) := new_at u _ _ rfl
  have hBa : Below u.heap.size u (u.alloc (.cells #[.int .u64 (U p), .int .u64 (U s), .int .u64 (U t), .int .u64 (U L)] 22)).drew := ((Below.refl _ u).alloc (Nat.le_refl _) _).drew
  have hA := Row.at_ hrow (Array.getElem?_eq_some_iff.1 hrow).1
  refine hK _ _ ⟨⟨_, hBa⟩, rfl⟩ ?_
  clear hK K
  generalize (u.alloc (.cells #[.int .u64 (U p), .int .u64 (U s), .int .u64 (U t), .int .u64 (U L)] 22)).drew = u2 at *
  refine wpM_eff rfl (fun K hK => ?_)
  go_simp
  refine ⟨trivial, (callsIn_wide.2 (HPut.out _ _ _ hA)).mono ?_⟩
  rintro e w3 ⟨rfl, hB3⟩
  have hBb := hBa.trans (hB3.mono hBa.size)
  refine ⟨_, rfl, hK _ _ ⟨⟨_, hBb⟩, rfl⟩ ?_⟩
  clear hK K hB3 hBa hrow hA
  repeat (refine wpM_calm (fun K hK => ?_); go_simp; refine hK _ ?_; clear hK K)
  refine wpM_eff rfl (fun K hK => ?_)
  go_simp
  rw [← HX.out]
  refine ⟨trivial, (callsIn_wide.2 (HS.out _)).mono ?_⟩
  rintro e w4 ⟨rfl, hB4⟩
  have hBc := hBb.trans (hB4.mono hBb.size)
  refine ⟨_, rfl, hK _ _ ⟨⟨_, hBc⟩, rfl⟩ ?_⟩
  clear hK K hB4 hBb
  repeat (refine wpM_calm (fun K hK => ?_); go_simp; refine hK _ ?_; clear hK K)
  refine wpM_nil ?_
  have HB := Lib.hid (hB0.trans (hBc.mono hB0.size))
  clear l0 l1 m0 m1 m2 hBc hB0
  gi_wp2
  go_wp2_with fail
  go_ret
  exact ⟨rfl, HB.out⟩

set_option maxRecDepth 100000 in
set_option maxHeartbeats 4000000 in
theorem refSum2_any (a b p : BitVec 64) (e : Ent) (hx : e.x.size ≤ 60000) (w : World) :
    Calls Try.prog 25 #[.agg #[.int .u64 (U a), .int .u64 (U b)], .int .u64 (U p), e.val] w fun en w' => en = .returned (.int .u64 (U (sumE a b p e))) ∧ Below w.heap.size w w' := by
  obtain ⟨s, t, x, m⟩ := e
  have hlen := U_len x (by show x.size ≤ _; have : x.size ≤ 60000 := hx; omega)
  have hts := txtE_size p ⟨s, t, x, m⟩
  have hxx : x.size ≤ 60000 := hx
  have HS := Lib.hid (fun W => refSum_any a b (txtE p ⟨s, t, x, m⟩) (by show _ ≤ _; have : (txtE p ⟨s, t, x, m⟩).size ≤ 36 + x.size := hts; omega) W)
  have HT : Hid (txtE p ⟨s, t, x, m⟩ = bytesF p ++ bytesF s ++ bytesF t ++ bytesF (BitVec.ofNat 64 x.size) ++ x) := Lib.hid rfl
  unfold sumE
  have hw : IntKind.u64.wrap ((x.size : Nat) : Int) = U (BitVec.ofNat 64 x.size) := by
    rw [← hlen, IntKind.wrap_u64]; omega
  obtain ⟨L, hL⟩ : ∃ L, BitVec.ofNat 64 x.size = L := ⟨_, rfl⟩
  rw [hL] at hw HT
  have hp1 := bytesF_size p
  have hp2 := bytesF_size s
  have hp3 := bytesF_size t
  have hp4 := bytesF_size L
  generalize txtE p ⟨s, t, x, m⟩ = X at *
  generalize sumF a b X = SM at *
  have HP := Lib.hid (fun W => refPut_at p _ rfl W)
  have HQ := Lib.hid (fun W => refPut_at s _ rfl W)
  have HR := Lib.hid (fun W => refPut_at t _ rfl W)
  have HL := Lib.hid (fun W => refPut_at L _ rfl W)
  generalize bytesF p = P at *
  generalize bytesF s = S at *
  generalize bytesF t = T at *
  generalize bytesF L = N at *
  have hz1 : ¬ 9223372036854775807 < P.size + S.size := by omega
  have hz2 : ¬ 9223372036854775807 < (P ++ S).size + T.size := by rw [ByteArray.size_append]; omega
  have hz3 : ¬ 9223372036854775807 < (P ++ S ++ T).size + N.size := by rw [ByteArray.size_append, ByteArray.size_append]; omega
  have hz4 : ¬ 9223372036854775807 < (P ++ S ++ T ++ N).size + x.size := by rw [ByteArray.size_append, ByteArray.size_append, ByteArray.size_append]; omega
  have hy2 : ¬ 9223372036854775807 < P.size + S.size + T.size := by omega
  have hy3 : ¬ 9223372036854775807 < P.size + S.size + T.size + N.size := by omega
  have hy4 : ¬ 9223372036854775807 < P.size + S.size + T.size + N.size + x.size := by omega
  clear hlen hts hL hx hp1 hp2 hp3 hp4
  show Calls _ _ #[_, _, .agg #[.int .u64 (U s), .int .u64 (U t), .string x, .int .u64 (U m)]] _ _
  go_enter Try.func25, Try.ntmps25
  go_wp2_with fail
  have k0 : ((w.alloc (.cells #[.int .u64 (U a), .int .u64 (U b)] 24)).alloc (.cells #[.int .u64 (U s), .int .u64 (U t), .string x, .int .u64 (U m)] 41)).heap[w.heap.size]? = some (.cells #[.int .u64 (U a), .int .u64 (U b)] 24 (0, 0)) := old_at (new_at w _ _ rfl)
  have k1 : ((w.alloc (.cells #[.int .u64 (U a), .int .u64 (U b)] 24)).alloc (.cells #[.int .u64 (U s), .int .u64 (U t), .string x, .int .u64 (U m)] 41)).heap[w.heap.size + 1]? = some (.cells #[.int .u64 (U s), .int .u64 (U t), .string x, .int .u64 (U m)] 41 (0, 0)) := new_at _ _ _ (by simp)
  have hB0 : Below w.heap.size w ((w.alloc (.cells #[.int .u64 (U a), .int .u64 (U b)] 24)).alloc (.cells #[.int .u64 (U s), .int .u64 (U t), .string x, .int .u64 (U m)] 41)) := ((Below.refl _ w).alloc (Nat.le_refl _) _).alloc (by simp) _
  generalize (w.alloc (.cells #[.int .u64 (U a), .int .u64 (U b)] 24)).alloc (.cells #[.int .u64 (U s), .int .u64 (U t), .string x, .int .u64 (U m)] 41) = u at *
  obtain ⟨b0, hb0⟩ : ∃ b0, w.heap.size = b0 := ⟨_, rfl⟩
  rw [hb0] at k0 k1 ⊢
  have l0 : ∀ s' : Later u.heap.size u, s'.W.cell? ⟨b0, 0, none⟩ = some _ := fun s' => s'.cell (cell_at k0 0) (Array.getElem?_eq_some_iff.1 k0).1
  have l1 : ∀ s' : Later u.heap.size u, s'.W.cell? ⟨b0, 1, none⟩ = some _ := fun s' => s'.cell (cell_at k0 1) (Array.getElem?_eq_some_iff.1 k0).1
  have m0 : ∀ s' : Later u.heap.size u, s'.W.cell? ⟨b0 + 1, 0, none⟩ = some _ := fun s' => s'.cell (cell_at k1 0) (Array.getElem?_eq_some_iff.1 k1).1
  have m1 : ∀ s' : Later u.heap.size u, s'.W.cell? ⟨b0 + 1, 1, none⟩ = some _ := fun s' => s'.cell (cell_at k1 1) (Array.getElem?_eq_some_iff.1 k1).1
  have m2 : ∀ s' : Later u.heap.size u, s'.W.cell? ⟨b0 + 1, 2, none⟩ = some _ := fun s' => s'.cell (cell_at k1 2) (Array.getElem?_eq_some_iff.1 k1).1
  clear hb0 k0 k1
  refine wp_region_later u.heap.size (by kernel_rfl) (by kernel_rfl) ?_
  repeat (go_big_quiet_step (first | (go_at_call 38; with_reducible first | exact Calls.later (Nat.le_refl _) (HP.out _) | exact Calls.later (Nat.le_refl _) (HQ.out _) | exact Calls.later (Nat.le_refl _) (HR.out _) | exact Calls.later (Nat.le_refl _) (HL.out _)) | (go_at_call 37; rw [← HT.out]; with_reducible exact Calls.later (Nat.le_refl _) (HS.out _))))
  refine wpQuiet_nil ?_
  rintro _ ⟨s', rfl⟩
  clear l0 l1 m0 m1 m2
  have HB := Lib.hid (hB0.trans (s'.below.mono hB0.size))
  go_wp2_with fail
  go_ret
  exact ⟨rfl, HB.out⟩
end Go.Proofs.Ytdhbomipffidlaa
