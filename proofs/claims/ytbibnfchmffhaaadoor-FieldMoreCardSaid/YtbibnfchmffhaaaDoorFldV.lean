/-
  Lists of texts: compared; joined; their bytes, by the program and by the reference.
-/
import Derived.Test.YtbibnfchmffhaaaDoorFldU
namespace Go.Proofs.YtbibnfchmffhaaaDoor
open Go.RowKit

theorem ret_bool {a b : Bool} (h : a = b) : Ending.returned (.bool a) = .returned (.bool b) := by rw [h]
theorem nthS_ext {l m : LS} (h : l.length = m.length) (k : ∀ j, j < l.length → nthS l j = nthS m j) : l = m := by
  apply List.ext_getElem?
  intro i
  by_cases hi : i < l.length
  · rw [nthS_get hi, nthS_get (by omega), k i hi]
  · rw [List.getElem?_eq_none (by omega), List.getElem?_eq_none (by omega)]
set_option maxRecDepth 100000 in
set_option maxHeartbeats 4000000 in
theorem Texts_any (A A' : Option Addr) (c c' : Nat) (l m : LS) (n k : Nat) (hn : l.length = n) (hk : m.length = k) (hm : n ≤ 9223372036854775807) (w : World) (hA : AtS w w.heap.size A l) (hA' : AtS w w.heap.size A' m) :
    Calls Tryd.prog 23 #[.slice A n c, .slice A' k c'] w fun e w' => e = .returned (.bool (decide (l = m))) ∧ Below w.heap.size w w' := by
  have HN := Lib.hid hn
  have HK := Lib.hid hk
  clear hn hk
  by_cases hnk : n = k
  · subst hnk
    go_enter Tryd.func23, Tryd.ntmps23
    go_wp2_with fail
    go_loopw [5] (fun iv wr => ∃ j : Nat, j ≤ n ∧ iv = .int .i64 j ∧ Below w.heap.size w wr ∧ Hid (∀ i, i < j → nthS l i = nthS m i)) (fun iv _ => n - (intOf iv).toNat)
    case atStart => exact ⟨0, Nat.zero_le _, rfl, Below.refl _ w, Lib.hid (fun i hi => absurd hi (by omega))⟩
    case round =>
      obtain ⟨j, hj, rfl, hB, HE⟩ := hrel
      by_cases hjn : j < n
      · obtain ⟨b, o, rfl, hb, hc⟩ := hA (by rw [HN.out]; omega)
        obtain ⟨b', o', rfl, hb', hc'⟩ := hA' (by rw [HK.out]; omega)
        have y0 := (hB.cell (p := ⟨b, o + j, none⟩) hb).trans (hc j (by rw [HN.out]; exact hjn))
        have y1 := (hB.cell (p := ⟨b', o' + j, none⟩) hb').trans (hc' j (by rw [HK.out]; exact hjn))
        have hjI : (j : Int) < (n : Int) := by omega
        have hjI0 : (0 : Int) ≤ (j : Int) := by omega
        clear hc hc'
        by_cases hx : nthS l j = nthS m j
        · have HX := Lib.hid hx
          have hq : ((nthS l j).toList == (nthS m j).toList) = true := by rw [hx]; simp
          clear hx
          go_wp2_with fail
          go_quiet (fail)
          go_wp2_with fail
          go_roundw
          case rel => exact ⟨j + 1, by omega, by go_num, dn hB _, Lib.hid (fun i hi => by
            by_cases e : i = j
            · rw [e]; exact HX.out
            · exact HE.out i (by omega))⟩
          case measure => simp [intOf]; omega
        · have hq : ((nthS l j).toList == (nthS m j).toList) = false := by rw [toList_beq, decide_eq_false hx]
          have hne : decide (l = m) = false := decide_eq_false (fun h => hx (by rw [h]))
          have HNe := Lib.hid hne
          clear hx hne
          go_wp2_with fail
          go_quiet (fail)
          go_wp2_with fail
          go_ret
          exact ⟨ret_bool HNe.out.symm, dn hB _⟩
      · have hge : ¬ (j : Int) < (n : Int) := by omega
        have he : decide (l = m) = true := decide_eq_true (nthS_ext (by rw [HN.out, HK.out]) (fun i hi => HE.out i (by rw [HN.out] at hi; omega)))
        have HEq := Lib.hid he
        clear he
        go_wp2_with fail
        go_ret
        exact ⟨ret_bool HEq.out.symm, hB⟩
  · have hq : ((n : Int) == (k : Int)) = false := by rw [beq_eq_false_iff_ne]; omega
    have hq2 : ((n : Int) != (k : Int)) = true := by rw [bne_iff_ne]; omega
    have hne : decide (l = m) = false := decide_eq_false (fun h => hnk (by rw [← HN.out, ← HK.out, h]))
    have HNe := Lib.hid hne
    clear hne hnk
    go_enter Tryd.func23, Tryd.ntmps23
    go_wp2_with fail
    go_ret
    exact ⟨ret_bool HNe.out.symm, Below.refl _ w⟩

set_option maxRecDepth 100000 in
theorem refPutText_ok (s : ByteArray) (hs : s.size ≤ 400) (w : World) : Calls Tryd.prog 24 #[.string s] w fun e w' => e = .returned (.tuple #[.string (textF s), .int .i64 0]) ∧ Below w.heap.size w w' := by
  have hb := bytesF_size (BitVec.ofNat 64 s.size)
  have hu : (s.size : Int) = U (BitVec.ofNat 64 s.size) := by unfold U; rw [BitVec.toNat_ofNat, Nat.mod_eq_of_lt (by omega)]
  have hg : ¬ (400 : Int) < (s.size : Int) := by omega
  have hg2 : (s.size : Int) ≤ 400 := by omega
  have HC := Lib.hid (fun W => refPut_at (BitVec.ofNat 64 s.size) _ hu W)
  have HT : Hid (bytesF (BitVec.ofNat 64 s.size) ++ s = textF s) := Lib.hid rfl
  obtain ⟨T, hT⟩ : ∃ T, bytesF (BitVec.ofNat 64 s.size) = T := ⟨_, rfl⟩
  rw [hT] at hb HC HT
  have hc : T.size + s.size ≤ 9223372036854775807 := by omega
  clear hu hT
  go_enter Tryd.func24, Tryd.ntmps24
  go_wp2_with fail
  with_reducible refine (HC.out _).mono ?_
  rintro e w1 ⟨rfl, hB⟩
  go_wp2_with fail
  refine bodyPost_ret (v := .tuple #[.string (T ++ s), .int .i64 0]) (by simp [results, Tryd.results24, go_sem]) rfl ⟨by rw [HT.out], hB⟩
set_option maxRecDepth 100000 in
theorem refPutText_long (s : ByteArray) (hs : 400 < s.size) (w : World) : Calls Tryd.prog 24 #[.string s] w fun e w' => e = .returned (.tuple #[.string ⟨#[]⟩, .int .i64 21]) ∧ w' = w := by
  have hg : (400 : Int) < (s.size : Int) := by omega
  go_enter Tryd.func24, Tryd.ntmps24
  go_wp2_with fail
  refine bodyPost_ret (v := .tuple #[.string ⟨#[]⟩, .int .i64 21]) (by simp [results, Tryd.results24, go_sem]) rfl ⟨rfl, rfl⟩

/-- Are all texts short enough? -/
def okL (l : LS) : Bool := l.all fun s => decide (s.size ≤ 400)
/-- The bytes of all texts. -/
def joinL : LS → List UInt8
  | [] => []
  | s :: l => (textF s).data.toList ++ joinL l
def joinB (l : LS) : ByteArray := ⟨(joinL l).toArray⟩
/-- What joined tells. -/
def jB (l : LS) : ByteArray := if okL l = true then joinB l else ⟨#[]⟩
def jE (l : LS) : Int := if okL l = true then 0 else 21
theorem joinL_append : ∀ a b : LS, joinL (a ++ b) = joinL a ++ joinL b
  | [], b => rfl
  | s :: a, b => by rw [List.cons_append, joinL, joinL, joinL_append a b, List.append_assoc]
theorem joinL_snoc (a : LS) (x : ByteArray) : joinL (a ++ [x]) = joinL a ++ (textF x).data.toList := by rw [joinL_append, joinL, joinL, List.append_nil]
theorem joinB_snoc (a : LS) (x : ByteArray) : joinB (a ++ [x]) = joinB a ++ textF x := by
  apply ba_ext
  rw [append_list]
  simp [joinB, joinL_snoc]
theorem okL_snoc (a : LS) (x : ByteArray) : okL (a ++ [x]) = (okL a && decide (x.size ≤ 400)) := by simp [okL]
theorem joinL_len : ∀ l : LS, okL l = true → (joinL l).length ≤ 409 * l.length
  | [], _ => by simp [joinL]
  | s :: l, h => by
    rw [okL, List.all_cons, Bool.and_eq_true, decide_eq_true_iff] at h
    have h1 := joinL_len l h.2
    have h2 := textF_size s
    rw [joinL, List.length_append, List.length_cons, ← size_list]
    omega
theorem joinB_size (l : LS) : (joinB l).size = (joinL l).length := by simp [joinB, ByteArray.size]
theorem strCells_eq (s : ByteArray) : Lib.strCells s = Lib.byteCells s.data.toList := by
  unfold Lib.strCells Lib.byteCells
  rfl
theorem byteCells_append (a b : List UInt8) : Lib.byteCells (a ++ b) = Lib.byteCells a ++ Lib.byteCells b := by simp [Lib.byteCells]
theorem bld_later {T e : TypeId} {B b : Nat} {bs : List Value} {w w' : World} (h : Lib.IsBuilder T e B b bs w) (hb : Below w.heap.size w w') : Lib.IsBuilder T e B b bs w' := by
  have one : ∀ p, Lib.BuilderAt T e B b p bs w → Lib.BuilderAt T e B b p bs w' := by
    rintro p ⟨hB, v, hk, ⟨h1, h2⟩, hne⟩
    refine ⟨hB, v, (hb.block b (Array.getElem?_eq_some_iff.1 hk).1).trans hk, ⟨h1, ?_⟩, hne⟩
    rcases h2 with h0 | ⟨g, cap, cur, k1, k2, k3, k4⟩
    · exact .inl h0
    · exact .inr ⟨g, cap, cur, k1, k2, (hb.block g (Array.getElem?_eq_some_iff.1 k3).1).trans k3, k4⟩
  rcases h with h | h
  · exact .inl (one _ h)
  · exact .inr (one _ h)

set_option maxRecDepth 100000 in
set_option maxHeartbeats 4000000 in
theorem joined_any (A : Option Addr) (c : Nat) (l : LS) (n : Nat) (hn : l.length = n) (hz : ∀ s ∈ l, s.size ≤ 9223372036854775807) (hm : n ≤ 65536) (w : World) (hA : AtS w w.heap.size A l) :
    Calls Tryd.prog 36 #[.slice A n c] w fun e w' => e = .returned (.tuple #[.string (jB l), .int .i64 (jE l)]) ∧ Below w.heap.size w w' := by
  have HN := Lib.hid hn
  have HZ := Lib.hid hz
  clear hn hz
  go_enter Tryd.func36, Tryd.ntmps36
  go_wp2_with fail
  go_loopw [11] (fun iv wr => ∃ j : Nat, j ≤ n ∧ iv = .int .i64 j ∧ okL (l.take j) = true ∧ w.heap.size < wr.heap.size ∧ Below w.heap.size w wr ∧ Hid (Lib.IsBuilder 71 5 w.heap.size w.heap.size (Lib.byteCells (joinL (l.take j))) wr) ∧ Hid (j = 0 → wr.heap[w.heap.size]? = some (.cells #[.pointer none, .slice none 0 0] 71 (0, 0)))) (fun iv _ => n - (intOf iv).toNat)
  case atStart => exact ⟨0, Nat.zero_le _, rfl, rfl, by simp, (Below.refl _ w).alloc (Nat.le_refl _) _, Lib.hid (Lib.fresh_isBuilder _ _ w), Lib.hid (fun _ => new_at w _ _ rfl)⟩
  case round =>
    obtain ⟨j, hj, rfl, hok, hsz, hB, HI, HZ0⟩ := hrel
    have HOk := Lib.hid hok
    clear hok
    by_cases hjn : j < n
    · obtain ⟨b, o, rfl, hb, hc⟩ := hA (by rw [HN.out]; omega)
      have y0 := (hB.cell (p := ⟨b, o + j, none⟩) hb).trans (hc j (by rw [HN.out]; exact hjn))
      have hzs := nthS_size HZ.out (j := j) (by rw [HN.out]; exact hjn)
      have hsn := takeS_snoc l j (by rw [HN.out]; exact hjn)
      have hdr : okL l = true → (nthS l j).size ≤ 400 := fun h => by
        have := List.all_eq_true.1 h (nthS l j) (List.mem_of_getElem? (nthS_get (by rw [HN.out]; exact hjn)))
        exact of_decide_eq_true this
      have hjI : (j : Int) < (n : Int) := by omega
      have hjI0 : (0 : Int) ≤ (j : Int) := by omega
      generalize nthS l j = x at *
      have HSn := Lib.hid hsn
      clear hc hsn
      by_cases hx : x.size ≤ 400
      · have HC := Lib.hid (fun W => PutText_ok x hx W)
        have hts := textF_size x
        have hjl := joinL_len _ HOk.out
        rw [List.length_take, HN.out] at hjl
        have hbd : (Lib.byteCells (joinL (l.take j))).length + (textF x).size ≤ 140737488355328 := by rw [Lib.byteCells_length]; omega
        have HBd := Lib.hid hbd
        have hok' : okL (l.take (j + 1)) = true := by rw [HSn.out, okL_snoc, HOk.out, decide_eq_true hx]; rfl
        have hjn' : joinL (l.take (j + 1)) = joinL (l.take j) ++ (textF x).data.toList := by rw [HSn.out, joinL_snoc]
        have HOk' := Lib.hid hok'
        have HJn := Lib.hid hjn'
        clear hbd hok' hjn' hts hjl hdr
        go_wp2_with fail
        with_reducible refine (HC.out _).mono ?_
        rintro e w1 ⟨rfl, hB1⟩
        have HI1 := Lib.hid (bld_later HI.out hB1)
        have HB1 := Lib.hid (hB.trans (hB1.mono hB.size))
        have HS1 := Lib.hid hB1.size
        clear hB1
        go_wp2_with fail
        with_reducible refine (writeString_any w.heap.size w.heap.size _ (textF x) w1 HI1.out HBd.out (Nat.le_trans hB.size HS1.out)).mono ?_
        rintro e w2 ⟨rfl, hbat, hB2⟩
        have HI2 := Lib.hid hbat
        have HB2 := Lib.hid (HB1.out.trans hB2)
        have HS2 := Lib.hid hB2.size
        clear hbat hB2
        go_wp2_with fail
        go_roundw
        case rel => exact ⟨j + 1, by omega, by go_num, HOk'.out, by have := HS1.out; have := HS2.out; omega, HB2.out, Lib.hid (.inr (by rw [HJn.out, byteCells_append, ← strCells_eq]; exact HI2.out)), Lib.hid (fun h => absurd h (by omega))⟩
        case measure => simp [intOf]; omega
      · have hx2 : 400 < x.size := by omega
        have HC := Lib.hid (fun W => PutText_long x hx2 W)
        have hno : okL l = false := by
          cases h : okL l with
          | false => rfl
          | true => exact absurd (hdr h) hx
        have e1 : jB l = ⟨#[]⟩ := by unfold jB; rw [hno]; rfl
        have e2 : jE l = 21 := by unfold jE; rw [hno]; rfl
        have HE1 := Lib.hid e1
        have HE2 := Lib.hid e2
        clear e1 e2 hno hdr hx hx2
        go_wp2_with fail
        with_reducible refine (HC.out _).mono ?_
        rintro e w1 ⟨rfl, rfl⟩
        go_wp2_with fail
        refine bodyPost_ret (v := .tuple #[.string ⟨#[]⟩, .int .i64 21]) (by simp [results, Tryd.results36, go_sem]) rfl ⟨by rw [HE1.out, HE2.out], hB⟩
    · have hge : ¬ (j : Int) < (n : Int) := by omega
      have htk : l.take j = l := List.take_of_length_le (by rw [HN.out]; omega)
      have hokl := HOk.out
      rw [htk] at hokl HI
      have e1 : jB l = joinB l := by unfold jB; rw [hokl]; rfl
      have e2 : jE l = 0 := by unfold jE; rw [hokl]; rfl
      have HE1 := Lib.hid e1
      have HE2 := Lib.hid e2
      have HC : Hid (Calls Tryd.prog 42 #[.pointer (some ⟨w.heap.size, 0, none⟩)] wr fun e w' => e = .returned (.string (joinB l)) ∧ Below w.heap.size wr w') := Lib.hid (by
        by_cases hl : joinL l = []
        · have h0 : j = 0 := by
            cases l with
            | nil => have := HN.out; simp at this; omega
            | cons s l =>
              rw [joinL] at hl
              have h1 := List.append_eq_nil_iff.1 hl
              have h2 : (textF s).size = 0 := by rw [size_list, h1.1]; rfl
              have h3 := bytesF_size (BitVec.ofNat 64 s.size)
              unfold textF at h2
              rw [ByteArray.size_append] at h2
              omega
          have e : joinB l = ⟨#[]⟩ := by unfold joinB; rw [hl]
          rw [e]
          exact bldString_nil _ _ _ wr (HZ0.out h0)
        · exact bldString_some _ _ _ wr HI.out hl)
      clear e1 e2 hokl htk HZ0 HI
      go_wp2_with fail
      with_reducible refine HC.out.mono ?_
      rintro e w1 ⟨rfl, hB1⟩
      have HB1 := Lib.hid (hB.trans hB1)
      clear hB1
      go_wp2_with fail
      refine bodyPost_ret (v := .tuple #[.string (joinB l), .int .i64 0]) (by simp [results, Tryd.results36, go_sem]) rfl ⟨by rw [HE1.out, HE2.out], HB1.out⟩

/-- What PutList tells. -/
def plB (l : LS) : ByteArray := if 100 < l.length then ⟨#[]⟩ else if okL l = true then bytesF (BitVec.ofNat 64 l.length) ++ joinB l else ⟨#[]⟩
def plE (l : LS) : Int := if 100 < l.length then 21 else if okL l = true then 0 else 21
theorem plE_cases (l : LS) : plE l = 21 ∨ plE l = 0 := by unfold plE; (repeat' split) <;> simp
set_option maxRecDepth 100000 in
set_option maxHeartbeats 4000000 in
theorem PutList_any (A : Option Addr) (c : Nat) (l : LS) (n : Nat) (hn : l.length = n) (hz : ∀ s ∈ l, s.size ≤ 9223372036854775807) (hm : n ≤ 65536) (w : World) (hA : AtS w w.heap.size A l) :
    Calls Tryd.prog 21 #[.slice A n c] w fun e w' => e = .returned (.tuple #[.string (plB l), .int .i64 (plE l)]) ∧ Below w.heap.size w w' := by
  by_cases h1 : 100 < n
  · have e1 : plB l = ⟨#[]⟩ := by unfold plB; rw [if_pos (by omega)]
    have e2 : plE l = 21 := by unfold plE; rw [if_pos (by omega)]
    rw [e1, e2]
    have hg : (100 : Int) < (n : Int) := by omega
    clear e1 e2 hn
    go_enter Tryd.func21, Tryd.ntmps21
    go_wp2_with fail
    refine bodyPost_ret (v := .tuple #[.string ⟨#[]⟩, .int .i64 21]) (by simp [results, Tryd.results21, go_sem]) rfl ⟨rfl, Below.refl _ w⟩
  · have hg : ¬ (100 : Int) < (n : Int) := by omega
    have hg2 : (n : Int) ≤ 100 := by omega
    have HC := Lib.hid (joined_any A c l n hn hz hm w hA)
    cases hok : okL l with
    | false =>
      have e1 : plB l = ⟨#[]⟩ := by unfold plB; rw [if_neg (by omega), hok]; rfl
      have e2 : plE l = 21 := by unfold plE; rw [if_neg (by omega), hok]; rfl
      have e3 : jB l = ⟨#[]⟩ := by unfold jB; rw [hok]; rfl
      have e4 : jE l = 21 := by unfold jE; rw [hok]; rfl
      rw [e1, e2]
      rw [e3, e4] at HC
      clear e1 e2 e3 e4 hok hn
      go_enter Tryd.func21, Tryd.ntmps21
      go_wp2_with fail
      with_reducible refine HC.out.mono ?_
      rintro e w1 ⟨rfl, hB1⟩
      have HB1 := Lib.hid hB1
      clear hB1
      go_wp2_with fail
      refine bodyPost_ret (v := .tuple #[.string ⟨#[]⟩, .int .i64 21]) (by simp [results, Tryd.results21, go_sem]) rfl ⟨rfl, HB1.out⟩
    | true =>
      have e1 : plB l = bytesF (BitVec.ofNat 64 l.length) ++ joinB l := by unfold plB; rw [if_neg (by omega), hok]; rfl
      have e2 : plE l = 0 := by unfold plE; rw [if_neg (by omega), hok]; rfl
      have e3 : jB l = joinB l := by unfold jB; rw [hok]; rfl
      have e4 : jE l = 0 := by unfold jE; rw [hok]; rfl
      have hjl := joinL_len l hok
      rw [← joinB_size] at hjl
      rw [e1, e2]
      rw [e3, e4] at HC
      rw [hn] at hjl ⊢
      have hbs := bytesF_size (BitVec.ofNat 64 n)
      have hu : (n : Int) = U (BitVec.ofNat 64 n) := by unfold U; rw [BitVec.toNat_ofNat, Nat.mod_eq_of_lt (by omega)]
      have HP := Lib.hid (fun W => Put_at (BitVec.ofNat 64 n) _ hu W)
      generalize bytesF (BitVec.ofNat 64 n) = X at *
      generalize joinB l = J at *
      have hc : X.size + J.size ≤ 9223372036854775807 := by omega
      clear e1 e2 e3 e4 hok hn hu hjl hbs
      go_enter Tryd.func21, Tryd.ntmps21
      go_wp2_with fail
      with_reducible refine HC.out.mono ?_
      rintro e w1 ⟨rfl, hB1⟩
      have HB1 := Lib.hid hB1
      clear hB1
      go_wp2_with fail
      with_reducible refine (HP.out _).mono ?_
      rintro e w2 ⟨rfl, hB2⟩
      have HB2 := Lib.hid (HB1.out.trans (hB2.mono HB1.out.size))
      clear hB2
      go_wp2_with fail
      refine bodyPost_ret (v := .tuple #[.string (X ++ J), .int .i64 0]) (by simp [results, Tryd.results21, go_sem]) rfl ⟨rfl, HB2.out⟩

set_option maxRecDepth 100000 in
set_option maxHeartbeats 4000000 in
theorem refPutList_any (A : Option Addr) (c : Nat) (l : LS) (n : Nat) (hn : l.length = n) (hz : ∀ s ∈ l, s.size ≤ 9223372036854775807) (w : World) (hA : AtS w w.heap.size A l) :
    Calls Tryd.prog 25 #[.slice A n c] w fun e w' => e = .returned (.tuple #[.string (plB l), .int .i64 (plE l)]) ∧ Below w.heap.size w w' := by
  by_cases h1 : 100 < n
  · have e1 : plB l = ⟨#[]⟩ := by unfold plB; rw [if_pos (by omega)]
    have e2 : plE l = 21 := by unfold plE; rw [if_pos (by omega)]
    rw [e1, e2]
    have hg : (100 : Int) < (n : Int) := by omega
    clear e1 e2 hn
    go_enter Tryd.func25, Tryd.ntmps25
    go_wp2_with fail
    refine bodyPost_ret (v := .tuple #[.string ⟨#[]⟩, .int .i64 21]) (by simp [results, Tryd.results25, go_sem]) rfl ⟨rfl, Below.refl _ w⟩
  · have hg : ¬ (100 : Int) < (n : Int) := by omega
    have hg2 : (n : Int) ≤ 100 := by omega
    have hu : (n : Int) = U (BitVec.ofNat 64 n) := by unfold U; rw [BitVec.toNat_ofNat, Nat.mod_eq_of_lt (by omega)]
    have HP := Lib.hid (fun W => refPut_at (BitVec.ofNat 64 n) _ hu W)
    have hbs := bytesF_size (BitVec.ofNat 64 n)
    have e1 : okL l = true → plB l = bytesF (BitVec.ofNat 64 n) ++ joinB l ∧ plE l = 0 := fun hok => by
      have h3 : ¬ 100 < l.length := by omega
      exact ⟨by unfold plB; rw [if_neg h3, hok, hn]; rfl, by unfold plE; rw [if_neg h3, hok]; rfl⟩
    have e2 : okL l = false → plB l = ⟨#[]⟩ ∧ plE l = 21 := fun hok => by
      have h3 : ¬ 100 < l.length := by omega
      exact ⟨by unfold plB; rw [if_neg h3, hok]; rfl, by unfold plE; rw [if_neg h3, hok]; rfl⟩
    have HE1 := Lib.hid e1
    have HE2 := Lib.hid e2
    have HN := Lib.hid hn
    have HZ := Lib.hid hz
    generalize bytesF (BitVec.ofNat 64 n) = X at *
    clear hu e1 e2 hn hz
    go_enter Tryd.func25, Tryd.ntmps25
    go_wp2_with fail
    with_reducible refine (HP.out _).mono ?_
    rintro e w1 ⟨rfl, hB1⟩
    have HB1 := Lib.hid hB1
    clear hB1
    go_wp2_with fail
    go_loopw [4, 5] (fun sv iv wr => ∃ j : Nat, j ≤ n ∧ iv = .int .i64 j ∧ sv = .string (X ++ joinB (l.take j)) ∧ okL (l.take j) = true ∧ Below w.heap.size w wr) (fun _ iv _ => n - (intOf iv).toNat)
    case atStart => exact ⟨0, Nat.zero_le _, rfl, by
      have e : joinB (l.take 0) = ⟨#[]⟩ := rfl
      rw [e]
      congr 1
      apply ba_ext
      rw [append_list]
      simp, rfl, HB1.out⟩
    case round =>
      obtain ⟨j, hj, rfl, rfl, hok, hB⟩ := hrel
      have HOk := Lib.hid hok
      clear hok
      by_cases hjn : j < n
      · obtain ⟨b, o, rfl, hb, hc⟩ := hA (by rw [HN.out]; omega)
        have y0 := (hB.cell (p := ⟨b, o + j, none⟩) hb).trans (hc j (by rw [HN.out]; exact hjn))
        have hzs := nthS_size HZ.out (j := j) (by rw [HN.out]; exact hjn)
        have hsn := takeS_snoc l j (by rw [HN.out]; exact hjn)
        have hdr : okL l = true → (nthS l j).size ≤ 400 := fun h => by
          have := List.all_eq_true.1 h (nthS l j) (List.mem_of_getElem? (nthS_get (by rw [HN.out]; exact hjn)))
          exact of_decide_eq_true this
        have hjI : (j : Int) < (n : Int) := by omega
        have hjI0 : (0 : Int) ≤ (j : Int) := by omega
        generalize nthS l j = x at *
        have HSn := Lib.hid hsn
        clear hc hsn
        by_cases hx : x.size ≤ 400
        · have HC := Lib.hid (fun W => refPutText_ok x hx W)
          have hts := textF_size x
          have hjl := joinL_len _ HOk.out
          rw [List.length_take, HN.out, ← joinB_size] at hjl
          have hok' : okL (l.take (j + 1)) = true := by rw [HSn.out, okL_snoc, HOk.out, decide_eq_true hx]; rfl
          have hjn' : X ++ joinB (l.take (j + 1)) = X ++ joinB (l.take j) ++ textF x := by rw [HSn.out, joinB_snoc, ByteArray.append_assoc]
          have HOk' := Lib.hid hok'
          generalize joinB (l.take j) = J at *
          have hsz : (X ++ J).size + (textF x).size ≤ 9223372036854775807 := by rw [ByteArray.size_append]; omega
          generalize X ++ J = Y at *
          generalize textF x = T at *
          have HJn := Lib.hid hjn'
          clear hok' hjn' hts hjl hdr
          go_wp2_with fail
          with_reducible refine (HC.out _).mono ?_
          rintro e w2 ⟨rfl, hB2⟩
          have HB2 := Lib.hid (hB.trans (hB2.mono hB.size))
          clear hB2
          go_wp2_with fail
          go_roundw
          case rel => exact ⟨j + 1, by omega, by go_num, by rw [HJn.out], HOk'.out, HB2.out⟩
          case measure => simp [intOf]; omega
        · have hx2 : 400 < x.size := by omega
          have HC := Lib.hid (fun W => refPutText_long x hx2 W)
          have hno : okL l = false := by
            cases h : okL l with
            | false => rfl
            | true => exact absurd (hdr h) hx
          have HF := Lib.hid (HE2.out hno)
          clear hno hdr hx hx2
          go_wp2_with fail
          with_reducible refine (HC.out _).mono ?_
          rintro e w2 ⟨rfl, rfl⟩
          go_wp2_with fail
          refine bodyPost_ret (v := .tuple #[.string ⟨#[]⟩, .int .i64 21]) (by simp [results, Tryd.results25, go_sem]) rfl ⟨by rw [HF.out.1, HF.out.2], hB⟩
      · have hge : ¬ (j : Int) < (n : Int) := by omega
        have htk : l.take j = l := List.take_of_length_le (by rw [HN.out]; omega)
        have hokl := HOk.out
        rw [htk] at hokl ⊢
        have HF := Lib.hid (HE1.out hokl)
        clear hokl htk
        go_wp2_with fail
        refine bodyPost_ret (v := .tuple #[.string (X ++ joinB l), .int .i64 0]) (by simp [results, Tryd.results25, go_sem]) rfl ⟨by rw [HF.out.1, HF.out.2], hB⟩
end Go.Proofs.YtbibnfchmffhaaaDoor
