/-
  errors.Is over the two sentinels of package field, and what is told of them. The walk of errors.Is is turned from a worked example of the kit (Sentry).
-/
import Derived.Test.YtpekedldoplmmaaDoorChecked
import Derived.Test.YtpekedldoplmmaaDoorRow
import Derived.Test.YtpekedldoplmmaaDoorLater
import Derived.LaidEql
import Derived.Stop.Asserts
import Derived.RowKitTokens
namespace Go.Proofs.YtpekedldoplmmaaDoor
open Go.RowKit Go.Extern.Stop Go.Stop Go.Extern

theorem isTypeOf (v : Value) (w : World) : (Extern.ReflectliteType.typeOf #[.iface 122 v]).run Tryd.prog w = .ok (.iface 112 (.agg #[.pointer (some ⟨2, 122, none⟩)])) w := by kernel_rfl
theorem isComparable (w : World) : ((Extern.ReflectliteType.method fun t => do Go.Extern.Rtype.noPackHeld "Comparable" t; (fun a => Value.bool a.comparable) <$> typeInfo t) #[.agg #[.pointer (some ⟨2, 122, none⟩)]]).run Tryd.prog w = .ok (.bool true) w := by kernel_rfl
theorem isMethodComparable (k : Nat) (v : Value) (w : World) : (Go.method (k + 1) 112 v "Comparable").run Tryd.prog w = .ok (80, v) w := by kernel_rfl
theorem isComp : (Tryd.prog.info? 122).map (·.comparable) = some true := by kernel_rfl
theorem isSize : (Tryd.prog.info? 148).map (·.size) = some 1 := by kernel_rfl
theorem noIsE (v : Value) (xT : TypeId) (w : World) : (Instr.typeAssert (.iface 122 v) xT 114 true).run Tryd.prog w = .ok (.tuple #[.nilIface, .bool false]) w := run_typeAssert_lacksB Tryd.underlying114 (by kernel_rfl) (by kernel_rfl) v xT w
theorem noUnwrapE (v : Value) (xT : TypeId) (w : World) : (Instr.typeAssert (.iface 122 v) xT 117 true).run Tryd.prog w = .ok (.tuple #[.nilIface, .bool false]) w := run_typeAssert_lacksB Tryd.underlying117 (by kernel_rfl) (by kernel_rfl) v xT w
theorem noUnwrapsE (v : Value) (xT : TypeId) (w : World) : (Instr.typeAssert (.iface 122 v) xT 119 true).run Tryd.prog w = .ok (.tuple #[.nilIface, .bool false]) w := run_typeAssert_lacksB Tryd.underlying119 (by kernel_rfl) (by kernel_rfl) v xT w

set_option maxRecDepth 100000 in
/-- errors.Is(x, x), x a pointer to an errors.errorString. -/
theorem is_same (a : Addr) (w : World) :
    Calls Tryd.prog 58 #[.iface 122 (.pointer (some a)), .iface 122 (.pointer (some a))] w fun e w' => e = .returned (.bool true) ∧ w' = w := by
  obtain ⟨i, hi, hcmp⟩ := Option.map_eq_some_iff.1 isComp
  obtain ⟨j, hj, hjs⟩ := Option.map_eq_some_iff.1 isSize
  have h8 := @run_callFunc_extern Tryd.prog 59 _ Extern.ReflectliteType.typeOf Tryd.func59 (by kernel_rfl) (by kernel_rfl) (by kernel_rfl) (by kernel_rfl)
  have h32 := @run_callFunc_extern Tryd.prog 80 _ (Extern.ReflectliteType.method fun t => do Go.Extern.Rtype.noPackHeld "Comparable" t; pure (.bool (← typeInfo t).comparable)) Tryd.func80 (by kernel_rfl) (by kernel_rfl) (by kernel_rfl) (by kernel_rfl)
  have tT := isTypeOf
  have cT := isComparable
  have mR := isMethodComparable
  have heq := run_eql_iface_ptr_same (P := Tryd.prog) w a Tryd.underlying54 Tryd.underlying122 hi hcmp hj
  go_enter Tryd.func58, Tryd.ntmps58
  go_wp2
  refine wp_loop_rounds 1 ?_
  rw [rounds_succ]
  go_wp2
  go_ret
  exact ⟨rfl, rfl⟩

set_option maxRecDepth 100000 in
/-- errors.Is(x, y), two different pointers to errors.errorString. -/
theorem is_other (a b : Addr) (ca cb : Array Value) (ta tb : TypeId) (w : World) (hne : a ≠ b) (ha : w.heap[a.block]? = some (.cells ca ta (0, 0))) (hb : w.heap[b.block]? = some (.cells cb tb (0, 0))) :
    Calls Tryd.prog 58 #[.iface 122 (.pointer (some a)), .iface 122 (.pointer (some b))] w fun e w' => e = .returned (.bool false) ∧ w' = w := by
  obtain ⟨i, hi, hcmp⟩ := Option.map_eq_some_iff.1 isComp
  obtain ⟨j, hj, hjs⟩ := Option.map_eq_some_iff.1 isSize
  have h8 := @run_callFunc_extern Tryd.prog 59 _ Extern.ReflectliteType.typeOf Tryd.func59 (by kernel_rfl) (by kernel_rfl) (by kernel_rfl) (by kernel_rfl)
  have h32 := @run_callFunc_extern Tryd.prog 80 _ (Extern.ReflectliteType.method fun t => do Go.Extern.Rtype.noPackHeld "Comparable" t; pure (.bool (← typeInfo t).comparable)) Tryd.func80 (by kernel_rfl) (by kernel_rfl) (by kernel_rfl) (by kernel_rfl)
  have tT := isTypeOf
  have cT := isComparable
  have mR := isMethodComparable
  have nE := noIsE
  have uE := noUnwrapE
  have vE := noUnwrapsE
  have heq := run_eql_iface_ptr_other (P := Tryd.prog) w Tryd.underlying54 Tryd.underlying122 hi hcmp hj (by rw [hjs]; decide) hne ha hb
  go_enter Tryd.func58, Tryd.ntmps58
  go_wp2
  refine wp_loop_rounds 1 ?_
  rw [rounds_succ]
  go_wp2
  go_ret
  exact ⟨rfl, rfl⟩

/-- The two sentinels lie as package field has laid them: errMore at a, errNone at b. -/
structure Sent (a b : Addr) (B : Nat) (w : World) : Prop where
  more : w.cell? ⟨1, 0, none⟩ = some (.iface 122 (.pointer (some a)))
  none_ : w.cell? ⟨0, 0, none⟩ = some (.iface 122 (.pointer (some b)))
  ne : a ≠ b
  ca : ∃ cs t, w.heap[a.block]? = some (.cells cs t (0, 0))
  cb : ∃ cs t, w.heap[b.block]? = some (.cells cs t (0, 0))
  ba : a.block < B
  bb : b.block < B
  b0 : 2 ≤ B
  bs : B ≤ w.heap.size

theorem Sent.later {a b : Addr} {B : Nat} {w w' : World} (h : Sent a b B w) (hB : Below B w w') : Sent a b B w' := by
  obtain ⟨m, n, ne, ⟨ca, ta, ha⟩, ⟨cb, tb, hb⟩, ba, bb, b0, bs⟩ := h
  exact ⟨(hB.cell (p := ⟨1, 0, none⟩) (by show 1 < B; omega)).trans m, (hB.cell (p := ⟨0, 0, none⟩) (by show 0 < B; omega)).trans n, ne,
    ⟨ca, ta, (hB.block _ ba).trans ha⟩, ⟨cb, tb, (hB.block _ bb).trans hb⟩, ba, bb, b0, Nat.le_trans bs hB.size⟩

set_option maxRecDepth 100000 in
theorem told_more (a b : Addr) (B : Nat) (w : World) (h : Sent a b B w) : Calls Tryd.prog 55 #[.iface 122 (.pointer (some a))] w fun e w' => e = .returned (.int .i64 20) ∧ w' = w := by
  have hm := h.more
  go_enter Tryd.func55, Tryd.ntmps55
  go_wp2_with fail
  refine (is_same a _).mono ?_
  rintro e w1 ⟨rfl, rfl⟩
  go_wp2_with fail
  go_ret
  exact ⟨rfl, rfl⟩

set_option maxRecDepth 100000 in
theorem told_none (a b : Addr) (B : Nat) (w : World) (h : Sent a b B w) : Calls Tryd.prog 55 #[.iface 122 (.pointer (some b))] w fun e w' => e = .returned (.int .i64 21) ∧ w' = w := by
  have hm := h.more
  have hn := h.none_
  go_enter Tryd.func55, Tryd.ntmps55
  go_wp2_with fail
  obtain ⟨ca, ta, ha⟩ := h.ca
  obtain ⟨cb, tb, hb⟩ := h.cb
  refine (is_other b a cb ca tb ta _ (Ne.symm h.ne) hb ha).mono ?_
  clear ha hb
  rintro e w1 ⟨rfl, rfl⟩
  go_wp2_with fail
  refine (is_same b _).mono ?_
  rintro e w1 ⟨rfl, rfl⟩
  go_wp2_with fail
  go_ret
  exact ⟨rfl, rfl⟩
end Go.Proofs.YtpekedldoplmmaaDoor
