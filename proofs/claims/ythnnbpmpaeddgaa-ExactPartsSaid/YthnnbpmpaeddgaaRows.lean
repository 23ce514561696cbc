/-
  No cell of these rows narrows 'for every input' (looked for: loops, veiled, ifaces, maps, wideKeys, modest, calm, conditions, laid).
  DERIVED. THE GIVEN ROWS OF THIS SEAT. 7 by the template 'for every input the law returns true; each argument reads behind the call as it read before'; 0 by the template 'total and deterministic' (their statements: YthnnbpmpaeddgaaTotals.lean).
  GIVEN WITH THE SEED: the statements are not yours to turn. If you find one false, say at which input.
  Laid BY PROGRAM, IN A SANDBOX (cutbox-rows.mjs): the forced cells as the released guide's own fill.sh prints them over the translation f5420fc3b0f6d469… (all of the seat's roots in one cut). By AI agents, Wed Nov 11 2026. No macro, syntax, notation, axiom, sorry.
-/
import Derived.Test.YthnnbpmpaeddgaaChecked
import GoSem.Claim
import GoSem.ClaimJoined
import GoSem.ClaimMapViews
import Derived.JoinedTies
import Derived.KernelRfl
namespace Go.Proofs.Ythnnbpmpaeddgaa
/- THE CELL 'sum', in the pinned program and in every row, IS THE sha256 OF THE DUMP (.gsa) THAT YthnnbpmpaeddgaaProg.lean LOADS. Nothing in Lean hashes anything: it is a label: what it is worth is what the hold of that sum in a sandbox is worth. -/
noncomputable def Try.pinned : Pinned := { name := "ythnnbpmpaeddgaa", sum := "f5420fc3b0f6d46917fc5b6c5b621d355a4c8e4fa31321f1d6e79730ff8f1883", checked := Try.checked }
namespace Rows
def none {H : Type} : Left H := { results := [], args := [] }

/-- 'aviarylaw06.ExactMerges': WHATEVER THE INPUT: true; the input reads as it did. -/
def exactMergesSpec : ChangeSpec := { name := "exactMerges", fn := fun _ => fun
  | [d1, d2, d3] => { results := [.lit (.bool true)], args := [d1, d2, d3] }
  | _ => none }
def exactMergesRow : OpenClaim := { program := "ythnnbpmpaeddgaa", sum := "f5420fc3b0f6d46917fc5b6c5b621d355a4c8e4fa31321f1d6e79730ff8f1883", func := "aviary/aviarylaw06.ExactMerges", spec := "exactMerges", unfollowed := true, recurses := true, apart := false }
def ExactMergesSaid : Prop := exactMergesRow.holds Try.pinned (OpenSpec.ofChange exactMergesSpec)

/-- ITS FALSE NEIGHBOUR: 'it returns false'. Refute it at one input. -/
def exactMergesWrong : ChangeSpec := { name := "exactMerges", fn := fun _ => fun
  | [d1, d2, d3] => { results := [.lit (.bool false)], args := [d1, d2, d3] }
  | _ => none }
def ExactMergesWrongFalsely : Prop := exactMergesRow.holds Try.pinned (OpenSpec.ofChange exactMergesWrong)

/-- 'aviarylaw06.ExactHas': WHATEVER THE INPUT: true; the input reads as it did. -/
def exactHasSpec : ChangeSpec := { name := "exactHas", fn := fun _ => fun
  | [d1, d2, d3] => { results := [.lit (.bool true)], args := [d1, d2, d3] }
  | _ => none }
def exactHasRow : OpenClaim := { program := "ythnnbpmpaeddgaa", sum := "f5420fc3b0f6d46917fc5b6c5b621d355a4c8e4fa31321f1d6e79730ff8f1883", func := "aviary/aviarylaw06.ExactHas", spec := "exactHas", unfollowed := true, recurses := true, apart := false }
def ExactHasSaid : Prop := exactHasRow.holds Try.pinned (OpenSpec.ofChange exactHasSpec)

/-- ITS FALSE NEIGHBOUR: 'it returns false'. Refute it at one input. -/
def exactHasWrong : ChangeSpec := { name := "exactHas", fn := fun _ => fun
  | [d1, d2, d3] => { results := [.lit (.bool false)], args := [d1, d2, d3] }
  | _ => none }
def ExactHasWrongFalsely : Prop := exactHasRow.holds Try.pinned (OpenSpec.ofChange exactHasWrong)

/-- 'aviarylaw06.ExactMakes': WHATEVER THE INPUT: true; the input reads as it did. -/
def exactMakesSpec : ChangeSpec := { name := "exactMakes", fn := fun _ => fun
  | [d1, d2, d3] => { results := [.lit (.bool true)], args := [d1, d2, d3] }
  | _ => none }
def exactMakesRow : OpenClaim := { program := "ythnnbpmpaeddgaa", sum := "f5420fc3b0f6d46917fc5b6c5b621d355a4c8e4fa31321f1d6e79730ff8f1883", func := "aviary/aviarylaw06.ExactMakes", spec := "exactMakes", unfollowed := true, recurses := true, apart := false }
def ExactMakesSaid : Prop := exactMakesRow.holds Try.pinned (OpenSpec.ofChange exactMakesSpec)

/-- ITS FALSE NEIGHBOUR: 'it returns false'. Refute it at one input. -/
def exactMakesWrong : ChangeSpec := { name := "exactMakes", fn := fun _ => fun
  | [d1, d2, d3] => { results := [.lit (.bool false)], args := [d1, d2, d3] }
  | _ => none }
def ExactMakesWrongFalsely : Prop := exactMakesRow.holds Try.pinned (OpenSpec.ofChange exactMakesWrong)

/-- 'aviarylaw06.ExactParts': WHATEVER THE INPUT: true; the input reads as it did. -/
def exactPartsSpec : ChangeSpec := { name := "exactParts", fn := fun _ => fun
  | [d1, d2] => { results := [.lit (.bool true)], args := [d1, d2] }
  | _ => none }
def exactPartsRow : OpenClaim := { program := "ythnnbpmpaeddgaa", sum := "f5420fc3b0f6d46917fc5b6c5b621d355a4c8e4fa31321f1d6e79730ff8f1883", func := "aviary/aviarylaw06.ExactParts", spec := "exactParts", unfollowed := true, recurses := true, apart := false }
def ExactPartsSaid : Prop := exactPartsRow.holds Try.pinned (OpenSpec.ofChange exactPartsSpec)

/-- ITS FALSE NEIGHBOUR: 'it returns false'. Refute it at one input. -/
def exactPartsWrong : ChangeSpec := { name := "exactParts", fn := fun _ => fun
  | [d1, d2] => { results := [.lit (.bool false)], args := [d1, d2] }
  | _ => none }
def ExactPartsWrongFalsely : Prop := exactPartsRow.holds Try.pinned (OpenSpec.ofChange exactPartsWrong)

/-- 'aviarylaw06.ExactFull': WHATEVER THE INPUT: true; the input reads as it did. -/
def exactFullSpec : ChangeSpec := { name := "exactFull", fn := fun _ => fun
  | [d1, d2] => { results := [.lit (.bool true)], args := [d1, d2] }
  | _ => none }
def exactFullRow : OpenClaim := { program := "ythnnbpmpaeddgaa", sum := "f5420fc3b0f6d46917fc5b6c5b621d355a4c8e4fa31321f1d6e79730ff8f1883", func := "aviary/aviarylaw06.ExactFull", spec := "exactFull", unfollowed := true, recurses := true, apart := false }
def ExactFullSaid : Prop := exactFullRow.holds Try.pinned (OpenSpec.ofChange exactFullSpec)

/-- ITS FALSE NEIGHBOUR: 'it returns false'. Refute it at one input. -/
def exactFullWrong : ChangeSpec := { name := "exactFull", fn := fun _ => fun
  | [d1, d2] => { results := [.lit (.bool false)], args := [d1, d2] }
  | _ => none }
def ExactFullWrongFalsely : Prop := exactFullRow.holds Try.pinned (OpenSpec.ofChange exactFullWrong)

/-- 'aviarylaw06.ExactOwn': WHATEVER THE INPUT: true; the input reads as it did. -/
def exactOwnSpec : ChangeSpec := { name := "exactOwn", fn := fun _ => fun
  | [d] => { results := [.lit (.bool true)], args := [d] }
  | _ => none }
def exactOwnRow : OpenClaim := { program := "ythnnbpmpaeddgaa", sum := "f5420fc3b0f6d46917fc5b6c5b621d355a4c8e4fa31321f1d6e79730ff8f1883", func := "aviary/aviarylaw06.ExactOwn", spec := "exactOwn", unfollowed := true, recurses := true, apart := false }
def ExactOwnSaid : Prop := exactOwnRow.holds Try.pinned (OpenSpec.ofChange exactOwnSpec)

/-- ITS FALSE NEIGHBOUR: 'it returns false'. Refute it at one input. -/
def exactOwnWrong : ChangeSpec := { name := "exactOwn", fn := fun _ => fun
  | [d] => { results := [.lit (.bool false)], args := [d] }
  | _ => none }
def ExactOwnWrongFalsely : Prop := exactOwnRow.holds Try.pinned (OpenSpec.ofChange exactOwnWrong)

/-- 'aviarylaw06.ExactRules': WHATEVER THE INPUT: true; the input reads as it did. -/
def exactRulesSpec : ChangeSpec := { name := "exactRules", fn := fun _ => fun
  | [d1, d2, d3] => { results := [.lit (.bool true)], args := [d1, d2, d3] }
  | _ => none }
def exactRulesRow : OpenClaim := { program := "ythnnbpmpaeddgaa", sum := "f5420fc3b0f6d46917fc5b6c5b621d355a4c8e4fa31321f1d6e79730ff8f1883", func := "aviary/aviarylaw06.ExactRules", spec := "exactRules", unfollowed := true, recurses := true, apart := false }
def ExactRulesSaid : Prop := exactRulesRow.holds Try.pinned (OpenSpec.ofChange exactRulesSpec)

/-- ITS FALSE NEIGHBOUR: 'it returns false'. Refute it at one input. -/
def exactRulesWrong : ChangeSpec := { name := "exactRules", fn := fun _ => fun
  | [d1, d2, d3] => { results := [.lit (.bool false)], args := [d1, d2, d3] }
  | _ => none }
def ExactRulesWrongFalsely : Prop := exactRulesRow.holds Try.pinned (OpenSpec.ofChange exactRulesWrong)

/- THE SECOND FORM. 'bulk': how many values and letters a reading holds, each counted each time it is reached (what is shared counts as often as it is met; a slice's spare places count too). A statement '..UptoSaid' is the law's where the arguments, and the package variables that the reading takes, are together of bulk at most 1048576: NARROWER than '..Said'. Prove '..Said' where nothing that the law and all that it calls make is longer than what came in: it says more and counts as full. Else prove '..UptoSaid'. A law counts once. -/
mutual
def uptoBulk {H : Type} : DataW H → Nat
  | .lit (.string bytes) => bytes.length + 1
  | .lit _ => 1
  | .nil => 1
  | .ptr d => uptoBulk d + 1
  | .slice elems spare => uptoBulkAll elems + uptoBulkAll spare + 1
  | .agg parts => uptoBulkAll parts + 1
  | .iface _ d => uptoBulk d + 1
  | .map entries => uptoBulkEntries entries + 1
  | .held _ => 1
def uptoBulkAll {H : Type} : List (DataW H) → Nat
  | [] => 0
  | d :: r => uptoBulk d + uptoBulkAll r
def uptoBulkEntries {H : Type} : List (Lit × DataW H) → Nat
  | [] => 0
  | x :: r => uptoBulkEntry x + uptoBulkEntries r
def uptoBulkEntry {H : Type} : Lit × DataW H → Nat
  | (.string bytes, d) => bytes.length + uptoBulk d + 1
  | (_, d) => uptoBulk d + 1
 end
def uptoSmall : (H : Type) → List (DataW H) → Bool := fun _ ds => decide (uptoBulkAll ds ≤ 1048576)
def OpenSpec.upto (s : _root_.Go.ChangeSpec) : _root_.Go.OpenSpec := { _root_.Go.OpenSpec.ofChange s with cond := some uptoSmall }

/-- 'aviarylaw06.ExactMerges', WHERE WHAT IT READS IS OF BULK AT MOST 1048576: true; the input reads as it did. -/
def exactMergesUptoRow : OpenClaim := { program := "ythnnbpmpaeddgaa", sum := "f5420fc3b0f6d46917fc5b6c5b621d355a4c8e4fa31321f1d6e79730ff8f1883", func := "aviary/aviarylaw06.ExactMerges", spec := "exactMerges", unfollowed := true, recurses := true, apart := false, narrowed := true }
def ExactMergesUptoSaid : Prop := exactMergesUptoRow.holds Try.pinned (OpenSpec.upto exactMergesSpec)

/-- 'aviarylaw06.ExactHas', WHERE WHAT IT READS IS OF BULK AT MOST 1048576: true; the input reads as it did. -/
def exactHasUptoRow : OpenClaim := { program := "ythnnbpmpaeddgaa", sum := "f5420fc3b0f6d46917fc5b6c5b621d355a4c8e4fa31321f1d6e79730ff8f1883", func := "aviary/aviarylaw06.ExactHas", spec := "exactHas", unfollowed := true, recurses := true, apart := false, narrowed := true }
def ExactHasUptoSaid : Prop := exactHasUptoRow.holds Try.pinned (OpenSpec.upto exactHasSpec)

/-- 'aviarylaw06.ExactMakes', WHERE WHAT IT READS IS OF BULK AT MOST 1048576: true; the input reads as it did. -/
def exactMakesUptoRow : OpenClaim := { program := "ythnnbpmpaeddgaa", sum := "f5420fc3b0f6d46917fc5b6c5b621d355a4c8e4fa31321f1d6e79730ff8f1883", func := "aviary/aviarylaw06.ExactMakes", spec := "exactMakes", unfollowed := true, recurses := true, apart := false, narrowed := true }
def ExactMakesUptoSaid : Prop := exactMakesUptoRow.holds Try.pinned (OpenSpec.upto exactMakesSpec)

/-- 'aviarylaw06.ExactParts', WHERE WHAT IT READS IS OF BULK AT MOST 1048576: true; the input reads as it did. -/
def exactPartsUptoRow : OpenClaim := { program := "ythnnbpmpaeddgaa", sum := "f5420fc3b0f6d46917fc5b6c5b621d355a4c8e4fa31321f1d6e79730ff8f1883", func := "aviary/aviarylaw06.ExactParts", spec := "exactParts", unfollowed := true, recurses := true, apart := false, narrowed := true }
def ExactPartsUptoSaid : Prop := exactPartsUptoRow.holds Try.pinned (OpenSpec.upto exactPartsSpec)

/-- 'aviarylaw06.ExactFull', WHERE WHAT IT READS IS OF BULK AT MOST 1048576: true; the input reads as it did. -/
def exactFullUptoRow : OpenClaim := { program := "ythnnbpmpaeddgaa", sum := "f5420fc3b0f6d46917fc5b6c5b621d355a4c8e4fa31321f1d6e79730ff8f1883", func := "aviary/aviarylaw06.ExactFull", spec := "exactFull", unfollowed := true, recurses := true, apart := false, narrowed := true }
def ExactFullUptoSaid : Prop := exactFullUptoRow.holds Try.pinned (OpenSpec.upto exactFullSpec)

/-- 'aviarylaw06.ExactOwn', WHERE WHAT IT READS IS OF BULK AT MOST 1048576: true; the input reads as it did. -/
def exactOwnUptoRow : OpenClaim := { program := "ythnnbpmpaeddgaa", sum := "f5420fc3b0f6d46917fc5b6c5b621d355a4c8e4fa31321f1d6e79730ff8f1883", func := "aviary/aviarylaw06.ExactOwn", spec := "exactOwn", unfollowed := true, recurses := true, apart := false, narrowed := true }
def ExactOwnUptoSaid : Prop := exactOwnUptoRow.holds Try.pinned (OpenSpec.upto exactOwnSpec)

/-- 'aviarylaw06.ExactRules', WHERE WHAT IT READS IS OF BULK AT MOST 1048576: true; the input reads as it did. -/
def exactRulesUptoRow : OpenClaim := { program := "ythnnbpmpaeddgaa", sum := "f5420fc3b0f6d46917fc5b6c5b621d355a4c8e4fa31321f1d6e79730ff8f1883", func := "aviary/aviarylaw06.ExactRules", spec := "exactRules", unfollowed := true, recurses := true, apart := false, narrowed := true }
def ExactRulesUptoSaid : Prop := exactRulesUptoRow.holds Try.pinned (OpenSpec.upto exactRulesSpec)

end Rows
end Go.Proofs.Ythnnbpmpaeddgaa
