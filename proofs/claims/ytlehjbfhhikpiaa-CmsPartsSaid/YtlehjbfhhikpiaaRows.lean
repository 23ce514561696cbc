/-
  No cell of these rows narrows 'for every input' (looked for: loops, veiled, ifaces, maps, wideKeys, modest, calm, conditions, laid).
  DERIVED. THE GIVEN ROWS OF THIS SEAT. 7 by the template 'for every input the law returns true; each argument reads behind the call as it read before'; 0 by the template 'total and deterministic' (their statements: YtlehjbfhhikpiaaTotals.lean).
  GIVEN WITH THE SEED: the statements are not yours to turn. If you find one false, say at which input.
  Laid BY PROGRAM, IN A SANDBOX (cutbox-rows.mjs): the forced cells as the released guide's own fill.sh prints them over the translation 50ef705645a5efb1… (all of the seat's roots in one cut). By AI agents, Wed Nov 11 2026. No macro, syntax, notation, axiom, sorry.
-/
import Derived.Test.YtlehjbfhhikpiaaChecked
import GoSem.Claim
import GoSem.ClaimJoined
import GoSem.ClaimMapViews
import Derived.JoinedTies
import Derived.KernelRfl
namespace Go.Proofs.Ytlehjbfhhikpiaa
/- THE CELL 'sum', in the pinned program and in every row, IS THE sha256 OF THE DUMP (.gsa) THAT YtlehjbfhhikpiaaProg.lean LOADS. Nothing in Lean hashes anything: it is a label: what it is worth is what the hold of that sum in a sandbox is worth. -/
noncomputable def Try.pinned : Pinned := { name := "ytlehjbfhhikpiaa", sum := "50ef705645a5efb1c11a98b0eca69a16ac660ac265bd20e2f04af5b6d11c3365", checked := Try.checked }
namespace Rows
def none {H : Type} : Left H := { results := [], args := [] }

/-- 'aviarylaw08.CmsMakes': WHATEVER THE INPUT: true; the input reads as it did. -/
def cmsMakesSpec : ChangeSpec := { name := "cmsMakes", fn := fun _ => fun
  | [d1, d2, d3, d4, d5] => { results := [.lit (.bool true)], args := [d1, d2, d3, d4, d5] }
  | _ => none }
def cmsMakesRow : OpenClaim := { program := "ytlehjbfhhikpiaa", sum := "50ef705645a5efb1c11a98b0eca69a16ac660ac265bd20e2f04af5b6d11c3365", func := "aviary/aviarylaw08.CmsMakes", spec := "cmsMakes", inPlace := ["math/bits.Add64"], unfollowed := true, recurses := true, apart := false }
def CmsMakesSaid : Prop := cmsMakesRow.holds Try.pinned (OpenSpec.ofChange cmsMakesSpec)

/-- ITS FALSE NEIGHBOUR: 'it returns false'. Refute it at one input. -/
def cmsMakesWrong : ChangeSpec := { name := "cmsMakes", fn := fun _ => fun
  | [d1, d2, d3, d4, d5] => { results := [.lit (.bool false)], args := [d1, d2, d3, d4, d5] }
  | _ => none }
def CmsMakesWrongFalsely : Prop := cmsMakesRow.holds Try.pinned (OpenSpec.ofChange cmsMakesWrong)

/-- 'aviarylaw08.CmsOwn': WHATEVER THE INPUT: true; the input reads as it did. -/
def cmsOwnSpec : ChangeSpec := { name := "cmsOwn", fn := fun _ => fun
  | [d1, d2, d3, d4] => { results := [.lit (.bool true)], args := [d1, d2, d3, d4] }
  | _ => none }
def cmsOwnRow : OpenClaim := { program := "ytlehjbfhhikpiaa", sum := "50ef705645a5efb1c11a98b0eca69a16ac660ac265bd20e2f04af5b6d11c3365", func := "aviary/aviarylaw08.CmsOwn", spec := "cmsOwn", inPlace := ["math/bits.Add64"], unfollowed := true, recurses := true, apart := false }
def CmsOwnSaid : Prop := cmsOwnRow.holds Try.pinned (OpenSpec.ofChange cmsOwnSpec)

/-- ITS FALSE NEIGHBOUR: 'it returns false'. Refute it at one input. -/
def cmsOwnWrong : ChangeSpec := { name := "cmsOwn", fn := fun _ => fun
  | [d1, d2, d3, d4] => { results := [.lit (.bool false)], args := [d1, d2, d3, d4] }
  | _ => none }
def CmsOwnWrongFalsely : Prop := cmsOwnRow.holds Try.pinned (OpenSpec.ofChange cmsOwnWrong)

/-- 'aviarylaw08.CmsCounts': WHATEVER THE INPUT: true; the input reads as it did. -/
def cmsCountsSpec : ChangeSpec := { name := "cmsCounts", fn := fun _ => fun
  | [d1, d2, d3, d4] => { results := [.lit (.bool true)], args := [d1, d2, d3, d4] }
  | _ => none }
def cmsCountsRow : OpenClaim := { program := "ytlehjbfhhikpiaa", sum := "50ef705645a5efb1c11a98b0eca69a16ac660ac265bd20e2f04af5b6d11c3365", func := "aviary/aviarylaw08.CmsCounts", spec := "cmsCounts", inPlace := ["math/bits.Add64"], unfollowed := true, recurses := true, apart := false }
def CmsCountsSaid : Prop := cmsCountsRow.holds Try.pinned (OpenSpec.ofChange cmsCountsSpec)

/-- ITS FALSE NEIGHBOUR: 'it returns false'. Refute it at one input. -/
def cmsCountsWrong : ChangeSpec := { name := "cmsCounts", fn := fun _ => fun
  | [d1, d2, d3, d4] => { results := [.lit (.bool false)], args := [d1, d2, d3, d4] }
  | _ => none }
def CmsCountsWrongFalsely : Prop := cmsCountsRow.holds Try.pinned (OpenSpec.ofChange cmsCountsWrong)

/-- 'aviarylaw08.CmsParts': WHATEVER THE INPUT: true; the input reads as it did. -/
def cmsPartsSpec : ChangeSpec := { name := "cmsParts", fn := fun _ => fun
  | [d1, d2, d3, d4] => { results := [.lit (.bool true)], args := [d1, d2, d3, d4] }
  | _ => none }
def cmsPartsRow : OpenClaim := { program := "ytlehjbfhhikpiaa", sum := "50ef705645a5efb1c11a98b0eca69a16ac660ac265bd20e2f04af5b6d11c3365", func := "aviary/aviarylaw08.CmsParts", spec := "cmsParts", inPlace := ["math/bits.Add64"], unfollowed := true, recurses := true, apart := false }
def CmsPartsSaid : Prop := cmsPartsRow.holds Try.pinned (OpenSpec.ofChange cmsPartsSpec)

/-- ITS FALSE NEIGHBOUR: 'it returns false'. Refute it at one input. -/
def cmsPartsWrong : ChangeSpec := { name := "cmsParts", fn := fun _ => fun
  | [d1, d2, d3, d4] => { results := [.lit (.bool false)], args := [d1, d2, d3, d4] }
  | _ => none }
def CmsPartsWrongFalsely : Prop := cmsPartsRow.holds Try.pinned (OpenSpec.ofChange cmsPartsWrong)

/-- 'aviarylaw08.CmsTwice': WHATEVER THE INPUT: true; the input reads as it did. -/
def cmsTwiceSpec : ChangeSpec := { name := "cmsTwice", fn := fun _ => fun
  | [d1, d2, d3, d4] => { results := [.lit (.bool true)], args := [d1, d2, d3, d4] }
  | _ => none }
def cmsTwiceRow : OpenClaim := { program := "ytlehjbfhhikpiaa", sum := "50ef705645a5efb1c11a98b0eca69a16ac660ac265bd20e2f04af5b6d11c3365", func := "aviary/aviarylaw08.CmsTwice", spec := "cmsTwice", inPlace := ["math/bits.Add64"], unfollowed := true, recurses := true, apart := false }
def CmsTwiceSaid : Prop := cmsTwiceRow.holds Try.pinned (OpenSpec.ofChange cmsTwiceSpec)

/-- ITS FALSE NEIGHBOUR: 'it returns false'. Refute it at one input. -/
def cmsTwiceWrong : ChangeSpec := { name := "cmsTwice", fn := fun _ => fun
  | [d1, d2, d3, d4] => { results := [.lit (.bool false)], args := [d1, d2, d3, d4] }
  | _ => none }
def CmsTwiceWrongFalsely : Prop := cmsTwiceRow.holds Try.pinned (OpenSpec.ofChange cmsTwiceWrong)

/-- 'aviarylaw08.CmsMerges': WHATEVER THE INPUT: true; the input reads as it did. -/
def cmsMergesSpec : ChangeSpec := { name := "cmsMerges", fn := fun _ => fun
  | [d1, d2] => { results := [.lit (.bool true)], args := [d1, d2] }
  | _ => none }
def cmsMergesRow : OpenClaim := { program := "ytlehjbfhhikpiaa", sum := "50ef705645a5efb1c11a98b0eca69a16ac660ac265bd20e2f04af5b6d11c3365", func := "aviary/aviarylaw08.CmsMerges", spec := "cmsMerges", inPlace := ["math/bits.Add64"], unfollowed := true, recurses := true, apart := false }
def CmsMergesSaid : Prop := cmsMergesRow.holds Try.pinned (OpenSpec.ofChange cmsMergesSpec)

/-- ITS FALSE NEIGHBOUR: 'it returns false'. Refute it at one input. -/
def cmsMergesWrong : ChangeSpec := { name := "cmsMerges", fn := fun _ => fun
  | [d1, d2] => { results := [.lit (.bool false)], args := [d1, d2] }
  | _ => none }
def CmsMergesWrongFalsely : Prop := cmsMergesRow.holds Try.pinned (OpenSpec.ofChange cmsMergesWrong)

/-- 'aviarylaw08.CmsLowers': WHATEVER THE INPUT: true; the input reads as it did. -/
def cmsLowersSpec : ChangeSpec := { name := "cmsLowers", fn := fun _ => fun
  | [d1, d2, d3, d4] => { results := [.lit (.bool true)], args := [d1, d2, d3, d4] }
  | _ => none }
def cmsLowersRow : OpenClaim := { program := "ytlehjbfhhikpiaa", sum := "50ef705645a5efb1c11a98b0eca69a16ac660ac265bd20e2f04af5b6d11c3365", func := "aviary/aviarylaw08.CmsLowers", spec := "cmsLowers", inPlace := ["math/bits.Add64"], unfollowed := true, recurses := true, apart := false }
def CmsLowersSaid : Prop := cmsLowersRow.holds Try.pinned (OpenSpec.ofChange cmsLowersSpec)

/-- ITS FALSE NEIGHBOUR: 'it returns false'. Refute it at one input. -/
def cmsLowersWrong : ChangeSpec := { name := "cmsLowers", fn := fun _ => fun
  | [d1, d2, d3, d4] => { results := [.lit (.bool false)], args := [d1, d2, d3, d4] }
  | _ => none }
def CmsLowersWrongFalsely : Prop := cmsLowersRow.holds Try.pinned (OpenSpec.ofChange cmsLowersWrong)

/- THE SECOND FORM. 'bulk': how many values and letters a reading holds, each counted each time it is reached (what is shared counts as often as it is met; a slice's spare places count too). A statement '..UptoSaid' is the law's where the arguments, and the package variables that the reading takes, are together of bulk at most 1048576: NARROWER than '..Said'. Prove '..Said' where nothing that the law and all that it calls make is longer than what came in: it says more and counts as full. Else prove '..UptoSaid'. A law counts once. -/
mutual
def uptoBulk {H : Type} : DataW H → Nat
  | .lit (.string bytes) => bytes.length + 1
  | .lit _ => 1
  | .nil => 1
  | .ptr d => uptoBulk d + 1
  | .slice elems spare => uptoBulkAll elems + uptoBulkAll spare + 1
  | .agg parts => uptoBulkAll parts + 1
  | .iface _ d => uptoBulk d + 1
  | .map entries => uptoBulkEntries entries + 1
  | .held _ => 1
def uptoBulkAll {H : Type} : List (DataW H) → Nat
  | [] => 0
  | d :: r => uptoBulk d + uptoBulkAll r
def uptoBulkEntries {H : Type} : List (Lit × DataW H) → Nat
  | [] => 0
  | x :: r => uptoBulkEntry x + uptoBulkEntries r
def uptoBulkEntry {H : Type} : Lit × DataW H → Nat
  | (.string bytes, d) => bytes.length + uptoBulk d + 1
  | (_, d) => uptoBulk d + 1
 end
def uptoSmall : (H : Type) → List (DataW H) → Bool := fun _ ds => decide (uptoBulkAll ds ≤ 1048576)
def OpenSpec.upto (s : _root_.Go.ChangeSpec) : _root_.Go.OpenSpec := { _root_.Go.OpenSpec.ofChange s with cond := some uptoSmall }

/-- 'aviarylaw08.CmsMakes', WHERE WHAT IT READS IS OF BULK AT MOST 1048576: true; the input reads as it did. -/
def cmsMakesUptoRow : OpenClaim := { program := "ytlehjbfhhikpiaa", sum := "50ef705645a5efb1c11a98b0eca69a16ac660ac265bd20e2f04af5b6d11c3365", func := "aviary/aviarylaw08.CmsMakes", spec := "cmsMakes", inPlace := ["math/bits.Add64"], unfollowed := true, recurses := true, apart := false, narrowed := true }
def CmsMakesUptoSaid : Prop := cmsMakesUptoRow.holds Try.pinned (OpenSpec.upto cmsMakesSpec)

/-- 'aviarylaw08.CmsOwn', WHERE WHAT IT READS IS OF BULK AT MOST 1048576: true; the input reads as it did. -/
def cmsOwnUptoRow : OpenClaim := { program := "ytlehjbfhhikpiaa", sum := "50ef705645a5efb1c11a98b0eca69a16ac660ac265bd20e2f04af5b6d11c3365", func := "aviary/aviarylaw08.CmsOwn", spec := "cmsOwn", inPlace := ["math/bits.Add64"], unfollowed := true, recurses := true, apart := false, narrowed := true }
def CmsOwnUptoSaid : Prop := cmsOwnUptoRow.holds Try.pinned (OpenSpec.upto cmsOwnSpec)

/-- 'aviarylaw08.CmsCounts', WHERE WHAT IT READS IS OF BULK AT MOST 1048576: true; the input reads as it did. -/
def cmsCountsUptoRow : OpenClaim := { program := "ytlehjbfhhikpiaa", sum := "50ef705645a5efb1c11a98b0eca69a16ac660ac265bd20e2f04af5b6d11c3365", func := "aviary/aviarylaw08.CmsCounts", spec := "cmsCounts", inPlace := ["math/bits.Add64"], unfollowed := true, recurses := true, apart := false, narrowed := true }
def CmsCountsUptoSaid : Prop := cmsCountsUptoRow.holds Try.pinned (OpenSpec.upto cmsCountsSpec)

/-- 'aviarylaw08.CmsParts', WHERE WHAT IT READS IS OF BULK AT MOST 1048576: true; the input reads as it did. -/
def cmsPartsUptoRow : OpenClaim := { program := "ytlehjbfhhikpiaa", sum := "50ef705645a5efb1c11a98b0eca69a16ac660ac265bd20e2f04af5b6d11c3365", func := "aviary/aviarylaw08.CmsParts", spec := "cmsParts", inPlace := ["math/bits.Add64"], unfollowed := true, recurses := true, apart := false, narrowed := true }
def CmsPartsUptoSaid : Prop := cmsPartsUptoRow.holds Try.pinned (OpenSpec.upto cmsPartsSpec)

/-- 'aviarylaw08.CmsTwice', WHERE WHAT IT READS IS OF BULK AT MOST 1048576: true; the input reads as it did. -/
def cmsTwiceUptoRow : OpenClaim := { program := "ytlehjbfhhikpiaa", sum := "50ef705645a5efb1c11a98b0eca69a16ac660ac265bd20e2f04af5b6d11c3365", func := "aviary/aviarylaw08.CmsTwice", spec := "cmsTwice", inPlace := ["math/bits.Add64"], unfollowed := true, recurses := true, apart := false, narrowed := true }
def CmsTwiceUptoSaid : Prop := cmsTwiceUptoRow.holds Try.pinned (OpenSpec.upto cmsTwiceSpec)

/-- 'aviarylaw08.CmsMerges', WHERE WHAT IT READS IS OF BULK AT MOST 1048576: true; the input reads as it did. -/
def cmsMergesUptoRow : OpenClaim := { program := "ytlehjbfhhikpiaa", sum := "50ef705645a5efb1c11a98b0eca69a16ac660ac265bd20e2f04af5b6d11c3365", func := "aviary/aviarylaw08.CmsMerges", spec := "cmsMerges", inPlace := ["math/bits.Add64"], unfollowed := true, recurses := true, apart := false, narrowed := true }
def CmsMergesUptoSaid : Prop := cmsMergesUptoRow.holds Try.pinned (OpenSpec.upto cmsMergesSpec)

/-- 'aviarylaw08.CmsLowers', WHERE WHAT IT READS IS OF BULK AT MOST 1048576: true; the input reads as it did. -/
def cmsLowersUptoRow : OpenClaim := { program := "ytlehjbfhhikpiaa", sum := "50ef705645a5efb1c11a98b0eca69a16ac660ac265bd20e2f04af5b6d11c3365", func := "aviary/aviarylaw08.CmsLowers", spec := "cmsLowers", inPlace := ["math/bits.Add64"], unfollowed := true, recurses := true, apart := false, narrowed := true }
def CmsLowersUptoSaid : Prop := cmsLowersUptoRow.holds Try.pinned (OpenSpec.upto cmsLowersSpec)

end Rows
end Go.Proofs.Ytlehjbfhhikpiaa
