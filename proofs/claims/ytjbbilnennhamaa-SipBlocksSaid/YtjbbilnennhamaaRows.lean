/-
  No cell of these rows narrows 'for every input' (looked for: loops, veiled, ifaces, maps, wideKeys, modest, calm, conditions, laid).
  DERIVED. THE GIVEN ROWS OF THIS SEAT. 7 by the template 'for every input the law returns true; each argument reads behind the call as it read before'; 0 by the template 'total and deterministic' (their statements: YtjbbilnennhamaaTotals.lean).
  GIVEN WITH THE SEED: the statements are not yours to turn. If you find one false, say at which input.
  Laid BY PROGRAM, IN A SANDBOX (cutbox-rows.mjs): the forced cells as the released guide's own fill.sh prints them over the translation c7dc3871bad703bb… (all of the seat's roots in one cut). By AI agents, Wed Nov 11 2026. No macro, syntax, notation, axiom, sorry.
-/
import Derived.Test.YtjbbilnennhamaaChecked
import GoSem.Claim
import GoSem.ClaimJoined
import GoSem.ClaimMapViews
import Derived.JoinedTies
import Derived.KernelRfl
namespace Go.Proofs.Ytjbbilnennhamaa
/- THE CELL 'sum', in the pinned program and in every row, IS THE sha256 OF THE DUMP (.gsa) THAT YtjbbilnennhamaaProg.lean LOADS. Nothing in Lean hashes anything: it is a label: what it is worth is what the hold of that sum in a sandbox is worth. -/
noncomputable def Try.pinned : Pinned := { name := "ytjbbilnennhamaa", sum := "c7dc3871bad703bb3af40fa5c33b4c24e35b8960533433786f6a19965f1e8fba", checked := Try.checked }
namespace Rows
def none {H : Type} : Left H := { results := [], args := [] }

/-- 'aviarylaw01.SipSums': WHATEVER THE INPUT: true; the input reads as it did. -/
def sipSumsSpec : ChangeSpec := { name := "sipSums", fn := fun _ => fun
  | [d1, d2] => { results := [.lit (.bool true)], args := [d1, d2] }
  | _ => none }
def sipSumsRow : OpenClaim := { program := "ytjbbilnennhamaa", sum := "c7dc3871bad703bb3af40fa5c33b4c24e35b8960533433786f6a19965f1e8fba", func := "aviary/aviarylaw01.SipSums", spec := "sipSums", unfollowed := true, recurses := true, apart := false }
def SipSumsSaid : Prop := sipSumsRow.holds Try.pinned (OpenSpec.ofChange sipSumsSpec)

/-- ITS FALSE NEIGHBOUR: 'it returns false'. Refute it at one input. -/
def sipSumsWrong : ChangeSpec := { name := "sipSums", fn := fun _ => fun
  | [d1, d2] => { results := [.lit (.bool false)], args := [d1, d2] }
  | _ => none }
def SipSumsWrongFalsely : Prop := sipSumsRow.holds Try.pinned (OpenSpec.ofChange sipSumsWrong)

/-- 'aviarylaw01.SipChildren': WHATEVER THE INPUT: true; the input reads as it did. -/
def sipChildrenSpec : ChangeSpec := { name := "sipChildren", fn := fun _ => fun
  | [d1, d2] => { results := [.lit (.bool true)], args := [d1, d2] }
  | _ => none }
def sipChildrenRow : OpenClaim := { program := "ytjbbilnennhamaa", sum := "c7dc3871bad703bb3af40fa5c33b4c24e35b8960533433786f6a19965f1e8fba", func := "aviary/aviarylaw01.SipChildren", spec := "sipChildren", unfollowed := true, recurses := true, apart := false }
def SipChildrenSaid : Prop := sipChildrenRow.holds Try.pinned (OpenSpec.ofChange sipChildrenSpec)

/-- ITS FALSE NEIGHBOUR: 'it returns false'. Refute it at one input. -/
def sipChildrenWrong : ChangeSpec := { name := "sipChildren", fn := fun _ => fun
  | [d1, d2] => { results := [.lit (.bool false)], args := [d1, d2] }
  | _ => none }
def SipChildrenWrongFalsely : Prop := sipChildrenRow.holds Try.pinned (OpenSpec.ofChange sipChildrenWrong)

/-- 'aviarylaw01.SipHalves': WHATEVER THE INPUT: true; the input reads as it did. -/
def sipHalvesSpec : ChangeSpec := { name := "sipHalves", fn := fun _ => fun
  | [d1, d2, d3] => { results := [.lit (.bool true)], args := [d1, d2, d3] }
  | _ => none }
def sipHalvesRow : OpenClaim := { program := "ytjbbilnennhamaa", sum := "c7dc3871bad703bb3af40fa5c33b4c24e35b8960533433786f6a19965f1e8fba", func := "aviary/aviarylaw01.SipHalves", spec := "sipHalves", unfollowed := true, recurses := true, apart := false }
def SipHalvesSaid : Prop := sipHalvesRow.holds Try.pinned (OpenSpec.ofChange sipHalvesSpec)

/-- ITS FALSE NEIGHBOUR: 'it returns false'. Refute it at one input. -/
def sipHalvesWrong : ChangeSpec := { name := "sipHalves", fn := fun _ => fun
  | [d1, d2, d3] => { results := [.lit (.bool false)], args := [d1, d2, d3] }
  | _ => none }
def SipHalvesWrongFalsely : Prop := sipHalvesRow.holds Try.pinned (OpenSpec.ofChange sipHalvesWrong)

/-- 'aviarylaw01.SipRounds': WHATEVER THE INPUT: true; the input reads as it did. -/
def sipRoundsSpec : ChangeSpec := { name := "sipRounds", fn := fun _ => fun
  | [d] => { results := [.lit (.bool true)], args := [d] }
  | _ => none }
def sipRoundsRow : OpenClaim := { program := "ytjbbilnennhamaa", sum := "c7dc3871bad703bb3af40fa5c33b4c24e35b8960533433786f6a19965f1e8fba", func := "aviary/aviarylaw01.SipRounds", spec := "sipRounds", unfollowed := true, recurses := true, apart := false }
def SipRoundsSaid : Prop := sipRoundsRow.holds Try.pinned (OpenSpec.ofChange sipRoundsSpec)

/-- ITS FALSE NEIGHBOUR: 'it returns false'. Refute it at one input. -/
def sipRoundsWrong : ChangeSpec := { name := "sipRounds", fn := fun _ => fun
  | [d] => { results := [.lit (.bool false)], args := [d] }
  | _ => none }
def SipRoundsWrongFalsely : Prop := sipRoundsRow.holds Try.pinned (OpenSpec.ofChange sipRoundsWrong)

/-- 'aviarylaw01.SipBack': WHATEVER THE INPUT: true; the input reads as it did. -/
def sipBackSpec : ChangeSpec := { name := "sipBack", fn := fun _ => fun
  | [d] => { results := [.lit (.bool true)], args := [d] }
  | _ => none }
def sipBackRow : OpenClaim := { program := "ytjbbilnennhamaa", sum := "c7dc3871bad703bb3af40fa5c33b4c24e35b8960533433786f6a19965f1e8fba", func := "aviary/aviarylaw01.SipBack", spec := "sipBack", unfollowed := true, recurses := true, apart := false }
def SipBackSaid : Prop := sipBackRow.holds Try.pinned (OpenSpec.ofChange sipBackSpec)

/-- ITS FALSE NEIGHBOUR: 'it returns false'. Refute it at one input. -/
def sipBackWrong : ChangeSpec := { name := "sipBack", fn := fun _ => fun
  | [d] => { results := [.lit (.bool false)], args := [d] }
  | _ => none }
def SipBackWrongFalsely : Prop := sipBackRow.holds Try.pinned (OpenSpec.ofChange sipBackWrong)

/-- 'aviarylaw01.SipApart': WHATEVER THE INPUT: true; the input reads as it did. -/
def sipApartSpec : ChangeSpec := { name := "sipApart", fn := fun _ => fun
  | [d1, d2] => { results := [.lit (.bool true)], args := [d1, d2] }
  | _ => none }
def sipApartRow : OpenClaim := { program := "ytjbbilnennhamaa", sum := "c7dc3871bad703bb3af40fa5c33b4c24e35b8960533433786f6a19965f1e8fba", func := "aviary/aviarylaw01.SipApart", spec := "sipApart", unfollowed := true, recurses := true, apart := false }
def SipApartSaid : Prop := sipApartRow.holds Try.pinned (OpenSpec.ofChange sipApartSpec)

/-- ITS FALSE NEIGHBOUR: 'it returns false'. Refute it at one input. -/
def sipApartWrong : ChangeSpec := { name := "sipApart", fn := fun _ => fun
  | [d1, d2] => { results := [.lit (.bool false)], args := [d1, d2] }
  | _ => none }
def SipApartWrongFalsely : Prop := sipApartRow.holds Try.pinned (OpenSpec.ofChange sipApartWrong)

/-- 'aviarylaw01.SipBlocks': WHATEVER THE INPUT: true; the input reads as it did. -/
def sipBlocksSpec : ChangeSpec := { name := "sipBlocks", fn := fun _ => fun
  | [d1, d2] => { results := [.lit (.bool true)], args := [d1, d2] }
  | _ => none }
def sipBlocksRow : OpenClaim := { program := "ytjbbilnennhamaa", sum := "c7dc3871bad703bb3af40fa5c33b4c24e35b8960533433786f6a19965f1e8fba", func := "aviary/aviarylaw01.SipBlocks", spec := "sipBlocks", unfollowed := true, recurses := true, apart := false }
def SipBlocksSaid : Prop := sipBlocksRow.holds Try.pinned (OpenSpec.ofChange sipBlocksSpec)

/-- ITS FALSE NEIGHBOUR: 'it returns false'. Refute it at one input. -/
def sipBlocksWrong : ChangeSpec := { name := "sipBlocks", fn := fun _ => fun
  | [d1, d2] => { results := [.lit (.bool false)], args := [d1, d2] }
  | _ => none }
def SipBlocksWrongFalsely : Prop := sipBlocksRow.holds Try.pinned (OpenSpec.ofChange sipBlocksWrong)

/- THE SECOND FORM. 'bulk': how many values and letters a reading holds, each counted each time it is reached (what is shared counts as often as it is met; a slice's spare places count too). A statement '..UptoSaid' is the law's where the arguments, and the package variables that the reading takes, are together of bulk at most 1048576: NARROWER than '..Said'. Prove '..Said' where nothing that the law and all that it calls make is longer than what came in: it says more and counts as full. Else prove '..UptoSaid'. A law counts once. -/
mutual
def uptoBulk {H : Type} : DataW H → Nat
  | .lit (.string bytes) => bytes.length + 1
  | .lit _ => 1
  | .nil => 1
  | .ptr d => uptoBulk d + 1
  | .slice elems spare => uptoBulkAll elems + uptoBulkAll spare + 1
  | .agg parts => uptoBulkAll parts + 1
  | .iface _ d => uptoBulk d + 1
  | .map entries => uptoBulkEntries entries + 1
  | .held _ => 1
def uptoBulkAll {H : Type} : List (DataW H) → Nat
  | [] => 0
  | d :: r => uptoBulk d + uptoBulkAll r
def uptoBulkEntries {H : Type} : List (Lit × DataW H) → Nat
  | [] => 0
  | x :: r => uptoBulkEntry x + uptoBulkEntries r
def uptoBulkEntry {H : Type} : Lit × DataW H → Nat
  | (.string bytes, d) => bytes.length + uptoBulk d + 1
  | (_, d) => uptoBulk d + 1
 end
def uptoSmall : (H : Type) → List (DataW H) → Bool := fun _ ds => decide (uptoBulkAll ds ≤ 1048576)
def OpenSpec.upto (s : _root_.Go.ChangeSpec) : _root_.Go.OpenSpec := { _root_.Go.OpenSpec.ofChange s with cond := some uptoSmall }

/-- 'aviarylaw01.SipSums', WHERE WHAT IT READS IS OF BULK AT MOST 1048576: true; the input reads as it did. -/
def sipSumsUptoRow : OpenClaim := { program := "ytjbbilnennhamaa", sum := "c7dc3871bad703bb3af40fa5c33b4c24e35b8960533433786f6a19965f1e8fba", func := "aviary/aviarylaw01.SipSums", spec := "sipSums", unfollowed := true, recurses := true, apart := false, narrowed := true }
def SipSumsUptoSaid : Prop := sipSumsUptoRow.holds Try.pinned (OpenSpec.upto sipSumsSpec)

/-- 'aviarylaw01.SipChildren', WHERE WHAT IT READS IS OF BULK AT MOST 1048576: true; the input reads as it did. -/
def sipChildrenUptoRow : OpenClaim := { program := "ytjbbilnennhamaa", sum := "c7dc3871bad703bb3af40fa5c33b4c24e35b8960533433786f6a19965f1e8fba", func := "aviary/aviarylaw01.SipChildren", spec := "sipChildren", unfollowed := true, recurses := true, apart := false, narrowed := true }
def SipChildrenUptoSaid : Prop := sipChildrenUptoRow.holds Try.pinned (OpenSpec.upto sipChildrenSpec)

/-- 'aviarylaw01.SipHalves', WHERE WHAT IT READS IS OF BULK AT MOST 1048576: true; the input reads as it did. -/
def sipHalvesUptoRow : OpenClaim := { program := "ytjbbilnennhamaa", sum := "c7dc3871bad703bb3af40fa5c33b4c24e35b8960533433786f6a19965f1e8fba", func := "aviary/aviarylaw01.SipHalves", spec := "sipHalves", unfollowed := true, recurses := true, apart := false, narrowed := true }
def SipHalvesUptoSaid : Prop := sipHalvesUptoRow.holds Try.pinned (OpenSpec.upto sipHalvesSpec)

/-- 'aviarylaw01.SipRounds', WHERE WHAT IT READS IS OF BULK AT MOST 1048576: true; the input reads as it did. -/
def sipRoundsUptoRow : OpenClaim := { program := "ytjbbilnennhamaa", sum := "c7dc3871bad703bb3af40fa5c33b4c24e35b8960533433786f6a19965f1e8fba", func := "aviary/aviarylaw01.SipRounds", spec := "sipRounds", unfollowed := true, recurses := true, apart := false, narrowed := true }
def SipRoundsUptoSaid : Prop := sipRoundsUptoRow.holds Try.pinned (OpenSpec.upto sipRoundsSpec)

/-- 'aviarylaw01.SipBack', WHERE WHAT IT READS IS OF BULK AT MOST 1048576: true; the input reads as it did. -/
def sipBackUptoRow : OpenClaim := { program := "ytjbbilnennhamaa", sum := "c7dc3871bad703bb3af40fa5c33b4c24e35b8960533433786f6a19965f1e8fba", func := "aviary/aviarylaw01.SipBack", spec := "sipBack", unfollowed := true, recurses := true, apart := false, narrowed := true }
def SipBackUptoSaid : Prop := sipBackUptoRow.holds Try.pinned (OpenSpec.upto sipBackSpec)

/-- 'aviarylaw01.SipApart', WHERE WHAT IT READS IS OF BULK AT MOST 1048576: true; the input reads as it did. -/
def sipApartUptoRow : OpenClaim := { program := "ytjbbilnennhamaa", sum := "c7dc3871bad703bb3af40fa5c33b4c24e35b8960533433786f6a19965f1e8fba", func := "aviary/aviarylaw01.SipApart", spec := "sipApart", unfollowed := true, recurses := true, apart := false, narrowed := true }
def SipApartUptoSaid : Prop := sipApartUptoRow.holds Try.pinned (OpenSpec.upto sipApartSpec)

/-- 'aviarylaw01.SipBlocks', WHERE WHAT IT READS IS OF BULK AT MOST 1048576: true; the input reads as it did. -/
def sipBlocksUptoRow : OpenClaim := { program := "ytjbbilnennhamaa", sum := "c7dc3871bad703bb3af40fa5c33b4c24e35b8960533433786f6a19965f1e8fba", func := "aviary/aviarylaw01.SipBlocks", spec := "sipBlocks", unfollowed := true, recurses := true, apart := false, narrowed := true }
def SipBlocksUptoSaid : Prop := sipBlocksUptoRow.holds Try.pinned (OpenSpec.upto sipBlocksSpec)

end Rows
end Go.Proofs.Ytjbbilnennhamaa
