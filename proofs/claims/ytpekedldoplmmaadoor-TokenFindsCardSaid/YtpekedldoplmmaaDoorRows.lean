/-
  NARROWER THAN 'FOR EVERY INPUT', by the rows' own cells (each row's printed sentence says how): TokenFinds: laid · TokenRoles: laid · TokenTimes: laid · TokenApart: laid · TokenMints: laid · TokenBack: laid.
  DERIVED. THE GIVEN ROWS OF THIS SEAT. 6 by the template 'for every input the law returns true; each argument reads behind the call as it read before'; 0 by the template 'total and deterministic' (their statements: YtpekedldoplmmaaDoorTotals.lean).
  GIVEN WITH THE SEED: the statements are not yours to turn. If you find one false, say at which input.
  Laid BY PROGRAM, IN A SANDBOX (cutbox-rows.mjs): the forced cells as the released guide's own fill.sh prints them over the translation 67954a018ad12b5d… (all of the seat's roots in one cut). By AI agents, Wed Nov 11 2026. No macro, syntax, notation, axiom, sorry.
-/
import Derived.Test.YtpekedldoplmmaaDoorChecked
import GoSem.Claim
import GoSem.ClaimJoined
import GoSem.ClaimMapViews
import Derived.JoinedTies
import Derived.KernelRfl
namespace Go.Proofs.YtpekedldoplmmaaDoor
/- THE CELL 'sum', in the pinned program and in every row, IS THE sha256 OF THE DUMP (.gsa) THAT YtpekedldoplmmaaDoorProg.lean LOADS. Nothing in Lean hashes anything: it is a label: what it is worth is what the hold of that sum in a sandbox is worth. -/
noncomputable def Tryd.pinned : Pinned := { name := "ytpekedldoplmmaadoor", sum := "67954a018ad12b5df6dbb13d945dd0df7f21cc39722a9aa1998c1333223c9436", checked := Tryd.checked }
namespace Rows
def none {H : Type} : Left H := { results := [], args := [] }

/- WHAT THE LISTED PACKAGE-LEVEL VARIABLES READ AS WHEN THE CALL BEGINS. Each datum BY PROGRAM (the guide's laid-datum.mjs) off the statement by which the dump's own 'gosem.cut.vars' lays the variable. In a bare row this is a premise. The card (YtpekedldoplmmaaDoorCards.lean) ties it to the program's text. -/
def laid_aviary_field_errMore {H : Type} : DataW H := .iface "*errors.errorString" (.ptr (.agg [.lit (.string [109, 111, 114, 101])]))
def laid_aviary_field_errNone {H : Type} : DataW H := .iface "*errors.errorString" (.ptr (.agg [.lit (.string [110, 111, 32, 102, 105, 101, 108, 100])]))

/-- 'aviarylaw17.TokenFinds': WHATEVER THE INPUT: true; the input reads as it did. -/
def tokenFindsSpec : ChangeSpec := { name := "tokenFinds", fn := fun _ => fun
  | [d1, d2, d3, d4] => { results := [.lit (.bool true)], args := [d1, d2, d3, d4] }
  | _ => none }
def tokenFindsRow : OpenClaim := { program := "ytpekedldoplmmaadoor", sum := "67954a018ad12b5df6dbb13d945dd0df7f21cc39722a9aa1998c1333223c9436", func := "aviary/aviarylaw17.TokenFinds", spec := "tokenFinds", inPlace := ["internal/reflectlite.TypeOf"], unfollowed := true, recurses := true, named := ["aviary/field.errNone", "aviary/field.errMore"], apart := false, laid := [("aviary/field.errMore", laid_aviary_field_errMore), ("aviary/field.errNone", laid_aviary_field_errNone)] }
def TokenFindsSaid : Prop := tokenFindsRow.holds Tryd.pinned (OpenSpec.ofChange tokenFindsSpec)

/-- ITS FALSE NEIGHBOUR: 'it returns false'. Refute it at one input. -/
def tokenFindsWrong : ChangeSpec := { name := "tokenFinds", fn := fun _ => fun
  | [d1, d2, d3, d4] => { results := [.lit (.bool false)], args := [d1, d2, d3, d4] }
  | _ => none }
def TokenFindsWrongFalsely : Prop := tokenFindsRow.holds Tryd.pinned (OpenSpec.ofChange tokenFindsWrong)

/-- 'aviarylaw17.TokenRoles': WHATEVER THE INPUT: true; the input reads as it did. -/
def tokenRolesSpec : ChangeSpec := { name := "tokenRoles", fn := fun _ => fun
  | [d1, d2] => { results := [.lit (.bool true)], args := [d1, d2] }
  | _ => none }
def tokenRolesRow : OpenClaim := { program := "ytpekedldoplmmaadoor", sum := "67954a018ad12b5df6dbb13d945dd0df7f21cc39722a9aa1998c1333223c9436", func := "aviary/aviarylaw17.TokenRoles", spec := "tokenRoles", inPlace := ["internal/reflectlite.TypeOf"], unfollowed := true, recurses := true, named := ["aviary/field.errNone", "aviary/field.errMore"], apart := false, laid := [("aviary/field.errMore", laid_aviary_field_errMore), ("aviary/field.errNone", laid_aviary_field_errNone)] }
def TokenRolesSaid : Prop := tokenRolesRow.holds Tryd.pinned (OpenSpec.ofChange tokenRolesSpec)

/-- ITS FALSE NEIGHBOUR: 'it returns false'. Refute it at one input. -/
def tokenRolesWrong : ChangeSpec := { name := "tokenRoles", fn := fun _ => fun
  | [d1, d2] => { results := [.lit (.bool false)], args := [d1, d2] }
  | _ => none }
def TokenRolesWrongFalsely : Prop := tokenRolesRow.holds Tryd.pinned (OpenSpec.ofChange tokenRolesWrong)

/-- 'aviarylaw17.TokenTimes': WHATEVER THE INPUT: true; the input reads as it did. -/
def tokenTimesSpec : ChangeSpec := { name := "tokenTimes", fn := fun _ => fun
  | [d1, d2, d3, d4] => { results := [.lit (.bool true)], args := [d1, d2, d3, d4] }
  | _ => none }
def tokenTimesRow : OpenClaim := { program := "ytpekedldoplmmaadoor", sum := "67954a018ad12b5df6dbb13d945dd0df7f21cc39722a9aa1998c1333223c9436", func := "aviary/aviarylaw17.TokenTimes", spec := "tokenTimes", inPlace := ["internal/reflectlite.TypeOf"], unfollowed := true, recurses := true, named := ["aviary/field.errNone", "aviary/field.errMore"], apart := false, laid := [("aviary/field.errMore", laid_aviary_field_errMore), ("aviary/field.errNone", laid_aviary_field_errNone)] }
def TokenTimesSaid : Prop := tokenTimesRow.holds Tryd.pinned (OpenSpec.ofChange tokenTimesSpec)

/-- ITS FALSE NEIGHBOUR: 'it returns false'. Refute it at one input. -/
def tokenTimesWrong : ChangeSpec := { name := "tokenTimes", fn := fun _ => fun
  | [d1, d2, d3, d4] => { results := [.lit (.bool false)], args := [d1, d2, d3, d4] }
  | _ => none }
def TokenTimesWrongFalsely : Prop := tokenTimesRow.holds Tryd.pinned (OpenSpec.ofChange tokenTimesWrong)

/-- 'aviarylaw17.TokenApart': WHATEVER THE INPUT: true; the input reads as it did. -/
def tokenApartSpec : ChangeSpec := { name := "tokenApart", fn := fun _ => fun
  | [d1, d2, d3] => { results := [.lit (.bool true)], args := [d1, d2, d3] }
  | _ => none }
def tokenApartRow : OpenClaim := { program := "ytpekedldoplmmaadoor", sum := "67954a018ad12b5df6dbb13d945dd0df7f21cc39722a9aa1998c1333223c9436", func := "aviary/aviarylaw17.TokenApart", spec := "tokenApart", inPlace := ["internal/reflectlite.TypeOf"], unfollowed := true, recurses := true, named := ["aviary/field.errNone", "aviary/field.errMore"], apart := false, laid := [("aviary/field.errMore", laid_aviary_field_errMore), ("aviary/field.errNone", laid_aviary_field_errNone)] }
def TokenApartSaid : Prop := tokenApartRow.holds Tryd.pinned (OpenSpec.ofChange tokenApartSpec)

/-- ITS FALSE NEIGHBOUR: 'it returns false'. Refute it at one input. -/
def tokenApartWrong : ChangeSpec := { name := "tokenApart", fn := fun _ => fun
  | [d1, d2, d3] => { results := [.lit (.bool false)], args := [d1, d2, d3] }
  | _ => none }
def TokenApartWrongFalsely : Prop := tokenApartRow.holds Tryd.pinned (OpenSpec.ofChange tokenApartWrong)

/-- 'aviarylaw17.TokenMints': WHATEVER THE INPUT: true; the input reads as it did. -/
def tokenMintsSpec : ChangeSpec := { name := "tokenMints", fn := fun _ => fun
  | [d1, d2, d3, d4, d5, d6] => { results := [.lit (.bool true)], args := [d1, d2, d3, d4, d5, d6] }
  | _ => none }
def tokenMintsRow : OpenClaim := { program := "ytpekedldoplmmaadoor", sum := "67954a018ad12b5df6dbb13d945dd0df7f21cc39722a9aa1998c1333223c9436", func := "aviary/aviarylaw17.TokenMints", spec := "tokenMints", inPlace := ["internal/reflectlite.TypeOf"], unfollowed := true, recurses := true, named := ["aviary/field.errNone", "aviary/field.errMore"], apart := false, laid := [("aviary/field.errMore", laid_aviary_field_errMore), ("aviary/field.errNone", laid_aviary_field_errNone)] }
def TokenMintsSaid : Prop := tokenMintsRow.holds Tryd.pinned (OpenSpec.ofChange tokenMintsSpec)

/-- ITS FALSE NEIGHBOUR: 'it returns false'. Refute it at one input. -/
def tokenMintsWrong : ChangeSpec := { name := "tokenMints", fn := fun _ => fun
  | [d1, d2, d3, d4, d5, d6] => { results := [.lit (.bool false)], args := [d1, d2, d3, d4, d5, d6] }
  | _ => none }
def TokenMintsWrongFalsely : Prop := tokenMintsRow.holds Tryd.pinned (OpenSpec.ofChange tokenMintsWrong)

/-- 'aviarylaw17.TokenBack': WHATEVER THE INPUT: true; the input reads as it did. -/
def tokenBackSpec : ChangeSpec := { name := "tokenBack", fn := fun _ => fun
  | [d1, d2, d3, d4] => { results := [.lit (.bool true)], args := [d1, d2, d3, d4] }
  | _ => none }
def tokenBackRow : OpenClaim := { program := "ytpekedldoplmmaadoor", sum := "67954a018ad12b5df6dbb13d945dd0df7f21cc39722a9aa1998c1333223c9436", func := "aviary/aviarylaw17.TokenBack", spec := "tokenBack", inPlace := ["internal/reflectlite.TypeOf"], unfollowed := true, recurses := true, named := ["aviary/field.errNone", "aviary/field.errMore"], apart := false, laid := [("aviary/field.errMore", laid_aviary_field_errMore), ("aviary/field.errNone", laid_aviary_field_errNone)] }
def TokenBackSaid : Prop := tokenBackRow.holds Tryd.pinned (OpenSpec.ofChange tokenBackSpec)

/-- ITS FALSE NEIGHBOUR: 'it returns false'. Refute it at one input. -/
def tokenBackWrong : ChangeSpec := { name := "tokenBack", fn := fun _ => fun
  | [d1, d2, d3, d4] => { results := [.lit (.bool false)], args := [d1, d2, d3, d4] }
  | _ => none }
def TokenBackWrongFalsely : Prop := tokenBackRow.holds Tryd.pinned (OpenSpec.ofChange tokenBackWrong)

/- THE SECOND FORM. 'bulk': how many values and letters a reading holds, each counted each time it is reached (what is shared counts as often as it is met; a slice's spare places count too). A statement '..UptoSaid' is the law's where the arguments, and the package variables that the reading takes, are together of bulk at most 1048576: NARROWER than '..Said'. Prove '..Said' where nothing that the law and all that it calls make is longer than what came in: it says more and counts as full. Else prove '..UptoSaid'. A law counts once. -/
mutual
def uptoBulk {H : Type} : DataW H → Nat
  | .lit (.string bytes) => bytes.length + 1
  | .lit _ => 1
  | .nil => 1
  | .ptr d => uptoBulk d + 1
  | .slice elems spare => uptoBulkAll elems + uptoBulkAll spare + 1
  | .agg parts => uptoBulkAll parts + 1
  | .iface _ d => uptoBulk d + 1
  | .map entries => uptoBulkEntries entries + 1
  | .held _ => 1
def uptoBulkAll {H : Type} : List (DataW H) → Nat
  | [] => 0
  | d :: r => uptoBulk d + uptoBulkAll r
def uptoBulkEntries {H : Type} : List (Lit × DataW H) → Nat
  | [] => 0
  | x :: r => uptoBulkEntry x + uptoBulkEntries r
def uptoBulkEntry {H : Type} : Lit × DataW H → Nat
  | (.string bytes, d) => bytes.length + uptoBulk d + 1
  | (_, d) => uptoBulk d + 1
 end
def uptoSmall : (H : Type) → List (DataW H) → Bool := fun _ ds => decide (uptoBulkAll ds ≤ 1048576)
def OpenSpec.upto (s : _root_.Go.ChangeSpec) : _root_.Go.OpenSpec := { _root_.Go.OpenSpec.ofChange s with cond := some uptoSmall }

/-- 'aviarylaw17.TokenFinds', WHERE WHAT IT READS IS OF BULK AT MOST 1048576: true; the input reads as it did. -/
def tokenFindsUptoRow : OpenClaim := { program := "ytpekedldoplmmaadoor", sum := "67954a018ad12b5df6dbb13d945dd0df7f21cc39722a9aa1998c1333223c9436", func := "aviary/aviarylaw17.TokenFinds", spec := "tokenFinds", inPlace := ["internal/reflectlite.TypeOf"], unfollowed := true, recurses := true, named := ["aviary/field.errNone", "aviary/field.errMore"], apart := false, laid := [("aviary/field.errMore", laid_aviary_field_errMore), ("aviary/field.errNone", laid_aviary_field_errNone)], narrowed := true }
def TokenFindsUptoSaid : Prop := tokenFindsUptoRow.holds Tryd.pinned (OpenSpec.upto tokenFindsSpec)

/-- 'aviarylaw17.TokenRoles', WHERE WHAT IT READS IS OF BULK AT MOST 1048576: true; the input reads as it did. -/
def tokenRolesUptoRow : OpenClaim := { program := "ytpekedldoplmmaadoor", sum := "67954a018ad12b5df6dbb13d945dd0df7f21cc39722a9aa1998c1333223c9436", func := "aviary/aviarylaw17.TokenRoles", spec := "tokenRoles", inPlace := ["internal/reflectlite.TypeOf"], unfollowed := true, recurses := true, named := ["aviary/field.errNone", "aviary/field.errMore"], apart := false, laid := [("aviary/field.errMore", laid_aviary_field_errMore), ("aviary/field.errNone", laid_aviary_field_errNone)], narrowed := true }
def TokenRolesUptoSaid : Prop := tokenRolesUptoRow.holds Tryd.pinned (OpenSpec.upto tokenRolesSpec)

/-- 'aviarylaw17.TokenTimes', WHERE WHAT IT READS IS OF BULK AT MOST 1048576: true; the input reads as it did. -/
def tokenTimesUptoRow : OpenClaim := { program := "ytpekedldoplmmaadoor", sum := "67954a018ad12b5df6dbb13d945dd0df7f21cc39722a9aa1998c1333223c9436", func := "aviary/aviarylaw17.TokenTimes", spec := "tokenTimes", inPlace := ["internal/reflectlite.TypeOf"], unfollowed := true, recurses := true, named := ["aviary/field.errNone", "aviary/field.errMore"], apart := false, laid := [("aviary/field.errMore", laid_aviary_field_errMore), ("aviary/field.errNone", laid_aviary_field_errNone)], narrowed := true }
def TokenTimesUptoSaid : Prop := tokenTimesUptoRow.holds Tryd.pinned (OpenSpec.upto tokenTimesSpec)

/-- 'aviarylaw17.TokenApart', WHERE WHAT IT READS IS OF BULK AT MOST 1048576: true; the input reads as it did. -/
def tokenApartUptoRow : OpenClaim := { program := "ytpekedldoplmmaadoor", sum := "67954a018ad12b5df6dbb13d945dd0df7f21cc39722a9aa1998c1333223c9436", func := "aviary/aviarylaw17.TokenApart", spec := "tokenApart", inPlace := ["internal/reflectlite.TypeOf"], unfollowed := true, recurses := true, named := ["aviary/field.errNone", "aviary/field.errMore"], apart := false, laid := [("aviary/field.errMore", laid_aviary_field_errMore), ("aviary/field.errNone", laid_aviary_field_errNone)], narrowed := true }
def TokenApartUptoSaid : Prop := tokenApartUptoRow.holds Tryd.pinned (OpenSpec.upto tokenApartSpec)

/-- 'aviarylaw17.TokenMints', WHERE WHAT IT READS IS OF BULK AT MOST 1048576: true; the input reads as it did. -/
def tokenMintsUptoRow : OpenClaim := { program := "ytpekedldoplmmaadoor", sum := "67954a018ad12b5df6dbb13d945dd0df7f21cc39722a9aa1998c1333223c9436", func := "aviary/aviarylaw17.TokenMints", spec := "tokenMints", inPlace := ["internal/reflectlite.TypeOf"], unfollowed := true, recurses := true, named := ["aviary/field.errNone", "aviary/field.errMore"], apart := false, laid := [("aviary/field.errMore", laid_aviary_field_errMore), ("aviary/field.errNone", laid_aviary_field_errNone)], narrowed := true }
def TokenMintsUptoSaid : Prop := tokenMintsUptoRow.holds Tryd.pinned (OpenSpec.upto tokenMintsSpec)

/-- 'aviarylaw17.TokenBack', WHERE WHAT IT READS IS OF BULK AT MOST 1048576: true; the input reads as it did. -/
def tokenBackUptoRow : OpenClaim := { program := "ytpekedldoplmmaadoor", sum := "67954a018ad12b5df6dbb13d945dd0df7f21cc39722a9aa1998c1333223c9436", func := "aviary/aviarylaw17.TokenBack", spec := "tokenBack", inPlace := ["internal/reflectlite.TypeOf"], unfollowed := true, recurses := true, named := ["aviary/field.errNone", "aviary/field.errMore"], apart := false, laid := [("aviary/field.errMore", laid_aviary_field_errMore), ("aviary/field.errNone", laid_aviary_field_errNone)], narrowed := true }
def TokenBackUptoSaid : Prop := tokenBackUptoRow.holds Tryd.pinned (OpenSpec.upto tokenBackSpec)

end Rows
end Go.Proofs.YtpekedldoplmmaaDoor
