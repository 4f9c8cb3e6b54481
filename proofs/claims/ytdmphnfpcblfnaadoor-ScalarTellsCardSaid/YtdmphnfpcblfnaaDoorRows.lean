/-
  NARROWER THAN 'FOR EVERY INPUT', by the rows' own cells (each row's printed sentence says how): FieldTells: laid · FieldRoots: laid · FieldLaws: laid · FieldBack: laid · FieldInverses: laid · FieldSquares: laid · ScalarTells: laid · ScalarLaws: laid · ScalarBack: laid · ScalarNegs: laid.
  DERIVED. THE GIVEN ROWS OF THIS SEAT. 10 by the template 'for every input the law returns true; each argument reads behind the call as it read before'; 0 by the template 'total and deterministic' (their statements: YtdmphnfpcblfnaaDoorTotals.lean).
  GIVEN WITH THE SEED: the statements are not yours to turn. If you find one false, say at which input.
  Laid BY PROGRAM, IN A SANDBOX (cutbox-rows.mjs): the forced cells as the released guide's own fill.sh prints them over the translation 0692bcb3b58432a3… (all of the seat's roots in one cut). By AI agents, Wed Nov 11 2026. No macro, syntax, notation, axiom, sorry.
-/
import Derived.Test.YtdmphnfpcblfnaaDoorChecked
import GoSem.Claim
import GoSem.ClaimJoined
import GoSem.ClaimMapViews
import Derived.JoinedTies
import Derived.KernelRfl
namespace Go.Proofs.YtdmphnfpcblfnaaDoor
/- THE CELL 'sum', in the pinned program and in every row, IS THE sha256 OF THE DUMP (.gsa) THAT YtdmphnfpcblfnaaDoorProg.lean LOADS. Nothing in Lean hashes anything: it is a label: what it is worth is what the hold of that sum in a sandbox is worth. -/
noncomputable def Tryd.pinned : Pinned := { name := "ytdmphnfpcblfnaadoor", sum := "0692bcb3b58432a3eb3b7cbdff7e6b0b32a8a0284c116878ec8a4d7911c161a3", checked := Tryd.checked }
namespace Rows
def none {H : Type} : Left H := { results := [], args := [] }

/- WHAT THE LISTED PACKAGE-LEVEL VARIABLES READ AS WHEN THE CALL BEGINS. Each datum BY PROGRAM (the guide's laid-datum.mjs) off the statement by which the dump's own 'gosem.cut.vars' lays the variable. In a bare row this is a premise. The card (YtdmphnfpcblfnaaDoorCards.lean) ties it to the program's text. -/
def laid_yashmak_field_prime {H : Type} : DataW H := .agg [.lit (.int .u64 18446744073709551597), .lit (.int .u64 18446744073709551615), .lit (.int .u64 18446744073709551615), .lit (.int .u64 9223372036854775807)]
def laid_yashmak_field_less2 {H : Type} : DataW H := .agg [.lit (.int .u64 18446744073709551595), .lit (.int .u64 18446744073709551615), .lit (.int .u64 18446744073709551615), .lit (.int .u64 9223372036854775807)]
def laid_yashmak_field_eighth {H : Type} : DataW H := .agg [.lit (.int .u64 18446744073709551614), .lit (.int .u64 18446744073709551615), .lit (.int .u64 18446744073709551615), .lit (.int .u64 1152921504606846975)]
def laid_yashmak_field_quarter {H : Type} : DataW H := .agg [.lit (.int .u64 18446744073709551611), .lit (.int .u64 18446744073709551615), .lit (.int .u64 18446744073709551615), .lit (.int .u64 2305843009213693951)]
def laid_yashmak_scalar_order {H : Type} : DataW H := .agg [.lit (.int .u64 6346243789798364141), .lit (.int .u64 1503914060200516822), .lit (.int .u64 0), .lit (.int .u64 1152921504606846976)]

/-- 'yashmaklaw04.FieldTells': WHATEVER THE INPUT: true; the input reads as it did. -/
def fieldTellsSpec : ChangeSpec := { name := "fieldTells", fn := fun _ => fun
  | [d1, d2, d3, d4] => { results := [.lit (.bool true)], args := [d1, d2, d3, d4] }
  | _ => none }
def fieldTellsRow : OpenClaim := { program := "ytdmphnfpcblfnaadoor", sum := "0692bcb3b58432a3eb3b7cbdff7e6b0b32a8a0284c116878ec8a4d7911c161a3", func := "yashmak/yashmaklaw04.FieldTells", spec := "fieldTells", inPlace := ["math/bits.Add64", "math/bits.Sub64"], named := ["yashmak/field.eighth", "yashmak/field.quarter", "yashmak/field.less2", "yashmak/field.prime"], apart := false, laid := [("yashmak/field.prime", laid_yashmak_field_prime), ("yashmak/field.less2", laid_yashmak_field_less2), ("yashmak/field.eighth", laid_yashmak_field_eighth), ("yashmak/field.quarter", laid_yashmak_field_quarter)] }
def FieldTellsSaid : Prop := fieldTellsRow.holds Tryd.pinned (OpenSpec.ofChange fieldTellsSpec)

/-- ITS FALSE NEIGHBOUR: 'it returns false'. Refute it at one input. -/
def fieldTellsWrong : ChangeSpec := { name := "fieldTells", fn := fun _ => fun
  | [d1, d2, d3, d4] => { results := [.lit (.bool false)], args := [d1, d2, d3, d4] }
  | _ => none }
def FieldTellsWrongFalsely : Prop := fieldTellsRow.holds Tryd.pinned (OpenSpec.ofChange fieldTellsWrong)

/-- 'yashmaklaw04.FieldRoots': WHATEVER THE INPUT: true; the input reads as it did. -/
def fieldRootsSpec : ChangeSpec := { name := "fieldRoots", fn := fun _ => fun
  | [d1, d2] => { results := [.lit (.bool true)], args := [d1, d2] }
  | _ => none }
def fieldRootsRow : OpenClaim := { program := "ytdmphnfpcblfnaadoor", sum := "0692bcb3b58432a3eb3b7cbdff7e6b0b32a8a0284c116878ec8a4d7911c161a3", func := "yashmak/yashmaklaw04.FieldRoots", spec := "fieldRoots", inPlace := ["math/bits.Add64", "math/bits.Sub64"], named := ["yashmak/field.eighth", "yashmak/field.quarter", "yashmak/field.less2", "yashmak/field.prime"], apart := false, laid := [("yashmak/field.prime", laid_yashmak_field_prime), ("yashmak/field.less2", laid_yashmak_field_less2), ("yashmak/field.eighth", laid_yashmak_field_eighth), ("yashmak/field.quarter", laid_yashmak_field_quarter)] }
def FieldRootsSaid : Prop := fieldRootsRow.holds Tryd.pinned (OpenSpec.ofChange fieldRootsSpec)

/-- ITS FALSE NEIGHBOUR: 'it returns false'. Refute it at one input. -/
def fieldRootsWrong : ChangeSpec := { name := "fieldRoots", fn := fun _ => fun
  | [d1, d2] => { results := [.lit (.bool false)], args := [d1, d2] }
  | _ => none }
def FieldRootsWrongFalsely : Prop := fieldRootsRow.holds Tryd.pinned (OpenSpec.ofChange fieldRootsWrong)

/-- 'yashmaklaw04.FieldLaws': WHATEVER THE INPUT: true; the input reads as it did. -/
def fieldLawsSpec : ChangeSpec := { name := "fieldLaws", fn := fun _ => fun
  | [d1, d2, d3] => { results := [.lit (.bool true)], args := [d1, d2, d3] }
  | _ => none }
def fieldLawsRow : OpenClaim := { program := "ytdmphnfpcblfnaadoor", sum := "0692bcb3b58432a3eb3b7cbdff7e6b0b32a8a0284c116878ec8a4d7911c161a3", func := "yashmak/yashmaklaw04.FieldLaws", spec := "fieldLaws", inPlace := ["math/bits.Add64", "math/bits.Sub64"], named := ["yashmak/field.eighth", "yashmak/field.quarter", "yashmak/field.less2", "yashmak/field.prime"], apart := false, laid := [("yashmak/field.prime", laid_yashmak_field_prime), ("yashmak/field.less2", laid_yashmak_field_less2), ("yashmak/field.eighth", laid_yashmak_field_eighth), ("yashmak/field.quarter", laid_yashmak_field_quarter)] }
def FieldLawsSaid : Prop := fieldLawsRow.holds Tryd.pinned (OpenSpec.ofChange fieldLawsSpec)

/-- ITS FALSE NEIGHBOUR: 'it returns false'. Refute it at one input. -/
def fieldLawsWrong : ChangeSpec := { name := "fieldLaws", fn := fun _ => fun
  | [d1, d2, d3] => { results := [.lit (.bool false)], args := [d1, d2, d3] }
  | _ => none }
def FieldLawsWrongFalsely : Prop := fieldLawsRow.holds Tryd.pinned (OpenSpec.ofChange fieldLawsWrong)

/-- 'yashmaklaw04.FieldBack': WHATEVER THE INPUT: true; the input reads as it did. -/
def fieldBackSpec : ChangeSpec := { name := "fieldBack", fn := fun _ => fun
  | [d1, d2] => { results := [.lit (.bool true)], args := [d1, d2] }
  | _ => none }
def fieldBackRow : OpenClaim := { program := "ytdmphnfpcblfnaadoor", sum := "0692bcb3b58432a3eb3b7cbdff7e6b0b32a8a0284c116878ec8a4d7911c161a3", func := "yashmak/yashmaklaw04.FieldBack", spec := "fieldBack", inPlace := ["math/bits.Add64", "math/bits.Sub64"], named := ["yashmak/field.eighth", "yashmak/field.quarter", "yashmak/field.less2", "yashmak/field.prime"], apart := false, laid := [("yashmak/field.prime", laid_yashmak_field_prime), ("yashmak/field.less2", laid_yashmak_field_less2), ("yashmak/field.eighth", laid_yashmak_field_eighth), ("yashmak/field.quarter", laid_yashmak_field_quarter)] }
def FieldBackSaid : Prop := fieldBackRow.holds Tryd.pinned (OpenSpec.ofChange fieldBackSpec)

/-- ITS FALSE NEIGHBOUR: 'it returns false'. Refute it at one input. -/
def fieldBackWrong : ChangeSpec := { name := "fieldBack", fn := fun _ => fun
  | [d1, d2] => { results := [.lit (.bool false)], args := [d1, d2] }
  | _ => none }
def FieldBackWrongFalsely : Prop := fieldBackRow.holds Tryd.pinned (OpenSpec.ofChange fieldBackWrong)

/-- 'yashmaklaw04.FieldInverses': WHATEVER THE INPUT: true; the input reads as it did. -/
def fieldInversesSpec : ChangeSpec := { name := "fieldInverses", fn := fun _ => fun
  | [d1, d2] => { results := [.lit (.bool true)], args := [d1, d2] }
  | _ => none }
def fieldInversesRow : OpenClaim := { program := "ytdmphnfpcblfnaadoor", sum := "0692bcb3b58432a3eb3b7cbdff7e6b0b32a8a0284c116878ec8a4d7911c161a3", func := "yashmak/yashmaklaw04.FieldInverses", spec := "fieldInverses", inPlace := ["math/bits.Add64", "math/bits.Sub64"], named := ["yashmak/field.eighth", "yashmak/field.quarter", "yashmak/field.less2", "yashmak/field.prime"], apart := false, laid := [("yashmak/field.prime", laid_yashmak_field_prime), ("yashmak/field.less2", laid_yashmak_field_less2), ("yashmak/field.eighth", laid_yashmak_field_eighth), ("yashmak/field.quarter", laid_yashmak_field_quarter)] }
def FieldInversesSaid : Prop := fieldInversesRow.holds Tryd.pinned (OpenSpec.ofChange fieldInversesSpec)

/-- ITS FALSE NEIGHBOUR: 'it returns false'. Refute it at one input. -/
def fieldInversesWrong : ChangeSpec := { name := "fieldInverses", fn := fun _ => fun
  | [d1, d2] => { results := [.lit (.bool false)], args := [d1, d2] }
  | _ => none }
def FieldInversesWrongFalsely : Prop := fieldInversesRow.holds Tryd.pinned (OpenSpec.ofChange fieldInversesWrong)

/-- 'yashmaklaw04.FieldSquares': WHATEVER THE INPUT: true; the input reads as it did. -/
def fieldSquaresSpec : ChangeSpec := { name := "fieldSquares", fn := fun _ => fun
  | [d1, d2] => { results := [.lit (.bool true)], args := [d1, d2] }
  | _ => none }
def fieldSquaresRow : OpenClaim := { program := "ytdmphnfpcblfnaadoor", sum := "0692bcb3b58432a3eb3b7cbdff7e6b0b32a8a0284c116878ec8a4d7911c161a3", func := "yashmak/yashmaklaw04.FieldSquares", spec := "fieldSquares", inPlace := ["math/bits.Add64", "math/bits.Sub64"], named := ["yashmak/field.eighth", "yashmak/field.quarter", "yashmak/field.less2", "yashmak/field.prime"], apart := false, laid := [("yashmak/field.prime", laid_yashmak_field_prime), ("yashmak/field.less2", laid_yashmak_field_less2), ("yashmak/field.eighth", laid_yashmak_field_eighth), ("yashmak/field.quarter", laid_yashmak_field_quarter)] }
def FieldSquaresSaid : Prop := fieldSquaresRow.holds Tryd.pinned (OpenSpec.ofChange fieldSquaresSpec)

/-- ITS FALSE NEIGHBOUR: 'it returns false'. Refute it at one input. -/
def fieldSquaresWrong : ChangeSpec := { name := "fieldSquares", fn := fun _ => fun
  | [d1, d2] => { results := [.lit (.bool false)], args := [d1, d2] }
  | _ => none }
def FieldSquaresWrongFalsely : Prop := fieldSquaresRow.holds Tryd.pinned (OpenSpec.ofChange fieldSquaresWrong)

/-- 'yashmaklaw05.ScalarTells': WHATEVER THE INPUT: true; the input reads as it did. -/
def scalarTellsSpec : ChangeSpec := { name := "scalarTells", fn := fun _ => fun
  | [d1, d2, d3, d4] => { results := [.lit (.bool true)], args := [d1, d2, d3, d4] }
  | _ => none }
def scalarTellsRow : OpenClaim := { program := "ytdmphnfpcblfnaadoor", sum := "0692bcb3b58432a3eb3b7cbdff7e6b0b32a8a0284c116878ec8a4d7911c161a3", func := "yashmak/yashmaklaw05.ScalarTells", spec := "scalarTells", inPlace := ["math/bits.Sub64", "math/bits.Add64"], unfollowed := true, recurses := true, named := ["yashmak/scalar.order"], apart := false, laid := [("yashmak/scalar.order", laid_yashmak_scalar_order)] }
def ScalarTellsSaid : Prop := scalarTellsRow.holds Tryd.pinned (OpenSpec.ofChange scalarTellsSpec)

/-- ITS FALSE NEIGHBOUR: 'it returns false'. Refute it at one input. -/
def scalarTellsWrong : ChangeSpec := { name := "scalarTells", fn := fun _ => fun
  | [d1, d2, d3, d4] => { results := [.lit (.bool false)], args := [d1, d2, d3, d4] }
  | _ => none }
def ScalarTellsWrongFalsely : Prop := scalarTellsRow.holds Tryd.pinned (OpenSpec.ofChange scalarTellsWrong)

/-- 'yashmaklaw05.ScalarLaws': WHATEVER THE INPUT: true; the input reads as it did. -/
def scalarLawsSpec : ChangeSpec := { name := "scalarLaws", fn := fun _ => fun
  | [d1, d2, d3] => { results := [.lit (.bool true)], args := [d1, d2, d3] }
  | _ => none }
def scalarLawsRow : OpenClaim := { program := "ytdmphnfpcblfnaadoor", sum := "0692bcb3b58432a3eb3b7cbdff7e6b0b32a8a0284c116878ec8a4d7911c161a3", func := "yashmak/yashmaklaw05.ScalarLaws", spec := "scalarLaws", inPlace := ["math/bits.Sub64", "math/bits.Add64"], unfollowed := true, recurses := true, named := ["yashmak/scalar.order"], apart := false, laid := [("yashmak/scalar.order", laid_yashmak_scalar_order)] }
def ScalarLawsSaid : Prop := scalarLawsRow.holds Tryd.pinned (OpenSpec.ofChange scalarLawsSpec)

/-- ITS FALSE NEIGHBOUR: 'it returns false'. Refute it at one input. -/
def scalarLawsWrong : ChangeSpec := { name := "scalarLaws", fn := fun _ => fun
  | [d1, d2, d3] => { results := [.lit (.bool false)], args := [d1, d2, d3] }
  | _ => none }
def ScalarLawsWrongFalsely : Prop := scalarLawsRow.holds Tryd.pinned (OpenSpec.ofChange scalarLawsWrong)

/-- 'yashmaklaw05.ScalarBack': WHATEVER THE INPUT: true; the input reads as it did. -/
def scalarBackSpec : ChangeSpec := { name := "scalarBack", fn := fun _ => fun
  | [d1, d2, d3] => { results := [.lit (.bool true)], args := [d1, d2, d3] }
  | _ => none }
def scalarBackRow : OpenClaim := { program := "ytdmphnfpcblfnaadoor", sum := "0692bcb3b58432a3eb3b7cbdff7e6b0b32a8a0284c116878ec8a4d7911c161a3", func := "yashmak/yashmaklaw05.ScalarBack", spec := "scalarBack", inPlace := ["math/bits.Sub64", "math/bits.Add64"], unfollowed := true, recurses := true, named := ["yashmak/scalar.order"], apart := false, laid := [("yashmak/scalar.order", laid_yashmak_scalar_order)] }
def ScalarBackSaid : Prop := scalarBackRow.holds Tryd.pinned (OpenSpec.ofChange scalarBackSpec)

/-- ITS FALSE NEIGHBOUR: 'it returns false'. Refute it at one input. -/
def scalarBackWrong : ChangeSpec := { name := "scalarBack", fn := fun _ => fun
  | [d1, d2, d3] => { results := [.lit (.bool false)], args := [d1, d2, d3] }
  | _ => none }
def ScalarBackWrongFalsely : Prop := scalarBackRow.holds Tryd.pinned (OpenSpec.ofChange scalarBackWrong)

/-- 'yashmaklaw05.ScalarNegs': WHATEVER THE INPUT: true; the input reads as it did. -/
def scalarNegsSpec : ChangeSpec := { name := "scalarNegs", fn := fun _ => fun
  | [d1, d2] => { results := [.lit (.bool true)], args := [d1, d2] }
  | _ => none }
def scalarNegsRow : OpenClaim := { program := "ytdmphnfpcblfnaadoor", sum := "0692bcb3b58432a3eb3b7cbdff7e6b0b32a8a0284c116878ec8a4d7911c161a3", func := "yashmak/yashmaklaw05.ScalarNegs", spec := "scalarNegs", inPlace := ["math/bits.Sub64", "math/bits.Add64"], unfollowed := true, recurses := true, named := ["yashmak/scalar.order"], apart := false, laid := [("yashmak/scalar.order", laid_yashmak_scalar_order)] }
def ScalarNegsSaid : Prop := scalarNegsRow.holds Tryd.pinned (OpenSpec.ofChange scalarNegsSpec)

/-- ITS FALSE NEIGHBOUR: 'it returns false'. Refute it at one input. -/
def scalarNegsWrong : ChangeSpec := { name := "scalarNegs", fn := fun _ => fun
  | [d1, d2] => { results := [.lit (.bool false)], args := [d1, d2] }
  | _ => none }
def ScalarNegsWrongFalsely : Prop := scalarNegsRow.holds Tryd.pinned (OpenSpec.ofChange scalarNegsWrong)

/- THE SECOND FORM. 'bulk': how many values and letters a reading holds, each counted each time it is reached (what is shared counts as often as it is met; a slice's spare places count too). A statement '..UptoSaid' is the law's where the arguments, and the package variables that the reading takes, are together of bulk at most 1048576: NARROWER than '..Said'. Prove '..Said' where nothing that the law and all that it calls make is longer than what came in: it says more and counts as full. Else prove '..UptoSaid'. A law counts once. -/
mutual
def uptoBulk {H : Type} : DataW H → Nat
  | .lit (.string bytes) => bytes.length + 1
  | .lit _ => 1
  | .nil => 1
  | .ptr d => uptoBulk d + 1
  | .slice elems spare => uptoBulkAll elems + uptoBulkAll spare + 1
  | .agg parts => uptoBulkAll parts + 1
  | .iface _ d => uptoBulk d + 1
  | .map entries => uptoBulkEntries entries + 1
  | .held _ => 1
def uptoBulkAll {H : Type} : List (DataW H) → Nat
  | [] => 0
  | d :: r => uptoBulk d + uptoBulkAll r
def uptoBulkEntries {H : Type} : List (Lit × DataW H) → Nat
  | [] => 0
  | x :: r => uptoBulkEntry x + uptoBulkEntries r
def uptoBulkEntry {H : Type} : Lit × DataW H → Nat
  | (.string bytes, d) => bytes.length + uptoBulk d + 1
  | (_, d) => uptoBulk d + 1
 end
def uptoSmall : (H : Type) → List (DataW H) → Bool := fun _ ds => decide (uptoBulkAll ds ≤ 1048576)
def OpenSpec.upto (s : _root_.Go.ChangeSpec) : _root_.Go.OpenSpec := { _root_.Go.OpenSpec.ofChange s with cond := some uptoSmall }

/-- 'yashmaklaw04.FieldTells', WHERE WHAT IT READS IS OF BULK AT MOST 1048576: true; the input reads as it did. -/
def fieldTellsUptoRow : OpenClaim := { program := "ytdmphnfpcblfnaadoor", sum := "0692bcb3b58432a3eb3b7cbdff7e6b0b32a8a0284c116878ec8a4d7911c161a3", func := "yashmak/yashmaklaw04.FieldTells", spec := "fieldTells", inPlace := ["math/bits.Add64", "math/bits.Sub64"], named := ["yashmak/field.eighth", "yashmak/field.quarter", "yashmak/field.less2", "yashmak/field.prime"], apart := false, laid := [("yashmak/field.prime", laid_yashmak_field_prime), ("yashmak/field.less2", laid_yashmak_field_less2), ("yashmak/field.eighth", laid_yashmak_field_eighth), ("yashmak/field.quarter", laid_yashmak_field_quarter)], narrowed := true }
def FieldTellsUptoSaid : Prop := fieldTellsUptoRow.holds Tryd.pinned (OpenSpec.upto fieldTellsSpec)

/-- 'yashmaklaw04.FieldRoots', WHERE WHAT IT READS IS OF BULK AT MOST 1048576: true; the input reads as it did. -/
def fieldRootsUptoRow : OpenClaim := { program := "ytdmphnfpcblfnaadoor", sum := "0692bcb3b58432a3eb3b7cbdff7e6b0b32a8a0284c116878ec8a4d7911c161a3", func := "yashmak/yashmaklaw04.FieldRoots", spec := "fieldRoots", inPlace := ["math/bits.Add64", "math/bits.Sub64"], named := ["yashmak/field.eighth", "yashmak/field.quarter", "yashmak/field.less2", "yashmak/field.prime"], apart := false, laid := [("yashmak/field.prime", laid_yashmak_field_prime), ("yashmak/field.less2", laid_yashmak_field_less2), ("yashmak/field.eighth", laid_yashmak_field_eighth), ("yashmak/field.quarter", laid_yashmak_field_quarter)], narrowed := true }
def FieldRootsUptoSaid : Prop := fieldRootsUptoRow.holds Tryd.pinned (OpenSpec.upto fieldRootsSpec)

/-- 'yashmaklaw04.FieldLaws', WHERE WHAT IT READS IS OF BULK AT MOST 1048576: true; the input reads as it did. -/
def fieldLawsUptoRow : OpenClaim := { program := "ytdmphnfpcblfnaadoor", sum := "0692bcb3b58432a3eb3b7cbdff7e6b0b32a8a0284c116878ec8a4d7911c161a3", func := "yashmak/yashmaklaw04.FieldLaws", spec := "fieldLaws", inPlace := ["math/bits.Add64", "math/bits.Sub64"], named := ["yashmak/field.eighth", "yashmak/field.quarter", "yashmak/field.less2", "yashmak/field.prime"], apart := false, laid := [("yashmak/field.prime", laid_yashmak_field_prime), ("yashmak/field.less2", laid_yashmak_field_less2), ("yashmak/field.eighth", laid_yashmak_field_eighth), ("yashmak/field.quarter", laid_yashmak_field_quarter)], narrowed := true }
def FieldLawsUptoSaid : Prop := fieldLawsUptoRow.holds Tryd.pinned (OpenSpec.upto fieldLawsSpec)

/-- 'yashmaklaw04.FieldBack', WHERE WHAT IT READS IS OF BULK AT MOST 1048576: true; the input reads as it did. -/
def fieldBackUptoRow : OpenClaim := { program := "ytdmphnfpcblfnaadoor", sum := "0692bcb3b58432a3eb3b7cbdff7e6b0b32a8a0284c116878ec8a4d7911c161a3", func := "yashmak/yashmaklaw04.FieldBack", spec := "fieldBack", inPlace := ["math/bits.Add64", "math/bits.Sub64"], named := ["yashmak/field.eighth", "yashmak/field.quarter", "yashmak/field.less2", "yashmak/field.prime"], apart := false, laid := [("yashmak/field.prime", laid_yashmak_field_prime), ("yashmak/field.less2", laid_yashmak_field_less2), ("yashmak/field.eighth", laid_yashmak_field_eighth), ("yashmak/field.quarter", laid_yashmak_field_quarter)], narrowed := true }
def FieldBackUptoSaid : Prop := fieldBackUptoRow.holds Tryd.pinned (OpenSpec.upto fieldBackSpec)

/-- 'yashmaklaw04.FieldInverses', WHERE WHAT IT READS IS OF BULK AT MOST 1048576: true; the input reads as it did. -/
def fieldInversesUptoRow : OpenClaim := { program := "ytdmphnfpcblfnaadoor", sum := "0692bcb3b58432a3eb3b7cbdff7e6b0b32a8a0284c116878ec8a4d7911c161a3", func := "yashmak/yashmaklaw04.FieldInverses", spec := "fieldInverses", inPlace := ["math/bits.Add64", "math/bits.Sub64"], named := ["yashmak/field.eighth", "yashmak/field.quarter", "yashmak/field.less2", "yashmak/field.prime"], apart := false, laid := [("yashmak/field.prime", laid_yashmak_field_prime), ("yashmak/field.less2", laid_yashmak_field_less2), ("yashmak/field.eighth", laid_yashmak_field_eighth), ("yashmak/field.quarter", laid_yashmak_field_quarter)], narrowed := true }
def FieldInversesUptoSaid : Prop := fieldInversesUptoRow.holds Tryd.pinned (OpenSpec.upto fieldInversesSpec)

/-- 'yashmaklaw04.FieldSquares', WHERE WHAT IT READS IS OF BULK AT MOST 1048576: true; the input reads as it did. -/
def fieldSquaresUptoRow : OpenClaim := { program := "ytdmphnfpcblfnaadoor", sum := "0692bcb3b58432a3eb3b7cbdff7e6b0b32a8a0284c116878ec8a4d7911c161a3", func := "yashmak/yashmaklaw04.FieldSquares", spec := "fieldSquares", inPlace := ["math/bits.Add64", "math/bits.Sub64"], named := ["yashmak/field.eighth", "yashmak/field.quarter", "yashmak/field.less2", "yashmak/field.prime"], apart := false, laid := [("yashmak/field.prime", laid_yashmak_field_prime), ("yashmak/field.less2", laid_yashmak_field_less2), ("yashmak/field.eighth", laid_yashmak_field_eighth), ("yashmak/field.quarter", laid_yashmak_field_quarter)], narrowed := true }
def FieldSquaresUptoSaid : Prop := fieldSquaresUptoRow.holds Tryd.pinned (OpenSpec.upto fieldSquaresSpec)

/-- 'yashmaklaw05.ScalarTells', WHERE WHAT IT READS IS OF BULK AT MOST 1048576: true; the input reads as it did. -/
def scalarTellsUptoRow : OpenClaim := { program := "ytdmphnfpcblfnaadoor", sum := "0692bcb3b58432a3eb3b7cbdff7e6b0b32a8a0284c116878ec8a4d7911c161a3", func := "yashmak/yashmaklaw05.ScalarTells", spec := "scalarTells", inPlace := ["math/bits.Sub64", "math/bits.Add64"], unfollowed := true, recurses := true, named := ["yashmak/scalar.order"], apart := false, laid := [("yashmak/scalar.order", laid_yashmak_scalar_order)], narrowed := true }
def ScalarTellsUptoSaid : Prop := scalarTellsUptoRow.holds Tryd.pinned (OpenSpec.upto scalarTellsSpec)

/-- 'yashmaklaw05.ScalarLaws', WHERE WHAT IT READS IS OF BULK AT MOST 1048576: true; the input reads as it did. -/
def scalarLawsUptoRow : OpenClaim := { program := "ytdmphnfpcblfnaadoor", sum := "0692bcb3b58432a3eb3b7cbdff7e6b0b32a8a0284c116878ec8a4d7911c161a3", func := "yashmak/yashmaklaw05.ScalarLaws", spec := "scalarLaws", inPlace := ["math/bits.Sub64", "math/bits.Add64"], unfollowed := true, recurses := true, named := ["yashmak/scalar.order"], apart := false, laid := [("yashmak/scalar.order", laid_yashmak_scalar_order)], narrowed := true }
def ScalarLawsUptoSaid : Prop := scalarLawsUptoRow.holds Tryd.pinned (OpenSpec.upto scalarLawsSpec)

/-- 'yashmaklaw05.ScalarBack', WHERE WHAT IT READS IS OF BULK AT MOST 1048576: true; the input reads as it did. -/
def scalarBackUptoRow : OpenClaim := { program := "ytdmphnfpcblfnaadoor", sum := "0692bcb3b58432a3eb3b7cbdff7e6b0b32a8a0284c116878ec8a4d7911c161a3", func := "yashmak/yashmaklaw05.ScalarBack", spec := "scalarBack", inPlace := ["math/bits.Sub64", "math/bits.Add64"], unfollowed := true, recurses := true, named := ["yashmak/scalar.order"], apart := false, laid := [("yashmak/scalar.order", laid_yashmak_scalar_order)], narrowed := true }
def ScalarBackUptoSaid : Prop := scalarBackUptoRow.holds Tryd.pinned (OpenSpec.upto scalarBackSpec)

/-- 'yashmaklaw05.ScalarNegs', WHERE WHAT IT READS IS OF BULK AT MOST 1048576: true; the input reads as it did. -/
def scalarNegsUptoRow : OpenClaim := { program := "ytdmphnfpcblfnaadoor", sum := "0692bcb3b58432a3eb3b7cbdff7e6b0b32a8a0284c116878ec8a4d7911c161a3", func := "yashmak/yashmaklaw05.ScalarNegs", spec := "scalarNegs", inPlace := ["math/bits.Sub64", "math/bits.Add64"], unfollowed := true, recurses := true, named := ["yashmak/scalar.order"], apart := false, laid := [("yashmak/scalar.order", laid_yashmak_scalar_order)], narrowed := true }
def ScalarNegsUptoSaid : Prop := scalarNegsUptoRow.holds Tryd.pinned (OpenSpec.upto scalarNegsSpec)

end Rows
end Go.Proofs.YtdmphnfpcblfnaaDoor
