/-
  NARROWER THAN 'FOR EVERY INPUT', by the rows' own cells (each row's printed sentence says how): CurveTells: laid · CurveTimes: laid · CurveGroup: laid · CurveSteps: laid · CurveNegs: laid · CurveSums: laid.
  DERIVED. THE GIVEN ROWS OF THIS SEAT. 6 by the template 'for every input the law returns true; each argument reads behind the call as it read before'; 0 by the template 'total and deterministic' (their statements: YtkhooaaidmoogaaDoorTotals.lean).
  GIVEN WITH THE SEED: the statements are not yours to turn. If you find one false, say at which input.
  Laid BY PROGRAM, IN A SANDBOX (cutbox-rows.mjs): the forced cells as the released guide's own fill.sh prints them over the translation 42a80f1fe377d389… (all of the seat's roots in one cut). By AI agents, Wed Nov 11 2026. No macro, syntax, notation, axiom, sorry.
-/
import Derived.Test.YtkhooaaidmoogaaDoorChecked
import GoSem.Claim
import GoSem.ClaimJoined
import GoSem.ClaimMapViews
import Derived.JoinedTies
import Derived.KernelRfl
namespace Go.Proofs.YtkhooaaidmoogaaDoor
/- THE CELL 'sum', in the pinned program and in every row, IS THE sha256 OF THE DUMP (.gsa) THAT YtkhooaaidmoogaaDoorProg.lean LOADS. Nothing in Lean hashes anything: it is a label: what it is worth is what the hold of that sum in a sandbox is worth. -/
noncomputable def Tryd.pinned : Pinned := { name := "ytkhooaaidmoogaadoor", sum := "42a80f1fe377d38967fba8ade6e9151282d12285d72445c155a2d0dc813c7c97", checked := Tryd.checked }
namespace Rows
def none {H : Type} : Left H := { results := [], args := [] }

/- WHAT THE LISTED PACKAGE-LEVEL VARIABLES READ AS WHEN THE CALL BEGINS. Each datum BY PROGRAM (the guide's laid-datum.mjs) off the statement by which the dump's own 'gosem.cut.vars' lays the variable. In a bare row this is a premise. The card (YtkhooaaidmoogaaDoorCards.lean) ties it to the program's text. -/
def laid_yashmak_field_prime {H : Type} : DataW H := .agg [.lit (.int .u64 18446744073709551597), .lit (.int .u64 18446744073709551615), .lit (.int .u64 18446744073709551615), .lit (.int .u64 9223372036854775807)]
def laid_yashmak_field_less2 {H : Type} : DataW H := .agg [.lit (.int .u64 18446744073709551595), .lit (.int .u64 18446744073709551615), .lit (.int .u64 18446744073709551615), .lit (.int .u64 9223372036854775807)]
def laid_yashmak_field_eighth {H : Type} : DataW H := .agg [.lit (.int .u64 18446744073709551614), .lit (.int .u64 18446744073709551615), .lit (.int .u64 18446744073709551615), .lit (.int .u64 1152921504606846975)]
def laid_yashmak_field_quarter {H : Type} : DataW H := .agg [.lit (.int .u64 18446744073709551611), .lit (.int .u64 18446744073709551615), .lit (.int .u64 18446744073709551615), .lit (.int .u64 2305843009213693951)]
def laid_yashmak_scalar_order {H : Type} : DataW H := .agg [.lit (.int .u64 6346243789798364141), .lit (.int .u64 1503914060200516822), .lit (.int .u64 0), .lit (.int .u64 1152921504606846976)]

/-- 'yashmaklaw06.CurveTells': WHATEVER THE INPUT: true; the input reads as it did. -/
def curveTellsSpec : ChangeSpec := { name := "curveTells", fn := fun _ => fun
  | [d1, d2] => { results := [.lit (.bool true)], args := [d1, d2] }
  | _ => none }
def curveTellsRow : OpenClaim := { program := "ytkhooaaidmoogaadoor", sum := "42a80f1fe377d38967fba8ade6e9151282d12285d72445c155a2d0dc813c7c97", func := "yashmak/yashmaklaw06.CurveTells", spec := "curveTells", inPlace := ["math/bits.Add64", "math/bits.Sub64"], unfollowed := true, recurses := true, named := ["yashmak/field.less2", "yashmak/field.prime", "yashmak/field.eighth", "yashmak/field.quarter", "yashmak/scalar.order"], apart := false, laid := [("yashmak/field.prime", laid_yashmak_field_prime), ("yashmak/field.less2", laid_yashmak_field_less2), ("yashmak/field.eighth", laid_yashmak_field_eighth), ("yashmak/field.quarter", laid_yashmak_field_quarter), ("yashmak/scalar.order", laid_yashmak_scalar_order)] }
def CurveTellsSaid : Prop := curveTellsRow.holds Tryd.pinned (OpenSpec.ofChange curveTellsSpec)

/-- ITS FALSE NEIGHBOUR: 'it returns false'. Refute it at one input. -/
def curveTellsWrong : ChangeSpec := { name := "curveTells", fn := fun _ => fun
  | [d1, d2] => { results := [.lit (.bool false)], args := [d1, d2] }
  | _ => none }
def CurveTellsWrongFalsely : Prop := curveTellsRow.holds Tryd.pinned (OpenSpec.ofChange curveTellsWrong)

/-- 'yashmaklaw06.CurveTimes': WHATEVER THE INPUT: true; the input reads as it did. -/
def curveTimesSpec : ChangeSpec := { name := "curveTimes", fn := fun _ => fun
  | [d1, d2] => { results := [.lit (.bool true)], args := [d1, d2] }
  | _ => none }
def curveTimesRow : OpenClaim := { program := "ytkhooaaidmoogaadoor", sum := "42a80f1fe377d38967fba8ade6e9151282d12285d72445c155a2d0dc813c7c97", func := "yashmak/yashmaklaw06.CurveTimes", spec := "curveTimes", inPlace := ["math/bits.Add64", "math/bits.Sub64"], unfollowed := true, recurses := true, named := ["yashmak/field.less2", "yashmak/field.prime", "yashmak/field.eighth", "yashmak/field.quarter", "yashmak/scalar.order"], apart := false, laid := [("yashmak/field.prime", laid_yashmak_field_prime), ("yashmak/field.less2", laid_yashmak_field_less2), ("yashmak/field.eighth", laid_yashmak_field_eighth), ("yashmak/field.quarter", laid_yashmak_field_quarter), ("yashmak/scalar.order", laid_yashmak_scalar_order)] }
def CurveTimesSaid : Prop := curveTimesRow.holds Tryd.pinned (OpenSpec.ofChange curveTimesSpec)

/-- ITS FALSE NEIGHBOUR: 'it returns false'. Refute it at one input. -/
def curveTimesWrong : ChangeSpec := { name := "curveTimes", fn := fun _ => fun
  | [d1, d2] => { results := [.lit (.bool false)], args := [d1, d2] }
  | _ => none }
def CurveTimesWrongFalsely : Prop := curveTimesRow.holds Tryd.pinned (OpenSpec.ofChange curveTimesWrong)

/-- 'yashmaklaw06.CurveGroup': WHATEVER THE INPUT: true; the input reads as it did. -/
def curveGroupSpec : ChangeSpec := { name := "curveGroup", fn := fun _ => fun
  | [d1, d2, d3] => { results := [.lit (.bool true)], args := [d1, d2, d3] }
  | _ => none }
def curveGroupRow : OpenClaim := { program := "ytkhooaaidmoogaadoor", sum := "42a80f1fe377d38967fba8ade6e9151282d12285d72445c155a2d0dc813c7c97", func := "yashmak/yashmaklaw06.CurveGroup", spec := "curveGroup", inPlace := ["math/bits.Add64", "math/bits.Sub64"], unfollowed := true, recurses := true, named := ["yashmak/field.less2", "yashmak/field.prime", "yashmak/field.eighth", "yashmak/field.quarter", "yashmak/scalar.order"], apart := false, laid := [("yashmak/field.prime", laid_yashmak_field_prime), ("yashmak/field.less2", laid_yashmak_field_less2), ("yashmak/field.eighth", laid_yashmak_field_eighth), ("yashmak/field.quarter", laid_yashmak_field_quarter), ("yashmak/scalar.order", laid_yashmak_scalar_order)] }
def CurveGroupSaid : Prop := curveGroupRow.holds Tryd.pinned (OpenSpec.ofChange curveGroupSpec)

/-- ITS FALSE NEIGHBOUR: 'it returns false'. Refute it at one input. -/
def curveGroupWrong : ChangeSpec := { name := "curveGroup", fn := fun _ => fun
  | [d1, d2, d3] => { results := [.lit (.bool false)], args := [d1, d2, d3] }
  | _ => none }
def CurveGroupWrongFalsely : Prop := curveGroupRow.holds Tryd.pinned (OpenSpec.ofChange curveGroupWrong)

/-- 'yashmaklaw06.CurveSteps': WHATEVER THE INPUT: true; the input reads as it did. -/
def curveStepsSpec : ChangeSpec := { name := "curveSteps", fn := fun _ => fun
  | [d1, d2] => { results := [.lit (.bool true)], args := [d1, d2] }
  | _ => none }
def curveStepsRow : OpenClaim := { program := "ytkhooaaidmoogaadoor", sum := "42a80f1fe377d38967fba8ade6e9151282d12285d72445c155a2d0dc813c7c97", func := "yashmak/yashmaklaw06.CurveSteps", spec := "curveSteps", inPlace := ["math/bits.Add64", "math/bits.Sub64"], unfollowed := true, recurses := true, named := ["yashmak/field.less2", "yashmak/field.prime", "yashmak/field.eighth", "yashmak/field.quarter", "yashmak/scalar.order"], apart := false, laid := [("yashmak/field.prime", laid_yashmak_field_prime), ("yashmak/field.less2", laid_yashmak_field_less2), ("yashmak/field.eighth", laid_yashmak_field_eighth), ("yashmak/field.quarter", laid_yashmak_field_quarter), ("yashmak/scalar.order", laid_yashmak_scalar_order)] }
def CurveStepsSaid : Prop := curveStepsRow.holds Tryd.pinned (OpenSpec.ofChange curveStepsSpec)

/-- ITS FALSE NEIGHBOUR: 'it returns false'. Refute it at one input. -/
def curveStepsWrong : ChangeSpec := { name := "curveSteps", fn := fun _ => fun
  | [d1, d2] => { results := [.lit (.bool false)], args := [d1, d2] }
  | _ => none }
def CurveStepsWrongFalsely : Prop := curveStepsRow.holds Tryd.pinned (OpenSpec.ofChange curveStepsWrong)

/-- 'yashmaklaw06.CurveNegs': WHATEVER THE INPUT: true; the input reads as it did. -/
def curveNegsSpec : ChangeSpec := { name := "curveNegs", fn := fun _ => fun
  | [d1, d2] => { results := [.lit (.bool true)], args := [d1, d2] }
  | _ => none }
def curveNegsRow : OpenClaim := { program := "ytkhooaaidmoogaadoor", sum := "42a80f1fe377d38967fba8ade6e9151282d12285d72445c155a2d0dc813c7c97", func := "yashmak/yashmaklaw06.CurveNegs", spec := "curveNegs", inPlace := ["math/bits.Add64", "math/bits.Sub64"], unfollowed := true, recurses := true, named := ["yashmak/field.less2", "yashmak/field.prime", "yashmak/field.eighth", "yashmak/field.quarter", "yashmak/scalar.order"], apart := false, laid := [("yashmak/field.prime", laid_yashmak_field_prime), ("yashmak/field.less2", laid_yashmak_field_less2), ("yashmak/field.eighth", laid_yashmak_field_eighth), ("yashmak/field.quarter", laid_yashmak_field_quarter), ("yashmak/scalar.order", laid_yashmak_scalar_order)] }
def CurveNegsSaid : Prop := curveNegsRow.holds Tryd.pinned (OpenSpec.ofChange curveNegsSpec)

/-- ITS FALSE NEIGHBOUR: 'it returns false'. Refute it at one input. -/
def curveNegsWrong : ChangeSpec := { name := "curveNegs", fn := fun _ => fun
  | [d1, d2] => { results := [.lit (.bool false)], args := [d1, d2] }
  | _ => none }
def CurveNegsWrongFalsely : Prop := curveNegsRow.holds Tryd.pinned (OpenSpec.ofChange curveNegsWrong)

/-- 'yashmaklaw06.CurveSums': WHATEVER THE INPUT: true; the input reads as it did. -/
def curveSumsSpec : ChangeSpec := { name := "curveSums", fn := fun _ => fun
  | [d1, d2, d3] => { results := [.lit (.bool true)], args := [d1, d2, d3] }
  | _ => none }
def curveSumsRow : OpenClaim := { program := "ytkhooaaidmoogaadoor", sum := "42a80f1fe377d38967fba8ade6e9151282d12285d72445c155a2d0dc813c7c97", func := "yashmak/yashmaklaw06.CurveSums", spec := "curveSums", inPlace := ["math/bits.Add64", "math/bits.Sub64"], unfollowed := true, recurses := true, named := ["yashmak/field.less2", "yashmak/field.prime", "yashmak/field.eighth", "yashmak/field.quarter", "yashmak/scalar.order"], apart := false, laid := [("yashmak/field.prime", laid_yashmak_field_prime), ("yashmak/field.less2", laid_yashmak_field_less2), ("yashmak/field.eighth", laid_yashmak_field_eighth), ("yashmak/field.quarter", laid_yashmak_field_quarter), ("yashmak/scalar.order", laid_yashmak_scalar_order)] }
def CurveSumsSaid : Prop := curveSumsRow.holds Tryd.pinned (OpenSpec.ofChange curveSumsSpec)

/-- ITS FALSE NEIGHBOUR: 'it returns false'. Refute it at one input. -/
def curveSumsWrong : ChangeSpec := { name := "curveSums", fn := fun _ => fun
  | [d1, d2, d3] => { results := [.lit (.bool false)], args := [d1, d2, d3] }
  | _ => none }
def CurveSumsWrongFalsely : Prop := curveSumsRow.holds Tryd.pinned (OpenSpec.ofChange curveSumsWrong)

/- THE SECOND FORM. 'bulk': how many values and letters a reading holds, each counted each time it is reached (what is shared counts as often as it is met; a slice's spare places count too). A statement '..UptoSaid' is the law's where the arguments, and the package variables that the reading takes, are together of bulk at most 1048576: NARROWER than '..Said'. Prove '..Said' where nothing that the law and all that it calls make is longer than what came in: it says more and counts as full. Else prove '..UptoSaid'. A law counts once. -/
mutual
def uptoBulk {H : Type} : DataW H → Nat
  | .lit (.string bytes) => bytes.length + 1
  | .lit _ => 1
  | .nil => 1
  | .ptr d => uptoBulk d + 1
  | .slice elems spare => uptoBulkAll elems + uptoBulkAll spare + 1
  | .agg parts => uptoBulkAll parts + 1
  | .iface _ d => uptoBulk d + 1
  | .map entries => uptoBulkEntries entries + 1
  | .held _ => 1
def uptoBulkAll {H : Type} : List (DataW H) → Nat
  | [] => 0
  | d :: r => uptoBulk d + uptoBulkAll r
def uptoBulkEntries {H : Type} : List (Lit × DataW H) → Nat
  | [] => 0
  | x :: r => uptoBulkEntry x + uptoBulkEntries r
def uptoBulkEntry {H : Type} : Lit × DataW H → Nat
  | (.string bytes, d) => bytes.length + uptoBulk d + 1
  | (_, d) => uptoBulk d + 1
 end
def uptoSmall : (H : Type) → List (DataW H) → Bool := fun _ ds => decide (uptoBulkAll ds ≤ 1048576)
def OpenSpec.upto (s : _root_.Go.ChangeSpec) : _root_.Go.OpenSpec := { _root_.Go.OpenSpec.ofChange s with cond := some uptoSmall }

/-- 'yashmaklaw06.CurveTells', WHERE WHAT IT READS IS OF BULK AT MOST 1048576: true; the input reads as it did. -/
def curveTellsUptoRow : OpenClaim := { program := "ytkhooaaidmoogaadoor", sum := "42a80f1fe377d38967fba8ade6e9151282d12285d72445c155a2d0dc813c7c97", func := "yashmak/yashmaklaw06.CurveTells", spec := "curveTells", inPlace := ["math/bits.Add64", "math/bits.Sub64"], unfollowed := true, recurses := true, named := ["yashmak/field.less2", "yashmak/field.prime", "yashmak/field.eighth", "yashmak/field.quarter", "yashmak/scalar.order"], apart := false, laid := [("yashmak/field.prime", laid_yashmak_field_prime), ("yashmak/field.less2", laid_yashmak_field_less2), ("yashmak/field.eighth", laid_yashmak_field_eighth), ("yashmak/field.quarter", laid_yashmak_field_quarter), ("yashmak/scalar.order", laid_yashmak_scalar_order)], narrowed := true }
def CurveTellsUptoSaid : Prop := curveTellsUptoRow.holds Tryd.pinned (OpenSpec.upto curveTellsSpec)

/-- 'yashmaklaw06.CurveTimes', WHERE WHAT IT READS IS OF BULK AT MOST 1048576: true; the input reads as it did. -/
def curveTimesUptoRow : OpenClaim := { program := "ytkhooaaidmoogaadoor", sum := "42a80f1fe377d38967fba8ade6e9151282d12285d72445c155a2d0dc813c7c97", func := "yashmak/yashmaklaw06.CurveTimes", spec := "curveTimes", inPlace := ["math/bits.Add64", "math/bits.Sub64"], unfollowed := true, recurses := true, named := ["yashmak/field.less2", "yashmak/field.prime", "yashmak/field.eighth", "yashmak/field.quarter", "yashmak/scalar.order"], apart := false, laid := [("yashmak/field.prime", laid_yashmak_field_prime), ("yashmak/field.less2", laid_yashmak_field_less2), ("yashmak/field.eighth", laid_yashmak_field_eighth), ("yashmak/field.quarter", laid_yashmak_field_quarter), ("yashmak/scalar.order", laid_yashmak_scalar_order)], narrowed := true }
def CurveTimesUptoSaid : Prop := curveTimesUptoRow.holds Tryd.pinned (OpenSpec.upto curveTimesSpec)

/-- 'yashmaklaw06.CurveGroup', WHERE WHAT IT READS IS OF BULK AT MOST 1048576: true; the input reads as it did. -/
def curveGroupUptoRow : OpenClaim := { program := "ytkhooaaidmoogaadoor", sum := "42a80f1fe377d38967fba8ade6e9151282d12285d72445c155a2d0dc813c7c97", func := "yashmak/yashmaklaw06.CurveGroup", spec := "curveGroup", inPlace := ["math/bits.Add64", "math/bits.Sub64"], unfollowed := true, recurses := true, named := ["yashmak/field.less2", "yashmak/field.prime", "yashmak/field.eighth", "yashmak/field.quarter", "yashmak/scalar.order"], apart := false, laid := [("yashmak/field.prime", laid_yashmak_field_prime), ("yashmak/field.less2", laid_yashmak_field_less2), ("yashmak/field.eighth", laid_yashmak_field_eighth), ("yashmak/field.quarter", laid_yashmak_field_quarter), ("yashmak/scalar.order", laid_yashmak_scalar_order)], narrowed := true }
def CurveGroupUptoSaid : Prop := curveGroupUptoRow.holds Tryd.pinned (OpenSpec.upto curveGroupSpec)

/-- 'yashmaklaw06.CurveSteps', WHERE WHAT IT READS IS OF BULK AT MOST 1048576: true; the input reads as it did. -/
def curveStepsUptoRow : OpenClaim := { program := "ytkhooaaidmoogaadoor", sum := "42a80f1fe377d38967fba8ade6e9151282d12285d72445c155a2d0dc813c7c97", func := "yashmak/yashmaklaw06.CurveSteps", spec := "curveSteps", inPlace := ["math/bits.Add64", "math/bits.Sub64"], unfollowed := true, recurses := true, named := ["yashmak/field.less2", "yashmak/field.prime", "yashmak/field.eighth", "yashmak/field.quarter", "yashmak/scalar.order"], apart := false, laid := [("yashmak/field.prime", laid_yashmak_field_prime), ("yashmak/field.less2", laid_yashmak_field_less2), ("yashmak/field.eighth", laid_yashmak_field_eighth), ("yashmak/field.quarter", laid_yashmak_field_quarter), ("yashmak/scalar.order", laid_yashmak_scalar_order)], narrowed := true }
def CurveStepsUptoSaid : Prop := curveStepsUptoRow.holds Tryd.pinned (OpenSpec.upto curveStepsSpec)

/-- 'yashmaklaw06.CurveNegs', WHERE WHAT IT READS IS OF BULK AT MOST 1048576: true; the input reads as it did. -/
def curveNegsUptoRow : OpenClaim := { program := "ytkhooaaidmoogaadoor", sum := "42a80f1fe377d38967fba8ade6e9151282d12285d72445c155a2d0dc813c7c97", func := "yashmak/yashmaklaw06.CurveNegs", spec := "curveNegs", inPlace := ["math/bits.Add64", "math/bits.Sub64"], unfollowed := true, recurses := true, named := ["yashmak/field.less2", "yashmak/field.prime", "yashmak/field.eighth", "yashmak/field.quarter", "yashmak/scalar.order"], apart := false, laid := [("yashmak/field.prime", laid_yashmak_field_prime), ("yashmak/field.less2", laid_yashmak_field_less2), ("yashmak/field.eighth", laid_yashmak_field_eighth), ("yashmak/field.quarter", laid_yashmak_field_quarter), ("yashmak/scalar.order", laid_yashmak_scalar_order)], narrowed := true }
def CurveNegsUptoSaid : Prop := curveNegsUptoRow.holds Tryd.pinned (OpenSpec.upto curveNegsSpec)

/-- 'yashmaklaw06.CurveSums', WHERE WHAT IT READS IS OF BULK AT MOST 1048576: true; the input reads as it did. -/
def curveSumsUptoRow : OpenClaim := { program := "ytkhooaaidmoogaadoor", sum := "42a80f1fe377d38967fba8ade6e9151282d12285d72445c155a2d0dc813c7c97", func := "yashmak/yashmaklaw06.CurveSums", spec := "curveSums", inPlace := ["math/bits.Add64", "math/bits.Sub64"], unfollowed := true, recurses := true, named := ["yashmak/field.less2", "yashmak/field.prime", "yashmak/field.eighth", "yashmak/field.quarter", "yashmak/scalar.order"], apart := false, laid := [("yashmak/field.prime", laid_yashmak_field_prime), ("yashmak/field.less2", laid_yashmak_field_less2), ("yashmak/field.eighth", laid_yashmak_field_eighth), ("yashmak/field.quarter", laid_yashmak_field_quarter), ("yashmak/scalar.order", laid_yashmak_scalar_order)], narrowed := true }
def CurveSumsUptoSaid : Prop := curveSumsUptoRow.holds Tryd.pinned (OpenSpec.upto curveSumsSpec)

end Rows
end Go.Proofs.YtkhooaaidmoogaaDoor
