/-
  DERIVED. GIVEN WITH THE SEED: THE PROGRAM's TIES (one call each: nine closed facts by the kernel) AND EACH ROW's TIE, after the 31st guide's Derived/Test/Toyas{Tie, Card}.lean. No idea stands in it: it is a product of the set-up. Laid BY PROGRAM, IN A SANDBOX (cutbox-door.mjs). By AI agents, Wed Nov 11 2026. No macro, syntax, notation, axiom, sorry.
-/
import Derived.Test.YtkhooaaidmoogaaDoorRows
import Derived.LaidByTextLater
import Derived.SevenTiedAt
import Derived.LaidSub
import Derived.LaidOnce
namespace Go.Proofs.YtkhooaaidmoogaaDoor
open Go
set_option maxRecDepth 100000
theorem seatTie1 : Tryd.prog.laidByTextLater [("yashmak/field.prime", Rows.laid_yashmak_field_prime), ("yashmak/field.less2", Rows.laid_yashmak_field_less2), ("yashmak/field.eighth", Rows.laid_yashmak_field_eighth), ("yashmak/field.quarter", Rows.laid_yashmak_field_quarter), ("yashmak/scalar.order", Rows.laid_yashmak_scalar_order)] [.data, .data, .data, .data, .data] true :=
  Program.laidByTextLater_by_one 34 8 5 (by kernel_rfl) (by kernel_rfl) (by kernel_rfl) (by kernel_rfl) (by kernel_rfl) (by kernel_rfl) (fun _ _ => by kernel_rfl)
theorem noOwnUnsafe : Tryd.pinned.checked.prog.headLifts.contains "ownunsafe" = false := by kernel_rfl
theorem tie : Tryd.prog.laidByTextLater [("yashmak/field.prime", Rows.laid_yashmak_field_prime), ("yashmak/field.less2", Rows.laid_yashmak_field_less2), ("yashmak/field.eighth", Rows.laid_yashmak_field_eighth), ("yashmak/field.quarter", Rows.laid_yashmak_field_quarter), ("yashmak/scalar.order", Rows.laid_yashmak_scalar_order)] [.data, .data, .data, .data, .data] true :=
  Program.laidByTextLater.sub seatTie1 ["yashmak/field.prime", "yashmak/field.less2", "yashmak/field.eighth", "yashmak/field.quarter", "yashmak/scalar.order"] (by kernel_rfl) (by kernel_rfl)
theorem curveTells_row_tie : Rows.curveTellsRow.laidByTextAt .later Tryd.pinned [.data, .data, .data, .data, .data] true :=
  OpenClaim.laidByTextAt_later rfl rfl tie noOwnUnsafe
theorem curveTimes_row_tie : Rows.curveTimesRow.laidByTextAt .later Tryd.pinned [.data, .data, .data, .data, .data] true :=
  OpenClaim.laidByTextAt_later rfl rfl tie noOwnUnsafe
theorem curveGroup_row_tie : Rows.curveGroupRow.laidByTextAt .later Tryd.pinned [.data, .data, .data, .data, .data] true :=
  OpenClaim.laidByTextAt_later rfl rfl tie noOwnUnsafe
theorem curveSteps_row_tie : Rows.curveStepsRow.laidByTextAt .later Tryd.pinned [.data, .data, .data, .data, .data] true :=
  OpenClaim.laidByTextAt_later rfl rfl tie noOwnUnsafe
theorem curveNegs_row_tie : Rows.curveNegsRow.laidByTextAt .later Tryd.pinned [.data, .data, .data, .data, .data] true :=
  OpenClaim.laidByTextAt_later rfl rfl tie noOwnUnsafe
theorem curveSums_row_tie : Rows.curveSumsRow.laidByTextAt .later Tryd.pinned [.data, .data, .data, .data, .data] true :=
  OpenClaim.laidByTextAt_later rfl rfl tie noOwnUnsafe
theorem curveTellsUpto_row_tie : Rows.curveTellsUptoRow.laidByTextAt .later Tryd.pinned [.data, .data, .data, .data, .data] true :=
  OpenClaim.laidByTextAt_later rfl rfl tie noOwnUnsafe
theorem curveTimesUpto_row_tie : Rows.curveTimesUptoRow.laidByTextAt .later Tryd.pinned [.data, .data, .data, .data, .data] true :=
  OpenClaim.laidByTextAt_later rfl rfl tie noOwnUnsafe
theorem curveGroupUpto_row_tie : Rows.curveGroupUptoRow.laidByTextAt .later Tryd.pinned [.data, .data, .data, .data, .data] true :=
  OpenClaim.laidByTextAt_later rfl rfl tie noOwnUnsafe
theorem curveStepsUpto_row_tie : Rows.curveStepsUptoRow.laidByTextAt .later Tryd.pinned [.data, .data, .data, .data, .data] true :=
  OpenClaim.laidByTextAt_later rfl rfl tie noOwnUnsafe
theorem curveNegsUpto_row_tie : Rows.curveNegsUptoRow.laidByTextAt .later Tryd.pinned [.data, .data, .data, .data, .data] true :=
  OpenClaim.laidByTextAt_later rfl rfl tie noOwnUnsafe
theorem curveSumsUpto_row_tie : Rows.curveSumsUptoRow.laidByTextAt .later Tryd.pinned [.data, .data, .data, .data, .data] true :=
  OpenClaim.laidByTextAt_later rfl rfl tie noOwnUnsafe
end Go.Proofs.YtkhooaaidmoogaaDoor
