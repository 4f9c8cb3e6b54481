/-
  DERIVED. GIVEN WITH THE SEED: THE CARDS: each row of YtkhooaaidmoogaaDoorRows.lean that lists a variable, with what it lists TIED to the program's text (the seventh form; the later family's looks); each row that meets fmt, with fmt's text TOLD by the authors' own Lean function (tested against real Go, not proved from fmt's source: count such statements apart). THE CARD IS WHAT COUNTS. Prove the row's statement (the work); the ties are given (YtkhooaaidmoogaaDoorTie.lean); close each card by the builder's one call (the guide's Derived/Test/ToyasCard.lean, 'card_holds'). Laid BY PROGRAM, IN A SANDBOX (cutbox-door.mjs). By AI agents, Wed Nov 11 2026. No macro, syntax, notation, axiom, sorry.
-/
import Derived.Test.YtkhooaaidmoogaaDoorRows
import GoSem.ClaimSeven
namespace Go.Proofs.YtkhooaaidmoogaaDoor
namespace Rows

/-- THE TIED CARD OF 'yashmaklaw06.CurveTells'. -/
def curveTellsCard : Claim7 := { stood := { row := curveTellsRow, standIns := [], harness := (true, "04d775cefb95b31a4bec0d7c54c884811732aa5d0325ffe44073d475e29bf730"), looks := false }, kinds := [], alts := [], laidByText := true, laidKinds := [.data, .data, .data, .data, .data], laidTests := true, laidLooks := .later }
def CurveTellsCardSaid : Prop := Claim7.holds Tryd.pinned (.plain (OpenSpec.ofChange curveTellsSpec)) curveTellsCard

/-- THE TIED CARD OF 'yashmaklaw06.CurveTimes'. -/
def curveTimesCard : Claim7 := { stood := { row := curveTimesRow, standIns := [], harness := (true, "04d775cefb95b31a4bec0d7c54c884811732aa5d0325ffe44073d475e29bf730"), looks := false }, kinds := [], alts := [], laidByText := true, laidKinds := [.data, .data, .data, .data, .data], laidTests := true, laidLooks := .later }
def CurveTimesCardSaid : Prop := Claim7.holds Tryd.pinned (.plain (OpenSpec.ofChange curveTimesSpec)) curveTimesCard

/-- THE TIED CARD OF 'yashmaklaw06.CurveGroup'. -/
def curveGroupCard : Claim7 := { stood := { row := curveGroupRow, standIns := [], harness := (true, "04d775cefb95b31a4bec0d7c54c884811732aa5d0325ffe44073d475e29bf730"), looks := false }, kinds := [], alts := [], laidByText := true, laidKinds := [.data, .data, .data, .data, .data], laidTests := true, laidLooks := .later }
def CurveGroupCardSaid : Prop := Claim7.holds Tryd.pinned (.plain (OpenSpec.ofChange curveGroupSpec)) curveGroupCard

/-- THE TIED CARD OF 'yashmaklaw06.CurveSteps'. -/
def curveStepsCard : Claim7 := { stood := { row := curveStepsRow, standIns := [], harness := (true, "04d775cefb95b31a4bec0d7c54c884811732aa5d0325ffe44073d475e29bf730"), looks := false }, kinds := [], alts := [], laidByText := true, laidKinds := [.data, .data, .data, .data, .data], laidTests := true, laidLooks := .later }
def CurveStepsCardSaid : Prop := Claim7.holds Tryd.pinned (.plain (OpenSpec.ofChange curveStepsSpec)) curveStepsCard

/-- THE TIED CARD OF 'yashmaklaw06.CurveNegs'. -/
def curveNegsCard : Claim7 := { stood := { row := curveNegsRow, standIns := [], harness := (true, "04d775cefb95b31a4bec0d7c54c884811732aa5d0325ffe44073d475e29bf730"), looks := false }, kinds := [], alts := [], laidByText := true, laidKinds := [.data, .data, .data, .data, .data], laidTests := true, laidLooks := .later }
def CurveNegsCardSaid : Prop := Claim7.holds Tryd.pinned (.plain (OpenSpec.ofChange curveNegsSpec)) curveNegsCard

/-- THE TIED CARD OF 'yashmaklaw06.CurveSums'. -/
def curveSumsCard : Claim7 := { stood := { row := curveSumsRow, standIns := [], harness := (true, "04d775cefb95b31a4bec0d7c54c884811732aa5d0325ffe44073d475e29bf730"), looks := false }, kinds := [], alts := [], laidByText := true, laidKinds := [.data, .data, .data, .data, .data], laidTests := true, laidLooks := .later }
def CurveSumsCardSaid : Prop := Claim7.holds Tryd.pinned (.plain (OpenSpec.ofChange curveSumsSpec)) curveSumsCard

/-- THE SECOND FORM's CARD OF 'yashmaklaw06.CurveTells'. -/
def curveTellsUptoCard : Claim7 := { stood := { row := curveTellsUptoRow, standIns := [], harness := (true, "04d775cefb95b31a4bec0d7c54c884811732aa5d0325ffe44073d475e29bf730"), looks := false }, kinds := [], alts := [], laidByText := true, laidKinds := [.data, .data, .data, .data, .data], laidTests := true, laidLooks := .later }
def CurveTellsUptoCardSaid : Prop := Claim7.holds Tryd.pinned (.plain (OpenSpec.upto curveTellsSpec)) curveTellsUptoCard

/-- THE SECOND FORM's CARD OF 'yashmaklaw06.CurveTimes'. -/
def curveTimesUptoCard : Claim7 := { stood := { row := curveTimesUptoRow, standIns := [], harness := (true, "04d775cefb95b31a4bec0d7c54c884811732aa5d0325ffe44073d475e29bf730"), looks := false }, kinds := [], alts := [], laidByText := true, laidKinds := [.data, .data, .data, .data, .data], laidTests := true, laidLooks := .later }
def CurveTimesUptoCardSaid : Prop := Claim7.holds Tryd.pinned (.plain (OpenSpec.upto curveTimesSpec)) curveTimesUptoCard

/-- THE SECOND FORM's CARD OF 'yashmaklaw06.CurveGroup'. -/
def curveGroupUptoCard : Claim7 := { stood := { row := curveGroupUptoRow, standIns := [], harness := (true, "04d775cefb95b31a4bec0d7c54c884811732aa5d0325ffe44073d475e29bf730"), looks := false }, kinds := [], alts := [], laidByText := true, laidKinds := [.data, .data, .data, .data, .data], laidTests := true, laidLooks := .later }
def CurveGroupUptoCardSaid : Prop := Claim7.holds Tryd.pinned (.plain (OpenSpec.upto curveGroupSpec)) curveGroupUptoCard

/-- THE SECOND FORM's CARD OF 'yashmaklaw06.CurveSteps'. -/
def curveStepsUptoCard : Claim7 := { stood := { row := curveStepsUptoRow, standIns := [], harness := (true, "04d775cefb95b31a4bec0d7c54c884811732aa5d0325ffe44073d475e29bf730"), looks := false }, kinds := [], alts := [], laidByText := true, laidKinds := [.data, .data, .data, .data, .data], laidTests := true, laidLooks := .later }
def CurveStepsUptoCardSaid : Prop := Claim7.holds Tryd.pinned (.plain (OpenSpec.upto curveStepsSpec)) curveStepsUptoCard

/-- THE SECOND FORM's CARD OF 'yashmaklaw06.CurveNegs'. -/
def curveNegsUptoCard : Claim7 := { stood := { row := curveNegsUptoRow, standIns := [], harness := (true, "04d775cefb95b31a4bec0d7c54c884811732aa5d0325ffe44073d475e29bf730"), looks := false }, kinds := [], alts := [], laidByText := true, laidKinds := [.data, .data, .data, .data, .data], laidTests := true, laidLooks := .later }
def CurveNegsUptoCardSaid : Prop := Claim7.holds Tryd.pinned (.plain (OpenSpec.upto curveNegsSpec)) curveNegsUptoCard

/-- THE SECOND FORM's CARD OF 'yashmaklaw06.CurveSums'. -/
def curveSumsUptoCard : Claim7 := { stood := { row := curveSumsUptoRow, standIns := [], harness := (true, "04d775cefb95b31a4bec0d7c54c884811732aa5d0325ffe44073d475e29bf730"), looks := false }, kinds := [], alts := [], laidByText := true, laidKinds := [.data, .data, .data, .data, .data], laidTests := true, laidLooks := .later }
def CurveSumsUptoCardSaid : Prop := Claim7.holds Tryd.pinned (.plain (OpenSpec.upto curveSumsSpec)) curveSumsUptoCard
end Rows
end Go.Proofs.YtkhooaaidmoogaaDoor
