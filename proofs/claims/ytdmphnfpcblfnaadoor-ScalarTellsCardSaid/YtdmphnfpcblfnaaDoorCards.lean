/-
  DERIVED. GIVEN WITH THE SEED: THE CARDS: each row of YtdmphnfpcblfnaaDoorRows.lean that lists a variable, with what it lists TIED to the program's text (the seventh form; the later family's looks); each row that meets fmt, with fmt's text TOLD by the authors' own Lean function (tested against real Go, not proved from fmt's source: count such statements apart). THE CARD IS WHAT COUNTS. Prove the row's statement (the work); the ties are given (YtdmphnfpcblfnaaDoorTie.lean); close each card by the builder's one call (the guide's Derived/Test/ToyasCard.lean, 'card_holds'). Laid BY PROGRAM, IN A SANDBOX (cutbox-door.mjs). By AI agents, Wed Nov 11 2026. No macro, syntax, notation, axiom, sorry.
-/
import Derived.Test.YtdmphnfpcblfnaaDoorRows
import GoSem.ClaimSeven
namespace Go.Proofs.YtdmphnfpcblfnaaDoor
namespace Rows

/-- THE TIED CARD OF 'yashmaklaw04.FieldTells'. -/
def fieldTellsCard : Claim7 := { stood := { row := fieldTellsRow, standIns := [], harness := (true, "a8539d4010f0633c5b97d913d970d7eb3b835f1b9940b6abd0f1e2dc7d24d4e1"), looks := false }, kinds := [], alts := [], laidByText := true, laidKinds := [.data, .data, .data, .data], laidTests := true, laidLooks := .later }
def FieldTellsCardSaid : Prop := Claim7.holds Tryd.pinned (.plain (OpenSpec.ofChange fieldTellsSpec)) fieldTellsCard

/-- THE TIED CARD OF 'yashmaklaw04.FieldRoots'. -/
def fieldRootsCard : Claim7 := { stood := { row := fieldRootsRow, standIns := [], harness := (true, "a8539d4010f0633c5b97d913d970d7eb3b835f1b9940b6abd0f1e2dc7d24d4e1"), looks := false }, kinds := [], alts := [], laidByText := true, laidKinds := [.data, .data, .data, .data], laidTests := true, laidLooks := .later }
def FieldRootsCardSaid : Prop := Claim7.holds Tryd.pinned (.plain (OpenSpec.ofChange fieldRootsSpec)) fieldRootsCard

/-- THE TIED CARD OF 'yashmaklaw04.FieldLaws'. -/
def fieldLawsCard : Claim7 := { stood := { row := fieldLawsRow, standIns := [], harness := (true, "a8539d4010f0633c5b97d913d970d7eb3b835f1b9940b6abd0f1e2dc7d24d4e1"), looks := false }, kinds := [], alts := [], laidByText := true, laidKinds := [.data, .data, .data, .data], laidTests := true, laidLooks := .later }
def FieldLawsCardSaid : Prop := Claim7.holds Tryd.pinned (.plain (OpenSpec.ofChange fieldLawsSpec)) fieldLawsCard

/-- THE TIED CARD OF 'yashmaklaw04.FieldBack'. -/
def fieldBackCard : Claim7 := { stood := { row := fieldBackRow, standIns := [], harness := (true, "a8539d4010f0633c5b97d913d970d7eb3b835f1b9940b6abd0f1e2dc7d24d4e1"), looks := false }, kinds := [], alts := [], laidByText := true, laidKinds := [.data, .data, .data, .data], laidTests := true, laidLooks := .later }
def FieldBackCardSaid : Prop := Claim7.holds Tryd.pinned (.plain (OpenSpec.ofChange fieldBackSpec)) fieldBackCard

/-- THE TIED CARD OF 'yashmaklaw04.FieldInverses'. -/
def fieldInversesCard : Claim7 := { stood := { row := fieldInversesRow, standIns := [], harness := (true, "a8539d4010f0633c5b97d913d970d7eb3b835f1b9940b6abd0f1e2dc7d24d4e1"), looks := false }, kinds := [], alts := [], laidByText := true, laidKinds := [.data, .data, .data, .data], laidTests := true, laidLooks := .later }
def FieldInversesCardSaid : Prop := Claim7.holds Tryd.pinned (.plain (OpenSpec.ofChange fieldInversesSpec)) fieldInversesCard

/-- THE TIED CARD OF 'yashmaklaw04.FieldSquares'. -/
def fieldSquaresCard : Claim7 := { stood := { row := fieldSquaresRow, standIns := [], harness := (true, "a8539d4010f0633c5b97d913d970d7eb3b835f1b9940b6abd0f1e2dc7d24d4e1"), looks := false }, kinds := [], alts := [], laidByText := true, laidKinds := [.data, .data, .data, .data], laidTests := true, laidLooks := .later }
def FieldSquaresCardSaid : Prop := Claim7.holds Tryd.pinned (.plain (OpenSpec.ofChange fieldSquaresSpec)) fieldSquaresCard

/-- THE TIED CARD OF 'yashmaklaw05.ScalarTells'. -/
def scalarTellsCard : Claim7 := { stood := { row := scalarTellsRow, standIns := [], harness := (true, "a8539d4010f0633c5b97d913d970d7eb3b835f1b9940b6abd0f1e2dc7d24d4e1"), looks := false }, kinds := [], alts := [], laidByText := true, laidKinds := [.data], laidTests := true, laidLooks := .later }
def ScalarTellsCardSaid : Prop := Claim7.holds Tryd.pinned (.plain (OpenSpec.ofChange scalarTellsSpec)) scalarTellsCard

/-- THE TIED CARD OF 'yashmaklaw05.ScalarLaws'. -/
def scalarLawsCard : Claim7 := { stood := { row := scalarLawsRow, standIns := [], harness := (true, "a8539d4010f0633c5b97d913d970d7eb3b835f1b9940b6abd0f1e2dc7d24d4e1"), looks := false }, kinds := [], alts := [], laidByText := true, laidKinds := [.data], laidTests := true, laidLooks := .later }
def ScalarLawsCardSaid : Prop := Claim7.holds Tryd.pinned (.plain (OpenSpec.ofChange scalarLawsSpec)) scalarLawsCard

/-- THE TIED CARD OF 'yashmaklaw05.ScalarBack'. -/
def scalarBackCard : Claim7 := { stood := { row := scalarBackRow, standIns := [], harness := (true, "a8539d4010f0633c5b97d913d970d7eb3b835f1b9940b6abd0f1e2dc7d24d4e1"), looks := false }, kinds := [], alts := [], laidByText := true, laidKinds := [.data], laidTests := true, laidLooks := .later }
def ScalarBackCardSaid : Prop := Claim7.holds Tryd.pinned (.plain (OpenSpec.ofChange scalarBackSpec)) scalarBackCard

/-- THE TIED CARD OF 'yashmaklaw05.ScalarNegs'. -/
def scalarNegsCard : Claim7 := { stood := { row := scalarNegsRow, standIns := [], harness := (true, "a8539d4010f0633c5b97d913d970d7eb3b835f1b9940b6abd0f1e2dc7d24d4e1"), looks := false }, kinds := [], alts := [], laidByText := true, laidKinds := [.data], laidTests := true, laidLooks := .later }
def ScalarNegsCardSaid : Prop := Claim7.holds Tryd.pinned (.plain (OpenSpec.ofChange scalarNegsSpec)) scalarNegsCard

/-- THE SECOND FORM's CARD OF 'yashmaklaw04.FieldTells'. -/
def fieldTellsUptoCard : Claim7 := { stood := { row := fieldTellsUptoRow, standIns := [], harness := (true, "a8539d4010f0633c5b97d913d970d7eb3b835f1b9940b6abd0f1e2dc7d24d4e1"), looks := false }, kinds := [], alts := [], laidByText := true, laidKinds := [.data, .data, .data, .data], laidTests := true, laidLooks := .later }
def FieldTellsUptoCardSaid : Prop := Claim7.holds Tryd.pinned (.plain (OpenSpec.upto fieldTellsSpec)) fieldTellsUptoCard

/-- THE SECOND FORM's CARD OF 'yashmaklaw04.FieldRoots'. -/
def fieldRootsUptoCard : Claim7 := { stood := { row := fieldRootsUptoRow, standIns := [], harness := (true, "a8539d4010f0633c5b97d913d970d7eb3b835f1b9940b6abd0f1e2dc7d24d4e1"), looks := false }, kinds := [], alts := [], laidByText := true, laidKinds := [.data, .data, .data, .data], laidTests := true, laidLooks := .later }
def FieldRootsUptoCardSaid : Prop := Claim7.holds Tryd.pinned (.plain (OpenSpec.upto fieldRootsSpec)) fieldRootsUptoCard

/-- THE SECOND FORM's CARD OF 'yashmaklaw04.FieldLaws'. -/
def fieldLawsUptoCard : Claim7 := { stood := { row := fieldLawsUptoRow, standIns := [], harness := (true, "a8539d4010f0633c5b97d913d970d7eb3b835f1b9940b6abd0f1e2dc7d24d4e1"), looks := false }, kinds := [], alts := [], laidByText := true, laidKinds := [.data, .data, .data, .data], laidTests := true, laidLooks := .later }
def FieldLawsUptoCardSaid : Prop := Claim7.holds Tryd.pinned (.plain (OpenSpec.upto fieldLawsSpec)) fieldLawsUptoCard

/-- THE SECOND FORM's CARD OF 'yashmaklaw04.FieldBack'. -/
def fieldBackUptoCard : Claim7 := { stood := { row := fieldBackUptoRow, standIns := [], harness := (true, "a8539d4010f0633c5b97d913d970d7eb3b835f1b9940b6abd0f1e2dc7d24d4e1"), looks := false }, kinds := [], alts := [], laidByText := true, laidKinds := [.data, .data, .data, .data], laidTests := true, laidLooks := .later }
def FieldBackUptoCardSaid : Prop := Claim7.holds Tryd.pinned (.plain (OpenSpec.upto fieldBackSpec)) fieldBackUptoCard

/-- THE SECOND FORM's CARD OF 'yashmaklaw04.FieldInverses'. -/
def fieldInversesUptoCard : Claim7 := { stood := { row := fieldInversesUptoRow, standIns := [], harness := (true, "a8539d4010f0633c5b97d913d970d7eb3b835f1b9940b6abd0f1e2dc7d24d4e1"), looks := false }, kinds := [], alts := [], laidByText := true, laidKinds := [.data, .data, .data, .data], laidTests := true, laidLooks := .later }
def FieldInversesUptoCardSaid : Prop := Claim7.holds Tryd.pinned (.plain (OpenSpec.upto fieldInversesSpec)) fieldInversesUptoCard

/-- THE SECOND FORM's CARD OF 'yashmaklaw04.FieldSquares'. -/
def fieldSquaresUptoCard : Claim7 := { stood := { row := fieldSquaresUptoRow, standIns := [], harness := (true, "a8539d4010f0633c5b97d913d970d7eb3b835f1b9940b6abd0f1e2dc7d24d4e1"), looks := false }, kinds := [], alts := [], laidByText := true, laidKinds := [.data, .data, .data, .data], laidTests := true, laidLooks := .later }
def FieldSquaresUptoCardSaid : Prop := Claim7.holds Tryd.pinned (.plain (OpenSpec.upto fieldSquaresSpec)) fieldSquaresUptoCard

/-- THE SECOND FORM's CARD OF 'yashmaklaw05.ScalarTells'. -/
def scalarTellsUptoCard : Claim7 := { stood := { row := scalarTellsUptoRow, standIns := [], harness := (true, "a8539d4010f0633c5b97d913d970d7eb3b835f1b9940b6abd0f1e2dc7d24d4e1"), looks := false }, kinds := [], alts := [], laidByText := true, laidKinds := [.data], laidTests := true, laidLooks := .later }
def ScalarTellsUptoCardSaid : Prop := Claim7.holds Tryd.pinned (.plain (OpenSpec.upto scalarTellsSpec)) scalarTellsUptoCard

/-- THE SECOND FORM's CARD OF 'yashmaklaw05.ScalarLaws'. -/
def scalarLawsUptoCard : Claim7 := { stood := { row := scalarLawsUptoRow, standIns := [], harness := (true, "a8539d4010f0633c5b97d913d970d7eb3b835f1b9940b6abd0f1e2dc7d24d4e1"), looks := false }, kinds := [], alts := [], laidByText := true, laidKinds := [.data], laidTests := true, laidLooks := .later }
def ScalarLawsUptoCardSaid : Prop := Claim7.holds Tryd.pinned (.plain (OpenSpec.upto scalarLawsSpec)) scalarLawsUptoCard

/-- THE SECOND FORM's CARD OF 'yashmaklaw05.ScalarBack'. -/
def scalarBackUptoCard : Claim7 := { stood := { row := scalarBackUptoRow, standIns := [], harness := (true, "a8539d4010f0633c5b97d913d970d7eb3b835f1b9940b6abd0f1e2dc7d24d4e1"), looks := false }, kinds := [], alts := [], laidByText := true, laidKinds := [.data], laidTests := true, laidLooks := .later }
def ScalarBackUptoCardSaid : Prop := Claim7.holds Tryd.pinned (.plain (OpenSpec.upto scalarBackSpec)) scalarBackUptoCard

/-- THE SECOND FORM's CARD OF 'yashmaklaw05.ScalarNegs'. -/
def scalarNegsUptoCard : Claim7 := { stood := { row := scalarNegsUptoRow, standIns := [], harness := (true, "a8539d4010f0633c5b97d913d970d7eb3b835f1b9940b6abd0f1e2dc7d24d4e1"), looks := false }, kinds := [], alts := [], laidByText := true, laidKinds := [.data], laidTests := true, laidLooks := .later }
def ScalarNegsUptoCardSaid : Prop := Claim7.holds Tryd.pinned (.plain (OpenSpec.upto scalarNegsSpec)) scalarNegsUptoCard
end Rows
end Go.Proofs.YtdmphnfpcblfnaaDoor
