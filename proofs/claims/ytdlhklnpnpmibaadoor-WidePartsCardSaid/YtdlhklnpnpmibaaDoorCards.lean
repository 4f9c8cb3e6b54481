/-
  DERIVED. GIVEN WITH THE SEED: THE CARDS: each row of YtdlhklnpnpmibaaDoorRows.lean that lists a variable, with what it lists TIED to the program's text (the seventh form; the later family's looks); each row that meets fmt, with fmt's text TOLD by the authors' own Lean function (tested against real Go, not proved from fmt's source: count such statements apart). THE CARD IS WHAT COUNTS. Prove the row's statement (the work); the ties are given (YtdlhklnpnpmibaaDoorTie.lean); close each card by the builder's one call (the guide's Derived/Test/ToyasCard.lean, 'card_holds'). Laid BY PROGRAM, IN A SANDBOX (cutbox-door.mjs). By AI agents, Wed Nov 11 2026. No macro, syntax, notation, axiom, sorry.
-/
import Derived.Test.YtdlhklnpnpmibaaDoorRows
import GoSem.ClaimSeven
namespace Go.Proofs.YtdlhklnpnpmibaaDoor
namespace Rows

/-- THE TIED CARD OF 'yashmaklaw03.WideTells'. -/
def wideTellsCard : Claim7 := { stood := { row := wideTellsRow, standIns := [], harness := (true, "1a5de618b91eebcca682f278e82f30549a7d528b9da3b8bb6a55880bedae0e01"), looks := false }, kinds := [], alts := [], laidByText := true, laidKinds := [.data, .data], laidTests := true, laidLooks := .later }
def WideTellsCardSaid : Prop := Claim7.holds Tryd.pinned (.plain (OpenSpec.ofChange wideTellsSpec)) wideTellsCard

/-- THE TIED CARD OF 'yashmaklaw03.WideParts'. -/
def widePartsCard : Claim7 := { stood := { row := widePartsRow, standIns := [], harness := (true, "1a5de618b91eebcca682f278e82f30549a7d528b9da3b8bb6a55880bedae0e01"), looks := false }, kinds := [], alts := [], laidByText := true, laidKinds := [.data, .data], laidTests := true, laidLooks := .later }
def WidePartsCardSaid : Prop := Claim7.holds Tryd.pinned (.plain (OpenSpec.ofChange widePartsSpec)) widePartsCard

/-- THE TIED CARD OF 'yashmaklaw03.WideBlocks'. -/
def wideBlocksCard : Claim7 := { stood := { row := wideBlocksRow, standIns := [], harness := (true, "1a5de618b91eebcca682f278e82f30549a7d528b9da3b8bb6a55880bedae0e01"), looks := false }, kinds := [], alts := [], laidByText := true, laidKinds := [.data, .data], laidTests := true, laidLooks := .later }
def WideBlocksCardSaid : Prop := Claim7.holds Tryd.pinned (.plain (OpenSpec.ofChange wideBlocksSpec)) wideBlocksCard

/-- THE TIED CARD OF 'yashmaklaw03.WideNothing'. -/
def wideNothingCard : Claim7 := { stood := { row := wideNothingRow, standIns := [], harness := (true, "1a5de618b91eebcca682f278e82f30549a7d528b9da3b8bb6a55880bedae0e01"), looks := false }, kinds := [], alts := [], laidByText := true, laidKinds := [.data, .data], laidTests := true, laidLooks := .later }
def WideNothingCardSaid : Prop := Claim7.holds Tryd.pinned (.plain (OpenSpec.ofChange wideNothingSpec)) wideNothingCard

/-- THE SECOND FORM's CARD OF 'yashmaklaw03.WideTells'. -/
def wideTellsUptoCard : Claim7 := { stood := { row := wideTellsUptoRow, standIns := [], harness := (true, "1a5de618b91eebcca682f278e82f30549a7d528b9da3b8bb6a55880bedae0e01"), looks := false }, kinds := [], alts := [], laidByText := true, laidKinds := [.data, .data], laidTests := true, laidLooks := .later }
def WideTellsUptoCardSaid : Prop := Claim7.holds Tryd.pinned (.plain (OpenSpec.upto wideTellsSpec)) wideTellsUptoCard

/-- THE SECOND FORM's CARD OF 'yashmaklaw03.WideParts'. -/
def widePartsUptoCard : Claim7 := { stood := { row := widePartsUptoRow, standIns := [], harness := (true, "1a5de618b91eebcca682f278e82f30549a7d528b9da3b8bb6a55880bedae0e01"), looks := false }, kinds := [], alts := [], laidByText := true, laidKinds := [.data, .data], laidTests := true, laidLooks := .later }
def WidePartsUptoCardSaid : Prop := Claim7.holds Tryd.pinned (.plain (OpenSpec.upto widePartsSpec)) widePartsUptoCard

/-- THE SECOND FORM's CARD OF 'yashmaklaw03.WideBlocks'. -/
def wideBlocksUptoCard : Claim7 := { stood := { row := wideBlocksUptoRow, standIns := [], harness := (true, "1a5de618b91eebcca682f278e82f30549a7d528b9da3b8bb6a55880bedae0e01"), looks := false }, kinds := [], alts := [], laidByText := true, laidKinds := [.data, .data], laidTests := true, laidLooks := .later }
def WideBlocksUptoCardSaid : Prop := Claim7.holds Tryd.pinned (.plain (OpenSpec.upto wideBlocksSpec)) wideBlocksUptoCard

/-- THE SECOND FORM's CARD OF 'yashmaklaw03.WideNothing'. -/
def wideNothingUptoCard : Claim7 := { stood := { row := wideNothingUptoRow, standIns := [], harness := (true, "1a5de618b91eebcca682f278e82f30549a7d528b9da3b8bb6a55880bedae0e01"), looks := false }, kinds := [], alts := [], laidByText := true, laidKinds := [.data, .data], laidTests := true, laidLooks := .later }
def WideNothingUptoCardSaid : Prop := Claim7.holds Tryd.pinned (.plain (OpenSpec.upto wideNothingSpec)) wideNothingUptoCard
end Rows
end Go.Proofs.YtdlhklnpnpmibaaDoor
