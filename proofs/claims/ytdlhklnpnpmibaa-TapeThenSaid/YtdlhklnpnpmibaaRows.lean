/-
  No cell of these rows narrows 'for every input' (looked for: loops, veiled, ifaces, maps, wideKeys, modest, calm, conditions, laid).
  DERIVED. THE GIVEN ROWS OF THIS SEAT. 5 by the template 'for every input the law returns true; each argument reads behind the call as it read before'; 0 by the template 'total and deterministic' (their statements: YtdlhklnpnpmibaaTotals.lean).
  GIVEN WITH THE SEED: the statements are not yours to turn. If you find one false, say at which input.
  Laid BY PROGRAM, IN A SANDBOX (cutbox-rows.mjs): the forced cells as the released guide's own fill.sh prints them over the translation bb21a8c752d46900… (all of the seat's roots in one cut). By AI agents, Wed Nov 11 2026. No macro, syntax, notation, axiom, sorry.
-/
import Derived.Test.YtdlhklnpnpmibaaChecked
import GoSem.Claim
import GoSem.ClaimJoined
import GoSem.ClaimMapViews
import Derived.JoinedTies
import Derived.KernelRfl
namespace Go.Proofs.Ytdlhklnpnpmibaa
/- THE CELL 'sum', in the pinned program and in every row, IS THE sha256 OF THE DUMP (.gsa) THAT YtdlhklnpnpmibaaProg.lean LOADS. Nothing in Lean hashes anything: it is a label: what it is worth is what the hold of that sum in a sandbox is worth. -/
noncomputable def Try.pinned : Pinned := { name := "ytdlhklnpnpmibaa", sum := "bb21a8c752d46900691a255efa2f06abca0a27308fa771af86d45fe08e3fce64", checked := Try.checked }
namespace Rows
def none {H : Type} : Left H := { results := [], args := [] }

/-- 'yashmaklaw11.TapeTells': WHATEVER THE INPUT: true; the input reads as it did. -/
def tapeTellsSpec : ChangeSpec := { name := "tapeTells", fn := fun _ => fun
  | [d1, d2] => { results := [.lit (.bool true)], args := [d1, d2] }
  | _ => none }
def tapeTellsRow : OpenClaim := { program := "ytdlhklnpnpmibaa", sum := "bb21a8c752d46900691a255efa2f06abca0a27308fa771af86d45fe08e3fce64", func := "yashmak/yashmaklaw11.TapeTells", spec := "tapeTells", plainKeys := false, apart := false }
def TapeTellsSaid : Prop := tapeTellsRow.holds Try.pinned (OpenSpec.ofChange tapeTellsSpec)

/-- ITS FALSE NEIGHBOUR: 'it returns false'. Refute it at one input. -/
def tapeTellsWrong : ChangeSpec := { name := "tapeTells", fn := fun _ => fun
  | [d1, d2] => { results := [.lit (.bool false)], args := [d1, d2] }
  | _ => none }
def TapeTellsWrongFalsely : Prop := tapeTellsRow.holds Try.pinned (OpenSpec.ofChange tapeTellsWrong)

/-- 'yashmaklaw11.TapeOrders': WHATEVER THE INPUT: true; the input reads as it did. -/
def tapeOrdersSpec : ChangeSpec := { name := "tapeOrders", fn := fun _ => fun
  | [d1, d2] => { results := [.lit (.bool true)], args := [d1, d2] }
  | _ => none }
def tapeOrdersRow : OpenClaim := { program := "ytdlhklnpnpmibaa", sum := "bb21a8c752d46900691a255efa2f06abca0a27308fa771af86d45fe08e3fce64", func := "yashmak/yashmaklaw11.TapeOrders", spec := "tapeOrders", plainKeys := false, apart := false }
def TapeOrdersSaid : Prop := tapeOrdersRow.holds Try.pinned (OpenSpec.ofChange tapeOrdersSpec)

/-- ITS FALSE NEIGHBOUR: 'it returns false'. Refute it at one input. -/
def tapeOrdersWrong : ChangeSpec := { name := "tapeOrders", fn := fun _ => fun
  | [d1, d2] => { results := [.lit (.bool false)], args := [d1, d2] }
  | _ => none }
def TapeOrdersWrongFalsely : Prop := tapeOrdersRow.holds Try.pinned (OpenSpec.ofChange tapeOrdersWrong)

/-- 'yashmaklaw11.TapeBack': WHATEVER THE INPUT: true; the input reads as it did. -/
def tapeBackSpec : ChangeSpec := { name := "tapeBack", fn := fun _ => fun
  | [d1, d2, d3] => { results := [.lit (.bool true)], args := [d1, d2, d3] }
  | _ => none }
def tapeBackRow : OpenClaim := { program := "ytdlhklnpnpmibaa", sum := "bb21a8c752d46900691a255efa2f06abca0a27308fa771af86d45fe08e3fce64", func := "yashmak/yashmaklaw11.TapeBack", spec := "tapeBack", plainKeys := false, apart := false }
def TapeBackSaid : Prop := tapeBackRow.holds Try.pinned (OpenSpec.ofChange tapeBackSpec)

/-- ITS FALSE NEIGHBOUR: 'it returns false'. Refute it at one input. -/
def tapeBackWrong : ChangeSpec := { name := "tapeBack", fn := fun _ => fun
  | [d1, d2, d3] => { results := [.lit (.bool false)], args := [d1, d2, d3] }
  | _ => none }
def TapeBackWrongFalsely : Prop := tapeBackRow.holds Try.pinned (OpenSpec.ofChange tapeBackWrong)

/-- 'yashmaklaw11.TapeGoes': WHATEVER THE INPUT: true; the input reads as it did. -/
def tapeGoesSpec : ChangeSpec := { name := "tapeGoes", fn := fun _ => fun
  | [d1, d2] => { results := [.lit (.bool true)], args := [d1, d2] }
  | _ => none }
def tapeGoesRow : OpenClaim := { program := "ytdlhklnpnpmibaa", sum := "bb21a8c752d46900691a255efa2f06abca0a27308fa771af86d45fe08e3fce64", func := "yashmak/yashmaklaw11.TapeGoes", spec := "tapeGoes", plainKeys := false, apart := false }
def TapeGoesSaid : Prop := tapeGoesRow.holds Try.pinned (OpenSpec.ofChange tapeGoesSpec)

/-- ITS FALSE NEIGHBOUR: 'it returns false'. Refute it at one input. -/
def tapeGoesWrong : ChangeSpec := { name := "tapeGoes", fn := fun _ => fun
  | [d1, d2] => { results := [.lit (.bool false)], args := [d1, d2] }
  | _ => none }
def TapeGoesWrongFalsely : Prop := tapeGoesRow.holds Try.pinned (OpenSpec.ofChange tapeGoesWrong)

/-- 'yashmaklaw11.TapeThen': WHATEVER THE INPUT: true; the input reads as it did. -/
def tapeThenSpec : ChangeSpec := { name := "tapeThen", fn := fun _ => fun
  | [d1, d2, d3] => { results := [.lit (.bool true)], args := [d1, d2, d3] }
  | _ => none }
def tapeThenRow : OpenClaim := { program := "ytdlhklnpnpmibaa", sum := "bb21a8c752d46900691a255efa2f06abca0a27308fa771af86d45fe08e3fce64", func := "yashmak/yashmaklaw11.TapeThen", spec := "tapeThen", plainKeys := false, apart := false }
def TapeThenSaid : Prop := tapeThenRow.holds Try.pinned (OpenSpec.ofChange tapeThenSpec)

/-- ITS FALSE NEIGHBOUR: 'it returns false'. Refute it at one input. -/
def tapeThenWrong : ChangeSpec := { name := "tapeThen", fn := fun _ => fun
  | [d1, d2, d3] => { results := [.lit (.bool false)], args := [d1, d2, d3] }
  | _ => none }
def TapeThenWrongFalsely : Prop := tapeThenRow.holds Try.pinned (OpenSpec.ofChange tapeThenWrong)

/- THE SECOND FORM. 'bulk': how many values and letters a reading holds, each counted each time it is reached (what is shared counts as often as it is met; a slice's spare places count too). A statement '..UptoSaid' is the law's where the arguments, and the package variables that the reading takes, are together of bulk at most 1048576: NARROWER than '..Said'. Prove '..Said' where nothing that the law and all that it calls make is longer than what came in: it says more and counts as full. Else prove '..UptoSaid'. A law counts once. -/
mutual
def uptoBulk {H : Type} : DataW H → Nat
  | .lit (.string bytes) => bytes.length + 1
  | .lit _ => 1
  | .nil => 1
  | .ptr d => uptoBulk d + 1
  | .slice elems spare => uptoBulkAll elems + uptoBulkAll spare + 1
  | .agg parts => uptoBulkAll parts + 1
  | .iface _ d => uptoBulk d + 1
  | .map entries => uptoBulkEntries entries + 1
  | .held _ => 1
def uptoBulkAll {H : Type} : List (DataW H) → Nat
  | [] => 0
  | d :: r => uptoBulk d + uptoBulkAll r
def uptoBulkEntries {H : Type} : List (Lit × DataW H) → Nat
  | [] => 0
  | x :: r => uptoBulkEntry x + uptoBulkEntries r
def uptoBulkEntry {H : Type} : Lit × DataW H → Nat
  | (.string bytes, d) => bytes.length + uptoBulk d + 1
  | (_, d) => uptoBulk d + 1
 end
def uptoSmall : (H : Type) → List (DataW H) → Bool := fun _ ds => decide (uptoBulkAll ds ≤ 1048576)
def OpenSpec.upto (s : _root_.Go.ChangeSpec) : _root_.Go.OpenSpec := { _root_.Go.OpenSpec.ofChange s with cond := some uptoSmall }

/-- 'yashmaklaw11.TapeTells', WHERE WHAT IT READS IS OF BULK AT MOST 1048576: true; the input reads as it did. -/
def tapeTellsUptoRow : OpenClaim := { program := "ytdlhklnpnpmibaa", sum := "bb21a8c752d46900691a255efa2f06abca0a27308fa771af86d45fe08e3fce64", func := "yashmak/yashmaklaw11.TapeTells", spec := "tapeTells", plainKeys := false, apart := false, narrowed := true }
def TapeTellsUptoSaid : Prop := tapeTellsUptoRow.holds Try.pinned (OpenSpec.upto tapeTellsSpec)

/-- 'yashmaklaw11.TapeOrders', WHERE WHAT IT READS IS OF BULK AT MOST 1048576: true; the input reads as it did. -/
def tapeOrdersUptoRow : OpenClaim := { program := "ytdlhklnpnpmibaa", sum := "bb21a8c752d46900691a255efa2f06abca0a27308fa771af86d45fe08e3fce64", func := "yashmak/yashmaklaw11.TapeOrders", spec := "tapeOrders", plainKeys := false, apart := false, narrowed := true }
def TapeOrdersUptoSaid : Prop := tapeOrdersUptoRow.holds Try.pinned (OpenSpec.upto tapeOrdersSpec)

/-- 'yashmaklaw11.TapeBack', WHERE WHAT IT READS IS OF BULK AT MOST 1048576: true; the input reads as it did. -/
def tapeBackUptoRow : OpenClaim := { program := "ytdlhklnpnpmibaa", sum := "bb21a8c752d46900691a255efa2f06abca0a27308fa771af86d45fe08e3fce64", func := "yashmak/yashmaklaw11.TapeBack", spec := "tapeBack", plainKeys := false, apart := false, narrowed := true }
def TapeBackUptoSaid : Prop := tapeBackUptoRow.holds Try.pinned (OpenSpec.upto tapeBackSpec)

/-- 'yashmaklaw11.TapeGoes', WHERE WHAT IT READS IS OF BULK AT MOST 1048576: true; the input reads as it did. -/
def tapeGoesUptoRow : OpenClaim := { program := "ytdlhklnpnpmibaa", sum := "bb21a8c752d46900691a255efa2f06abca0a27308fa771af86d45fe08e3fce64", func := "yashmak/yashmaklaw11.TapeGoes", spec := "tapeGoes", plainKeys := false, apart := false, narrowed := true }
def TapeGoesUptoSaid : Prop := tapeGoesUptoRow.holds Try.pinned (OpenSpec.upto tapeGoesSpec)

/-- 'yashmaklaw11.TapeThen', WHERE WHAT IT READS IS OF BULK AT MOST 1048576: true; the input reads as it did. -/
def tapeThenUptoRow : OpenClaim := { program := "ytdlhklnpnpmibaa", sum := "bb21a8c752d46900691a255efa2f06abca0a27308fa771af86d45fe08e3fce64", func := "yashmak/yashmaklaw11.TapeThen", spec := "tapeThen", plainKeys := false, apart := false, narrowed := true }
def TapeThenUptoSaid : Prop := tapeThenUptoRow.holds Try.pinned (OpenSpec.upto tapeThenSpec)

end Rows
end Go.Proofs.Ytdlhklnpnpmibaa
