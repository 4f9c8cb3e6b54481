/- Proved here: the given statement TapeTellsSaid, whole, for every input: The next draw of any tape, and it in any order, are what it says, or its error. Conditions: none beyond what the statement itself says. -/
import Derived.Test.YtdlhklnpnpmibaaMd
import Derived.Test.YtdlhklnpnpmibaaRows
import Derived.ProofKit
namespace Go.Proofs.Ytdlhklnpnpmibaa
open Go Go.Sx
open Go.ChangeShapes Go.WideShapes Go.ChangeAt Go.RowKit
set_option maxRecDepth 100000

theorem lifted3 (os : Os) (started : os.Started) (H : Type) (enc : TypeId × Value → H) :
    ReturnsInHanded {} Try.checked os 3 .any (Rows.tapeTellsSpec.pre6 enc Try.prog Try.f3 Rows.tapeTellsRow.domain false) (Rows.tapeTellsSpec.post enc Try.prog Try.f3 false true false false) := by
  refine returnsInHanded_of_change (C := Try.checked) own started (by kernel_rfl) Try.func3
    (ChangeSpec.witness6 (enc := enc) (C := Try.checked) false ⟨#[], #[.agg #[.slice none 0 0, .int .i64 0], .slice none 0 0], []⟩ 8 (by kernel_rfl) (by kernel_rfl) (by kernel_rfl) (by kernel_rfl)) ?_
  intro W base args ds gs before hval hW _ _
  exact law_callsM fn3 laidOut (by kernel_rfl) (by kernel_rfl) (by kernel_rfl) (show Try.prog.underlying 4 = some .bool by kernel_rfl) rfl
    (fun ds hd => by
      have e : ds.length = 2 := hd.trans (by kernel_rfl)
      match ds, e with
      | [_, _], _ => rfl)
    (fun _ _ _ => trivial) (by decide) hval hW trivial

theorem tapeTells_holds : Rows.TapeTellsSaid :=
  OpenClaim.holds_of_wide 3 Try.f3 rfl rfl rfl rfl rfl rfl rfl ⟨rfl, rfl, rfl, rfl, rfl⟩ rfl rfl rfl rfl rfl (by kernel_rfl) Try.func3 (by kernel_rfl)
    (of_decide_eq_true (by kernel_rfl)) (by unfold Func.isWrapper; first | (rw [if_pos (by decide +kernel)]; kernel_rfl) | (rw [if_neg (by decide +kernel)]; exact ⟨rfl, rfl⟩))
    (fun os started H enc _ => lifted3 os started H enc)
#print axioms tapeTells_holds
end Go.Proofs.Ytdlhklnpnpmibaa
