/- Proved here: the given statement TapeThenSaid, whole, for every input: Orders come together in whatever order they are put together. Conditions: none beyond what the statement itself says. -/
import Derived.Test.YtdlhklnpnpmibaaMd
import Derived.Test.YtdlhklnpnpmibaaRows
import Derived.ProofKit
namespace Go.Proofs.Ytdlhklnpnpmibaa
open Go Go.Sx
open Go.ChangeShapes Go.WideShapes Go.ChangeAt Go.RowKit
set_option maxRecDepth 100000

theorem lifted7 (os : Os) (started : os.Started) (H : Type) (enc : TypeId × Value → H) :
    ReturnsInHanded {} Try.checked os 7 .any (Rows.tapeThenSpec.pre6 enc Try.prog Try.f7 Rows.tapeThenRow.domain false) (Rows.tapeThenSpec.post enc Try.prog Try.f7 false true false false) := by
  refine returnsInHanded_of_change (C := Try.checked) own started (by kernel_rfl) Try.func7
    (ChangeSpec.witness6 (enc := enc) (C := Try.checked) false ⟨#[], #[.slice none 0 0, .slice none 0 0, .slice none 0 0], []⟩ 8 (by kernel_rfl) (by kernel_rfl) (by kernel_rfl) (by kernel_rfl)) ?_
  intro W base args ds gs before hval hW _ _
  exact law_callsM fn7 laidOut (by kernel_rfl) (by kernel_rfl) (by kernel_rfl) (show Try.prog.underlying 4 = some .bool by kernel_rfl) rfl
    (fun ds hd => by
      have e : ds.length = 3 := hd.trans (by kernel_rfl)
      match ds, e with
      | [_, _, _], _ => rfl)
    (fun _ _ _ => trivial) (by decide) hval hW trivial

theorem tapeThen_holds : Rows.TapeThenSaid :=
  OpenClaim.holds_of_wide 7 Try.f7 rfl rfl rfl rfl rfl rfl rfl ⟨rfl, rfl, rfl, rfl, rfl⟩ rfl rfl rfl rfl rfl (by kernel_rfl) Try.func7 (by kernel_rfl)
    (of_decide_eq_true (by kernel_rfl)) (by unfold Func.isWrapper; first | (rw [if_pos (by decide +kernel)]; kernel_rfl) | (rw [if_neg (by decide +kernel)]; exact ⟨rfl, rfl⟩))
    (fun os started H enc _ => lifted7 os started H enc)
#print axioms tapeThen_holds
end Go.Proofs.Ytdlhklnpnpmibaa
