/- Proved here: the given statement TapeBackSaid, whole, for every input: Draws that are turned, and turned back, are as they were. Conditions: none beyond what the statement itself says. -/
import Derived.Test.YtdlhklnpnpmibaaMd
import Derived.Test.YtdlhklnpnpmibaaRows
import Derived.ProofKit
namespace Go.Proofs.Ytdlhklnpnpmibaa
open Go Go.Sx
open Go.ChangeShapes Go.WideShapes Go.ChangeAt Go.RowKit
set_option maxRecDepth 100000

theorem lifted5 (os : Os) (started : os.Started) (H : Type) (enc : TypeId × Value → H) :
    ReturnsInHanded {} Try.checked os 5 .any (Rows.tapeBackSpec.pre6 enc Try.prog Try.f5 Rows.tapeBackRow.domain false) (Rows.tapeBackSpec.post enc Try.prog Try.f5 false true false false) := by
  refine returnsInHanded_of_change (C := Try.checked) own started (by kernel_rfl) Try.func5
    (ChangeSpec.witness6 (enc := enc) (C := Try.checked) false ⟨#[], #[.agg #[.slice none 0 0, .int .i64 0], .slice none 0 0, .slice none 0 0], []⟩ 8 (by kernel_rfl) (by kernel_rfl) (by kernel_rfl) (by kernel_rfl)) ?_
  intro W base args ds gs before hval hW _ _
  exact law_callsM fn5 laidOut (by kernel_rfl) (by kernel_rfl) (by kernel_rfl) (show Try.prog.underlying 4 = some .bool by kernel_rfl) rfl
    (fun ds hd => by
      have e : ds.length = 3 := hd.trans (by kernel_rfl)
      match ds, e with
      | [_, _, _], _ => rfl)
    (fun _ _ _ => trivial) (by decide) hval hW trivial

theorem tapeBack_holds : Rows.TapeBackSaid :=
  OpenClaim.holds_of_wide 5 Try.f5 rfl rfl rfl rfl rfl rfl rfl ⟨rfl, rfl, rfl, rfl, rfl⟩ rfl rfl rfl rfl rfl (by kernel_rfl) Try.func5 (by kernel_rfl)
    (of_decide_eq_true (by kernel_rfl)) (by unfold Func.isWrapper; first | (rw [if_pos (by decide +kernel)]; kernel_rfl) | (rw [if_neg (by decide +kernel)]; exact ⟨rfl, rfl⟩))
    (fun os started H enc _ => lifted5 os started H enc)
#print axioms tapeBack_holds
end Go.Proofs.Ytdlhklnpnpmibaa
