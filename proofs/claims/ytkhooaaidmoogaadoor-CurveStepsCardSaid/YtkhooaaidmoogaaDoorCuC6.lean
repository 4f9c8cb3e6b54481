/- Proved here: the given statement CurveStepsCardSaid, whole, for every input: a point times a small number is as many of it, added one by one. Conditions: none beyond what the statement itself says. -/
import Derived.Test.YtkhooaaidmoogaaDoorMh
import Derived.Test.YtkhooaaidmoogaaDoorTie
import Derived.Test.YtkhooaaidmoogaaDoorCards
import Derived.SevenTiedAt
namespace Go.Proofs.YtkhooaaidmoogaaDoor
open Go Go.Sx
open Go.ChangeShapes Go.WideShapes Go.RowKit
set_option maxRecDepth 100000

theorem lifted6 (os : Os) (started : os.Started) (H : Type) (enc : TypeId × Value → H) :
    ReturnsInHanded {} Tryd.checked os 6 .any (fun w args => (Rows.curveStepsSpec.pre enc Tryd.prog Tryd.f6 [] false w args ∧ laidMetH Tryd.prog laidF w) ∧ sizedMet enc Tryd.prog Tryd.f6 (OpenSpec.ofChange Rows.curveStepsSpec) false w args)
      (Rows.curveStepsSpec.post enc Tryd.prog Tryd.f6 false true false false) :=
  returnsInHanded_of_change_and (C := Tryd.checked) (X := fun w _ => laidMetH Tryd.prog laidF w) (fun _ _ _ hh h => h.of_heap hh) own started (by kernel_rfl) Tryd.func6
    (ChangeSpec.witness_shaped (enc := enc) (C := Tryd.checked) (os := os) (X := fun w _ => laidMetH Tryd.prog laidF w) false (World.doorLaid Tryd.prog 400 os) #[(.agg #[.int .u64 0, .int .u64 0, .int .u64 0, .int .u64 0, .int .u64 0, .int .u64 0, .int .u64 0, .int .u64 0]), .int .u8 0] 8 rfl (World.shaped_of_RefB (by kernel_rfl) (by kernel_rfl)) (by kernel_rfl) (by kernel_rfl) (by kernel_rfl) (door_metF os _))
    fun W base args ds gs before hval hW _ _ hL _ =>
      law_calls fnSteps laidOut (by kernel_rfl) (by kernel_rfl) (by kernel_rfl) (show Tryd.prog.underlying 4 = some .bool by kernel_rfl) rfl
        (fun ds hd => by
          have e : ds.length = 2 := hd.trans (by kernel_rfl)
          match ds, e with
          | [_, _], _ => rfl)
        (fun xs hfit hhas => by
          obtain ⟨x, y, n, rfl⟩ := fit_pn hfit
          exact ⟨u2_has hhas.1, u8_has1 hhas.2.1⟩)
        hval hW (GC_of_laid hL)

theorem curveSteps_holds : Rows.CurveStepsSaid :=
  OpenClaim.holds_of_wide 6 Tryd.f6 rfl rfl rfl rfl rfl rfl rfl ⟨rfl, rfl, rfl, rfl, rfl⟩ rfl rfl rfl rfl rfl (by kernel_rfl) Tryd.func6 (by kernel_rfl)
    (of_decide_eq_true (by kernel_rfl)) (by unfold Func.isWrapper; first | (rw [if_pos (by decide +kernel)]; kernel_rfl) | (rw [if_neg (by decide +kernel)]; exact ⟨rfl, rfl⟩))
    (fun os started H enc _ => lifted6 os started H enc)

theorem curveSteps_card : Rows.CurveStepsCardSaid :=
  Claim7.holds_tied_plain_at .later [] [.data, .data, .data, .data, .data] true (true, "04d775cefb95b31a4bec0d7c54c884811732aa5d0325ffe44073d475e29bf730") false
    curveSteps_holds (fun _ h => by cases h) (by kernel_rfl) (fun _ h => by cases h) curveSteps_row_tie rfl ⟨rfl, rfl⟩ (by kernel_rfl) rfl
    (fun f fn hf hfn => by
      obtain rfl : f = 6 := Option.some.inj ((show Tryd.prog.funcNamed "yashmak/yashmaklaw06.CurveSteps" = some 6 by kernel_rfl).symm.trans hf) |>.symm
      obtain rfl : fn = Tryd.f6 := (Option.some.inj (Tryd.func6.symm.trans hfn)).symm
      exact ⟨by kernel_rfl, fun j t ht => by
        have hm : t ∈ Tryd.f6.params.toList := by simpa using Array.mem_of_getElem? ht
        have hall : (Tryd.f6.params.toList.all fun u => !Tryd.prog.wantsStandIn u) = true := by kernel_rfl
        exact (show Tryd.prog.wantsStandIn t = false by simpa using List.all_eq_true.1 hall t hm)⟩)
    (by kernel_rfl)
#print axioms curveSteps_card
end Go.Proofs.YtkhooaaidmoogaaDoor
