/- Proved here: the given statement CurveSumsCardSaid, whole, for every input: a point of the great group times a sum is both products, added. Conditions: none beyond what the statement itself says. -/
import Derived.Test.YtkhooaaidmoogaaDoorMh
import Derived.Test.YtkhooaaidmoogaaDoorTie
import Derived.Test.YtkhooaaidmoogaaDoorCards
import Derived.SevenTiedAt
namespace Go.Proofs.YtkhooaaidmoogaaDoor
open Go Go.Sx
open Go.ChangeShapes Go.WideShapes Go.RowKit
set_option maxRecDepth 100000

theorem lifted8 (os : Os) (started : os.Started) (H : Type) (enc : TypeId × Value → H) :
    ReturnsInHanded {} Tryd.checked os 8 .any (fun w args => (Rows.curveSumsSpec.pre enc Tryd.prog Tryd.f8 [] false w args ∧ laidMetH Tryd.prog laidF w) ∧ sizedMet enc Tryd.prog Tryd.f8 (OpenSpec.ofChange Rows.curveSumsSpec) false w args)
      (Rows.curveSumsSpec.post enc Tryd.prog Tryd.f8 false true false false) :=
  returnsInHanded_of_change_and (C := Tryd.checked) (X := fun w _ => laidMetH Tryd.prog laidF w) (fun _ _ _ hh h => h.of_heap hh) own started (by kernel_rfl) Tryd.func8
    (ChangeSpec.witness_shaped (enc := enc) (C := Tryd.checked) (os := os) (X := fun w _ => laidMetH Tryd.prog laidF w) false (World.doorLaid Tryd.prog 400 os) #[(.agg #[.int .u64 0, .int .u64 0, .int .u64 0, .int .u64 0]), (.agg #[.int .u64 0, .int .u64 0, .int .u64 0, .int .u64 0]), (.agg #[.int .u64 0, .int .u64 0, .int .u64 0, .int .u64 0])] 8 rfl (World.shaped_of_RefB (by kernel_rfl) (by kernel_rfl)) (by kernel_rfl) (by kernel_rfl) (by kernel_rfl) (door_metF os _))
    fun W base args ds gs before hval hW _ _ hL _ =>
      law_calls fnSums laidOut (by kernel_rfl) (by kernel_rfl) (by kernel_rfl) (show Tryd.prog.underlying 4 = some .bool by kernel_rfl) rfl
        (fun ds hd => by
          have e : ds.length = 3 := hd.trans (by kernel_rfl)
          match ds, e with
          | [_, _, _], _ => rfl)
        (fun xs hfit hhas => by
          obtain ⟨a, b, c, rfl, _, _, _⟩ := fit_l3 hfit
          exact ⟨u64_has hhas.1, u64_has hhas.2.1, u64_has hhas.2.2.1⟩)
        hval hW (GC_of_laid hL)

theorem curveSums_holds : Rows.CurveSumsSaid :=
  OpenClaim.holds_of_wide 8 Tryd.f8 rfl rfl rfl rfl rfl rfl rfl ⟨rfl, rfl, rfl, rfl, rfl⟩ rfl rfl rfl rfl rfl (by kernel_rfl) Tryd.func8 (by kernel_rfl)
    (of_decide_eq_true (by kernel_rfl)) (by unfold Func.isWrapper; first | (rw [if_pos (by decide +kernel)]; kernel_rfl) | (rw [if_neg (by decide +kernel)]; exact ⟨rfl, rfl⟩))
    (fun os started H enc _ => lifted8 os started H enc)

theorem curveSums_card : Rows.CurveSumsCardSaid :=
  Claim7.holds_tied_plain_at .later [] [.data, .data, .data, .data, .data] true (true, "04d775cefb95b31a4bec0d7c54c884811732aa5d0325ffe44073d475e29bf730") false
    curveSums_holds (fun _ h => by cases h) (by kernel_rfl) (fun _ h => by cases h) curveSums_row_tie rfl ⟨rfl, rfl⟩ (by kernel_rfl) rfl
    (fun f fn hf hfn => by
      obtain rfl : f = 8 := Option.some.inj ((show Tryd.prog.funcNamed "yashmak/yashmaklaw06.CurveSums" = some 8 by kernel_rfl).symm.trans hf) |>.symm
      obtain rfl : fn = Tryd.f8 := (Option.some.inj (Tryd.func8.symm.trans hfn)).symm
      exact ⟨by kernel_rfl, fun j t ht => by
        have hm : t ∈ Tryd.f8.params.toList := by simpa using Array.mem_of_getElem? ht
        have hall : (Tryd.f8.params.toList.all fun u => !Tryd.prog.wantsStandIn u) = true := by kernel_rfl
        exact (show Tryd.prog.wantsStandIn t = false by simpa using List.all_eq_true.1 hall t hm)⟩)
    (by kernel_rfl)
#print axioms curveSums_card
end Go.Proofs.YtkhooaaidmoogaaDoor
