/- Proved here: the given statement WideNothingCardSaid, whole, for every input: a text goes on by nothing as it is, and behind its sum. Conditions: none beyond what the statement itself says. -/
import Derived.Test.YtdlhklnpnpmibaaDoorMd
import Derived.Test.YtdlhklnpnpmibaaDoorTie
import Derived.Test.YtdlhklnpnpmibaaDoorCards
import Derived.SevenTiedAt
namespace Go.Proofs.YtdlhklnpnpmibaaDoor
open Go Go.Sx
open Go.ChangeShapes Go.WideShapes Go.RowKit
set_option maxRecDepth 100000

theorem lifted6 (os : Os) (started : os.Started) (H : Type) (enc : TypeId × Value → H) :
    ReturnsInHanded {} Tryd.checked os 6 .any (fun w args => (Rows.wideNothingSpec.pre enc Tryd.prog Tryd.f6 [] false w args ∧ laidMetH Tryd.prog laidW w) ∧ sizedMet enc Tryd.prog Tryd.f6 (OpenSpec.ofChange Rows.wideNothingSpec) false w args)
      (Rows.wideNothingSpec.post enc Tryd.prog Tryd.f6 false true false false) :=
  returnsInHanded_of_change_and (C := Tryd.checked) (X := fun w _ => laidMetH Tryd.prog laidW w) (fun _ _ _ hh h => h.of_heap hh) own started (by kernel_rfl) Tryd.func6
    (ChangeSpec.witness_shaped (enc := enc) (C := Tryd.checked) (os := os) (X := fun w _ => laidMetH Tryd.prog laidW w) false (World.doorLaid Tryd.prog 400 os) #[(.slice none 0 0), (.slice none 0 0)] 8 rfl (World.shaped_of_RefB (by kernel_rfl) (by kernel_rfl)) (by kernel_rfl) (by kernel_rfl) (by kernel_rfl) (door_metW os _))
    fun W base args ds gs before hval hW _ _ hL _ =>
      law_callsM fn6 laidOut (by kernel_rfl) (by kernel_rfl) (by kernel_rfl) (show Tryd.prog.underlying 4 = some .bool by kernel_rfl) rfl
        (fun ds hd => by
          have e : ds.length = 2 := hd.trans (by kernel_rfl)
          match ds, e with
          | [_, _], _ => rfl)
        (fun _ _ _ => trivial)
        (by decide) hval hW (GW_of_laid hL)

theorem wideNothing_holds : Rows.WideNothingSaid :=
  OpenClaim.holds_of_wide 6 Tryd.f6 rfl rfl rfl rfl rfl rfl rfl ⟨rfl, rfl, rfl, rfl, rfl⟩ rfl rfl rfl rfl rfl (by kernel_rfl) Tryd.func6 (by kernel_rfl)
    (of_decide_eq_true (by kernel_rfl)) (by unfold Func.isWrapper; first | (rw [if_pos (by decide +kernel)]; kernel_rfl) | (rw [if_neg (by decide +kernel)]; exact ⟨rfl, rfl⟩))
    (fun os started H enc _ => lifted6 os started H enc)

theorem wideNothing_card : Rows.WideNothingCardSaid :=
  Claim7.holds_tied_plain_at .later [] [.data, .data] true (true, "1a5de618b91eebcca682f278e82f30549a7d528b9da3b8bb6a55880bedae0e01") false
    wideNothing_holds (fun _ h => by cases h) (by kernel_rfl) (fun _ h => by cases h) wideNothing_row_tie rfl ⟨rfl, rfl⟩ (by kernel_rfl) rfl
    (fun f fn hf hfn => by
      obtain rfl : f = 6 := Option.some.inj ((show Tryd.prog.funcNamed "yashmak/yashmaklaw03.WideNothing" = some 6 by kernel_rfl).symm.trans hf) |>.symm
      obtain rfl : fn = Tryd.f6 := (Option.some.inj (Tryd.func6.symm.trans hfn)).symm
      exact ⟨by kernel_rfl, fun j t ht => by
        have hm : t ∈ Tryd.f6.params.toList := by simpa using Array.mem_of_getElem? ht
        have hall : (Tryd.f6.params.toList.all fun u => !Tryd.prog.wantsStandIn u) = true := by kernel_rfl
        exact (show Tryd.prog.wantsStandIn t = false by simpa using List.all_eq_true.1 hall t hm)⟩)
    (by kernel_rfl)
#print axioms wideNothing_card
end Go.Proofs.YtdlhklnpnpmibaaDoor
