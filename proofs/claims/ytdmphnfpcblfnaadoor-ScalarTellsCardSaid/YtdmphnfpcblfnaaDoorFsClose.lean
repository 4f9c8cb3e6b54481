import Derived.Test.YtdmphnfpcblfnaaDoorFs12
import Derived.Test.YtdmphnfpcblfnaaDoorSxLa
import Derived.Test.YtdmphnfpcblfnaaDoorRows
/- What the listed variables give; the world in which the door has laid them. -/
namespace Go.Proofs.YtdmphnfpcblfnaaDoor
open Go Go.Sx
open Go.ChangeShapes Go.WideShapes Go.RowKit
set_option maxRecDepth 100000

noncomputable abbrev laidF : List (String × DataW Unit) := [("yashmak/field.prime", Rows.laid_yashmak_field_prime), ("yashmak/field.less2", Rows.laid_yashmak_field_less2), ("yashmak/field.eighth", Rows.laid_yashmak_field_eighth), ("yashmak/field.quarter", Rows.laid_yashmak_field_quarter)]
theorem door_metF (os : Os) (args : Array Value) : laidMetH Tryd.prog laidF ((World.doorLaid Tryd.prog 400 os).forCall (fun _ _ => 0) ⟨#[], args, []⟩).memory :=
  laidMetH_of_parts3 (fuel := 8) (laidMet_of_run' 8 (by kernel_rfl) (by kernel_rfl)) (by kernel_rfl) (by kernel_rfl)

theorem gFe_ints {w : World} {g : Nat} {l : List Int} (h : gInts w g .u64 l) : gFe w g l := h
theorem GF_of_laid {W : World} (h : laidMetH Tryd.prog laidF W) : GF W := by
  rw [MakeChecks.laidMetH_plain _ _ _ (by kernel_rfl)] at h
  obtain ⟨ps, ⟨g0, t0, cs0, f0, p0, q0, hg0, ht0, hv0, hd0, ⟨g1, t1, cs1, f1, p1, q1, hg1, ht1, hv1, hd1, ⟨g2, t2, cs2, f2, p2, q2, hg2, ht2, hv2, hd2, ⟨g3, t3, cs3, f3, p3, q3, hg3, ht3, hv3, hd3, _, _⟩, _⟩, _⟩, _⟩, _, _⟩ := h
  obtain rfl := Option.some.inj ((show (Tryd.prog.globals[g0]?).map (·.type) = some 24 by rw [Option.some.inj (hg0.symm.trans (show Tryd.prog.globalNamed "yashmak/field.prime" = some 0 by kernel_rfl))]; kernel_rfl).symm.trans ht0)
  obtain rfl := Option.some.inj ((show (Tryd.prog.globals[g1]?).map (·.type) = some 24 by rw [Option.some.inj (hg1.symm.trans (show Tryd.prog.globalNamed "yashmak/field.less2" = some 3 by kernel_rfl))]; kernel_rfl).symm.trans ht1)
  obtain rfl := Option.some.inj ((show (Tryd.prog.globals[g2]?).map (·.type) = some 24 by rw [Option.some.inj (hg2.symm.trans (show Tryd.prog.globalNamed "yashmak/field.eighth" = some 1 by kernel_rfl))]; kernel_rfl).symm.trans ht2)
  obtain rfl := Option.some.inj ((show (Tryd.prog.globals[g3]?).map (·.type) = some 24 by rw [Option.some.inj (hg3.symm.trans (show Tryd.prog.globalNamed "yashmak/field.quarter" = some 2 by kernel_rfl))]; kernel_rfl).symm.trans ht3)
  have hu : Tryd.prog.underlying 24 = some (.array 4 22) := by kernel_rfl
  have hu2 : Tryd.prog.underlying 22 = some (.int .u64) := by kernel_rfl
  have hc : Tryd.prog.cellsOf 22 = 1 := by kernel_rfl
  have hn : Tryd.prog.cellsOf 24 = 4 := by kernel_rfl
  have a0 := gInts_of (l := primeL) hg0 hv0 hu hu2 hc hn hd0
  have a1 := gInts_of (l := less2L) hg1 hv1 hu hu2 hc hn hd1
  have a2 := gInts_of (l := eighthL) hg2 hv2 hu hu2 hc hn hd2
  have a3 := gInts_of (l := quarterL) hg3 hv3 hu hu2 hc hn hd3
  rw [Option.some.inj (hg0.symm.trans (show Tryd.prog.globalNamed "yashmak/field.prime" = some 0 by kernel_rfl))] at a0
  rw [Option.some.inj (hg1.symm.trans (show Tryd.prog.globalNamed "yashmak/field.less2" = some 3 by kernel_rfl))] at a1
  rw [Option.some.inj (hg2.symm.trans (show Tryd.prog.globalNamed "yashmak/field.eighth" = some 1 by kernel_rfl))] at a2
  rw [Option.some.inj (hg3.symm.trans (show Tryd.prog.globalNamed "yashmak/field.quarter" = some 2 by kernel_rfl))] at a3
  exact ⟨a0, a2, a3, a1⟩

theorem own : ownKnob Tryd.prog.godebug = none := by kernel_rfl
theorem laidOut : laidOutB Tryd.prog = true := by kernel_rfl
theorem u64_has {l : List Int} (h : hasL .u64 l) : U64 l := fun x hx => by
  have := h x hx
  simp only [IntKind.has, IntKind.min, IntKind.max, IntKind.signed, IntKind.bits] at this
  simp at this
  omega
theorem u8_has' {l : List Int} (h : hasL .u8 l) : ∀ x ∈ l, 0 ≤ x ∧ x < 256 := fun x hx => by
  have := h x hx
  simp only [IntKind.has, IntKind.min, IntKind.max, IntKind.signed, IntKind.bits] at this
  simp at this
  omega
end Go.Proofs.YtdmphnfpcblfnaaDoor
