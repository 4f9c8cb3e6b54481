import Derived.Test.YtdmphnfpcblfnaaDoorFsClose
/- What scalar's listed variable gives. -/
namespace Go.Proofs.YtdmphnfpcblfnaaDoor
open Go Go.Sx
open Go.ChangeShapes Go.WideShapes Go.RowKit
set_option maxRecDepth 100000

noncomputable abbrev laidS : List (String × DataW Unit) := [("yashmak/scalar.order", Rows.laid_yashmak_scalar_order)]
theorem door_metS (os : Os) (args : Array Value) : laidMetH Tryd.prog laidS ((World.doorLaid Tryd.prog 400 os).forCall (fun _ _ => 0) ⟨#[], args, []⟩).memory :=
  laidMetH_of_parts3 (fuel := 8) (laidMet_of_run' 8 (by kernel_rfl) (by kernel_rfl)) (by kernel_rfl) (by kernel_rfl)
theorem order_of_laid {W : World} (h : laidMetH Tryd.prog laidS W) : gFe W 4 orderL := by
  rw [MakeChecks.laidMetH_plain _ _ _ (by kernel_rfl)] at h
  obtain ⟨ps, ⟨g0, t0, cs0, f0, p0, q0, hg0, ht0, hv0, hd0, _, _⟩, _, _⟩ := h
  obtain rfl := Option.some.inj ((show (Tryd.prog.globals[g0]?).map (·.type) = some 38 by rw [Option.some.inj (hg0.symm.trans (show Tryd.prog.globalNamed "yashmak/scalar.order" = some 4 by kernel_rfl))]; kernel_rfl).symm.trans ht0)
  have hu : Tryd.prog.underlying 38 = some (.array 4 22) := by kernel_rfl
  have hu2 : Tryd.prog.underlying 22 = some (.int .u64) := by kernel_rfl
  have hc : Tryd.prog.cellsOf 22 = 1 := by kernel_rfl
  have hn : Tryd.prog.cellsOf 38 = 4 := by kernel_rfl
  have a0 := gInts_of (l := orderL) hg0 hv0 hu hu2 hc hn hd0
  rw [Option.some.inj (hg0.symm.trans (show Tryd.prog.globalNamed "yashmak/scalar.order" = some 4 by kernel_rfl))] at a0
  exact a0
theorem u8_has {l : List Int} (h : hasL .u8 l) : ∀ x ∈ l, 0 ≤ x ∧ x < 256 := fun x hx => by
  have := h x hx
  simp only [IntKind.has, IntKind.min, IntKind.max, IntKind.signed, IntKind.bits] at this
  simp at this
  omega
end Go.Proofs.YtdmphnfpcblfnaaDoor
