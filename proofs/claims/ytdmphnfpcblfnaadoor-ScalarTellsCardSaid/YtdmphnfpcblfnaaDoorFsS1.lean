import Derived.Test.YtdmphnfpcblfnaaDoorFs2
import Derived.Test.YtdmphnfpcblfnaaDoorSxIn
/- Package scalar: what it takes of the listed variables; the closure. -/
namespace Go.Proofs.YtdmphnfpcblfnaaDoor
open Go Go.Sx
open Go.RowKit (Below)
set_option maxRecDepth 100000

/-- Nothing is taken of the listed variables. -/
def GT (_ : World) : Prop := True
abbrev gmT : Mem := []
theorem gT : GlobIs GT gmT := ⟨fun i b h => by simp [Sx.look] at h, fun w _ i b h => by simp [Sx.look] at h⟩
theorem cxT_ok {fns : List (Nat × (List SV → T SV))} (h : FnsOk Tryd.prog GT fns) : CxOk Tryd.prog GT (cxF fns) := cxOk_of tab_ok exts_ok h (fun _ _ _ h => h) (by kernel_rfl)
theorem noBlT {c : Code} : ∀ Γ : Gam, Γ.G = GT → Γ.G Γ.w0 → GlobOk Γ → Γ.n0 = 0 → BlocksIn Tryd.prog Γ no c := fun _ _ _ _ _ => blocksIn_none c

/-- What is taken of scalar's variable. -/
def GS (w : World) : Prop := gFe w 4 orderL
def gmS : Mem := [(1000004, .st false [.ints .u64 4 orderL])]
theorem GS_keep (w w' : World) (hb : Below w.heap.size w w') (h : GS w) : GS w' := gFe_keep hb h
theorem gS : GlobIs GS gmS := by
  have key : ∀ i b, Sx.look gmS i = some b → i = 1000004 ∧ b = .st false [.ints .u64 4 orderL] := by
    intro i b h
    simp only [gmS, Sx.look] at h
    split at h
    · rename_i hi; have := Nat.eq_of_beq_eq_true hi; subst this; cases h; exact ⟨rfl, rfl⟩
    · cases h
  refine ⟨fun i b h => ?_, fun w hw i b h => ?_⟩
  · obtain ⟨rfl, rfl⟩ := key i b h
    exact ⟨fun p hp => by simp at hp; subst hp; simp [isAtom, orderL], rfl, fun p => by simp [Blk.ids, idsL, SV.ids], by omega⟩
  · obtain ⟨rfl, rfl⟩ := key i b h
    refine ⟨hw.1, fun ρ j v hj => ?_⟩
    simp only [Blk.cells, cellsL, SV.den, Value.cells, List.append_nil, List.getElem?_map, Option.map_eq_some_iff] at hj
    obtain ⟨x, hx, rfl⟩ := hj
    exact hw.2 j x hx
theorem cxS_ok {fns : List (Nat × (List SV → T SV))} (h : FnsOk Tryd.prog GS fns) : CxOk Tryd.prog GS (cxF fns) := cxOk_of tab_ok exts_ok h GS_keep (by kernel_rfl)
theorem noBlS {c : Code} : ∀ Γ : Gam, Γ.G = GS → Γ.G Γ.w0 → GlobOk Γ → Γ.n0 = 0 → BlocksIn Tryd.prog Γ no c := fun _ _ _ _ _ => blocksIn_none c

theorem run66T (x y : Int) : runX (cxF []) no 100 Tryd.f66 (body Tryd.f66) (can n2 [.n x, .n y]) gmT = .ret (.tup [.int .u64 (IntKind.u64.wrap (IntKind.u64.wrap (IntKind.u64.wrap (shrI .u64 x 32 * shrI .u64 y 32) + shrI .u64 (IntKind.u64.wrap (IntKind.u64.wrap (shrI .u64 x 32 * bitsI .and .u64 y 4294967295) + shrI .u64 (IntKind.u64.wrap (bitsI .and .u64 x 4294967295 * bitsI .and .u64 y 4294967295)) 32)) 32) +
      shrI .u64 (IntKind.u64.wrap (bitsI .and .u64 (IntKind.u64.wrap (IntKind.u64.wrap (shrI .u64 x 32 * bitsI .and .u64 y 4294967295) + shrI .u64 (IntKind.u64.wrap (bitsI .and .u64 x 4294967295 * bitsI .and .u64 y 4294967295)) 32)) 4294967295 + IntKind.u64.wrap (bitsI .and .u64 x 4294967295 * shrI .u64 y 32))) 32)), .int .u64 (IntKind.u64.wrap (x * y))]) := by kernel_rfl
theorem fn66T : FnOk Tryd.prog GT 66 (spG n2 mul64F) := by
  refine fnOk_of (cxT_ok (fns := []) trivial) gT Tryd.func66 (c := body Tryd.f66) (by kernel_rfl) (enters_of Tryd.func66 (by kernel_rfl) (by kernel_rfl)) (bl := no) (fuel := 100) mul64F_ids noBlT ?_
  intro xs v hfit hr
  obtain ⟨x, y, rfl⟩ := fit_n2 hfit
  simp only [mul64F, T.reach_need, T.reach_ret] at hr
  obtain ⟨⟨hx, hy⟩, rfl⟩ := hr
  refine ⟨closed_two _ _, ?_⟩
  rw [run66T]
  simp only [T.good]
  rw [mul64_hi x y hx hy, wrap_u64]

def m64T (x y c : Int) (k : Int → Int → T SV) : T SV := .need ((0 ≤ x ∧ x < 18446744073709551616) ∧ (0 ≤ y ∧ y < 18446744073709551616) ∧ 0 ≤ c ∧ c ≤ 1) (k ((x - y - c) % 18446744073709551616) (if x < y + c then 1 else 0))
theorem run68T (x0 x1 x2 x3 y0 y1 y2 y3 : Int) : runX (cxF []) no 100 Tryd.f68 (body Tryd.f68) (can l2 [.l [x0,x1,x2,x3], .l [y0,y1,y2,y3]]) gmT =
  (m64T x0 y0 0 fun r0 c => m64T x1 y1 c fun r1 c => m64T x2 y2 c fun r2 c => m64T x3 y3 c fun r3 c => .ret (.tup [.ints .u64 4 [r0, r1, r2, r3], .int .u64 c])) := by kernel_rfl
theorem fn68T : FnOk Tryd.prog GT 68 minusC := by
  refine fnOk_ct (cxT_ok (fns := []) trivial) gT Tryd.func68 (c := body Tryd.f68) (by kernel_rfl) (enters_of Tryd.func68 (by kernel_rfl) (by kernel_rfl)) (bl := no) (fuel := 100) noBlT ?_
  intro xs hfit hp
  obtain ⟨a, b, rfl, ha, hb⟩ := fit_l2 hfit
  obtain ⟨x0, x1, x2, x3, rfl⟩ := len4 ha
  obtain ⟨y0, y1, y2, y3, rfl⟩ := len4 hb
  obtain ⟨u1, u2⟩ := hp
  have hq := u64_4.1 u1
  obtain ⟨a0, a1, a2, a3⟩ := hq
  have hq := u64_4.1 u2
  obtain ⟨b0, b1, b2, b3⟩ := hq
  have e := subL_eq 4 [x0, x1, x2, x3] [y0, y1, y2, y3] 0 rfl rfl u1 u2 (by omega) (by omega)
  rw [Int.sub_zero, Int.add_zero] at e
  simp only [subL] at e
  refine ⟨by simp [fit, fit1, toL_length], ?_⟩
  rw [run68T]
  simp only [m64T, T.good]
  refine ⟨⟨a0, b0, by omega⟩, ⟨a1, b1, bit _⟩, ⟨a2, b2, bit _⟩, ⟨a3, b3, bit _⟩, ?_⟩
  simp only [outV, can, can1, ← (Prod.mk.inj e).1, ← (Prod.mk.inj e).2]
theorem fn68S : FnOk Tryd.prog GS 68 minusC := fn68T.mono fun _ _ => trivial

/-- The context in which 'left' runs: 'minus' by its contract, the closure walked into. -/
noncomputable abbrev cxL0 : Cx := cxF [(68, minusC)]
noncomputable abbrev cxL : Cx := cxL0.withInl (inlOne 75 (inlFn cxL0 no 100 Tryd.f75 (body Tryd.f75)))
theorem cxL_ok : CxOk Tryd.prog GS cxL :=
  cxInl_ok (cxS_ok (fns := [(68, minusC)]) ⟨fn68S, trivial⟩) Tryd.func75 (by kernel_rfl) (enters_of Tryd.func75 (by kernel_rfl) (by kernel_rfl)) fun Γ _ _ _ => blocksIn_none _
end Go.Proofs.YtdmphnfpcblfnaaDoor
