import Derived.Test.YtdmphnfpcblfnaaDoorFsTab
import Derived.Test.YtdmphnfpcblfnaaDoorSxSpec
import Derived.KernelRfl
namespace Go.Proofs.YtdmphnfpcblfnaaDoor
open Go Go.Sx
open Go.RowKit (Below)
set_option maxRecDepth 100000

/-- A listed variable's digits. -/
def gFe (w : World) (g : Nat) (l : List Int) : Prop := g < w.heap.size ∧ ∀ j x, l[j]? = some x → w.cell? ⟨g, j, none⟩ = some (.int .u64 x)

def primeL : List Int := [18446744073709551597, 18446744073709551615, 18446744073709551615, 9223372036854775807]
def eighthL : List Int := [18446744073709551614, 18446744073709551615, 18446744073709551615, 1152921504606846975]
def quarterL : List Int := [18446744073709551611, 18446744073709551615, 18446744073709551615, 2305843009213693951]
def less2L : List Int := [18446744073709551595, 18446744073709551615, 18446744073709551615, 9223372036854775807]
def orderL : List Int := [6346243789798364141, 1503914060200516822, 0, 1152921504606846976]

/-- What is taken of the listed variables. -/
def GF (w : World) : Prop := gFe w 0 primeL ∧ gFe w 1 eighthL ∧ gFe w 2 quarterL ∧ gFe w 3 less2L

theorem gFe_keep {w w' : World} {g : Nat} {l : List Int} (hb : Below w.heap.size w w') (h : gFe w g l) : gFe w' g l :=
  ⟨Nat.lt_of_lt_of_le h.1 hb.size, fun j x hj => by rw [hb.cell (p := ⟨g, j, none⟩) h.1]; exact h.2 j x hj⟩
theorem GF_keep (w w' : World) (hb : Below w.heap.size w w') (h : GF w) : GF w' := ⟨gFe_keep hb h.1, gFe_keep hb h.2.1, gFe_keep hb h.2.2.1, gFe_keep hb h.2.2.2⟩

def gmF : Mem := [(1000000, .st false [.ints .u64 4 primeL]), (1000001, .st false [.ints .u64 4 eighthL]), (1000002, .st false [.ints .u64 4 quarterL]), (1000003, .st false [.ints .u64 4 less2L])]

theorem gmF_cases {i : Nat} {b : Blk} (h : Sx.look gmF i = some b) : ∃ g l, i = 1000000 + g ∧ b = .st false [.ints .u64 4 l] ∧ l.length = 4 ∧ ∀ w, GF w → gFe w g l := by
  simp only [gmF, Sx.look] at h
  split at h
  · rename_i hi; have := Nat.eq_of_beq_eq_true hi; subst this; cases h; exact ⟨0, _, rfl, rfl, rfl, fun w h => h.1⟩
  split at h
  · rename_i hi; have := Nat.eq_of_beq_eq_true hi; subst this; cases h; exact ⟨1, _, rfl, rfl, rfl, fun w h => h.2.1⟩
  split at h
  · rename_i hi; have := Nat.eq_of_beq_eq_true hi; subst this; cases h; exact ⟨2, _, rfl, rfl, rfl, fun w h => h.2.2.1⟩
  split at h
  · rename_i hi; have := Nat.eq_of_beq_eq_true hi; subst this; cases h; exact ⟨3, _, rfl, rfl, rfl, fun w h => h.2.2.2⟩
  cases h

theorem gmF_is : GlobIs GF gmF := by
  refine ⟨fun i b h => ?_, fun w hw i b h => ?_⟩
  · obtain ⟨g, l, rfl, rfl, hl, -⟩ := gmF_cases h
    exact ⟨fun p hp => by simp at hp; subst hp; simpa [isAtom] using hl, rfl, fun p => by simp [Blk.ids, idsL, SV.ids], by omega⟩
  · obtain ⟨g, l, rfl, rfl, hl, hg⟩ := gmF_cases h
    have := hg w hw
    refine ⟨by rw [Nat.add_sub_cancel_left]; exact this.1, fun ρ j v hj => ?_⟩
    rw [Nat.add_sub_cancel_left]
    simp only [Blk.cells, cellsL, SV.den, Value.cells, List.append_nil, List.getElem?_map, Option.map_eq_some_iff] at hj
    obtain ⟨x, hx, rfl⟩ := hj
    exact this.2 j x hx

noncomputable def body (f : Func) : Code := f.body.getD .skip
noncomputable def exts : List (Nat × (List SV → T SV)) := [(63, spG n3 add64F), (57, spG n3 sub64F)]
noncomputable abbrev cxF (fns : List (Nat × (List SV → T SV))) : Cx := cxOf (tabOf tabL) exts fns
noncomputable abbrev runF (fns : List (Nat × (List SV → T SV))) (bl : Blocks) (fuel : Nat) (f : Func) (args : List SV) : T SV := runX (cxF fns) bl fuel f (body f) args gmF
abbrev no : Blocks := fun _ => none

theorem exts_ok : ExtsOk Tryd.prog exts :=
  ⟨add64_ext (run_callFunc_extern Tryd.func63 (by kernel_rfl) (by kernel_rfl) (by kernel_rfl) (e := add64Entry) (by kernel_rfl)),
   sub64_ext (run_callFunc_extern Tryd.func57 (by kernel_rfl) (by kernel_rfl) (by kernel_rfl) (e := sub64Entry) (by kernel_rfl)), trivial⟩

theorem cxF_ok {fns : List (Nat × (List SV → T SV))} (h : FnsOk Tryd.prog GF fns) : CxOk Tryd.prog GF (cxF fns) := cxOk_of tab_ok exts_ok h GF_keep (by kernel_rfl)

theorem run66 (x y : Int) : runX (cxF []) no 100 Tryd.f66 (body Tryd.f66) (can n2 [.n x, .n y]) gmF = .ret (.tup [.int .u64 (IntKind.u64.wrap (IntKind.u64.wrap (IntKind.u64.wrap (shrI .u64 x 32 * shrI .u64 y 32) + shrI .u64 (IntKind.u64.wrap (IntKind.u64.wrap (shrI .u64 x 32 * bitsI .and .u64 y 4294967295) + shrI .u64 (IntKind.u64.wrap (bitsI .and .u64 x 4294967295 * bitsI .and .u64 y 4294967295)) 32)) 32) +
      shrI .u64 (IntKind.u64.wrap (bitsI .and .u64 (IntKind.u64.wrap (IntKind.u64.wrap (shrI .u64 x 32 * bitsI .and .u64 y 4294967295) + shrI .u64 (IntKind.u64.wrap (bitsI .and .u64 x 4294967295 * bitsI .and .u64 y 4294967295)) 32)) 4294967295 + IntKind.u64.wrap (bitsI .and .u64 x 4294967295 * shrI .u64 y 32))) 32)), .int .u64 (IntKind.u64.wrap (x * y))]) := by kernel_rfl

theorem noBl {c : Code} : ∀ Γ : Gam, Γ.G = GF → Γ.G Γ.w0 → GlobOk Γ → Γ.n0 = 0 → BlocksIn Tryd.prog Γ no c := fun _ _ _ _ _ => blocksIn_none c

theorem fn66 : FnOk Tryd.prog GF 66 (spG n2 mul64F) := by
  refine fnOk_of (cxF_ok (fns := []) trivial) gmF_is Tryd.func66 (c := body Tryd.f66) (by kernel_rfl) (enters_of Tryd.func66 (by kernel_rfl) (by kernel_rfl)) (bl := no) (fuel := 100) mul64F_ids noBl ?_
  intro xs v hfit hr
  obtain ⟨x, y, rfl⟩ := fit_n2 hfit
  simp only [mul64F, T.reach_need, T.reach_ret] at hr
  obtain ⟨⟨hx, hy⟩, rfl⟩ := hr
  refine ⟨closed_two _ _, ?_⟩
  rw [run66]
  simp only [T.good]
  rw [mul64_hi x y hx hy, wrap_u64]
end Go.Proofs.YtdmphnfpcblfnaaDoor
